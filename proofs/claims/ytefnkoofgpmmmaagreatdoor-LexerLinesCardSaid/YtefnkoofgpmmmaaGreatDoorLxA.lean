/- lexer.split: the words of a line. strings.Cut at one byte. -/
import Derived.Test.YtefnkoofgpmmmaaGreatDoorN5
import Derived.Test.YtefnkoofgpmmmaaGreatDoorSh
import Derived.Test.YtefnkoofgpmmmaaGreatDoorSl
import Derived.Test.YtefnkoofgpmmmaaGreatDoorN4
import Derived.Test.YtefnkoofgpmmmaaGreatDoorN3
import Derived.Deep.QuietTactic
import Derived.BigQuiet
namespace Go.Proofs.YtefnkoofgpmmmaaGreatDoor
set_option maxRecDepth 100000
open Go.RowKit Go.Shelf

theorem strIdx1 (s : ByteArray) (c : UInt8) (w : World) : Calls Tryz.prog 204 #[.string s, .string ⟨#[c]⟩] w fun e w' => e = .returned (.int .i64 (Lib.indexByte s.data.toList c)) ∧ w' = w :=
  Any.stringslite_Index_one (ρ := Tryz.lays145_ren) { Tryz.lays145 with } s c w
def CutPost (c : UInt8) (s : ByteArray) (w : World) (e : Ending) (w' : World) : Prop := (∃ n, w' = w.drewN n) ∧
  ((Lib.indexByte s.data.toList c < 0 ∧ e = .returned (.tuple #[.string s, .string ⟨#[]⟩, .bool false])) ∨ ∃ i : Nat, Lib.indexByte s.data.toList c = i ∧ e = .returned (.tuple #[.string (s.extract 0 i), .string (s.extract (i + 1) s.size), .bool true]))
set_option maxHeartbeats 1000000 in
theorem cutIn (c : UInt8) (s : ByteArray) (w : World) (hs : s.size ≤ maxLen) : Calls Tryz.prog 152 #[.string s, .string ⟨#[c]⟩] w (CutPost c s w) := by
  have HN := Lib.hid (fun (h : Lib.indexByte s.data.toList c < 0) => show CutPost c s w (.returned (.tuple #[.string s, .string ⟨#[]⟩, .bool false])) w from ⟨⟨0, rfl⟩, .inl ⟨h, rfl⟩⟩)
  have HY := Lib.hid (fun (n i : Nat) (h : Lib.indexByte s.data.toList c = i) => show CutPost c s w (.returned (.tuple #[.string (s.extract 0 i), .string (s.extract (i + 1) s.size), .bool true])) (w.drewN n) from ⟨⟨n, rfl⟩, .inr ⟨i, h, rfl⟩⟩)
  generalize CutPost c s w = GP at *
  obtain ⟨z, hz⟩ : ∃ z, z = Lib.indexByte s.data.toList c := ⟨_, rfl⟩
  have hge : -1 ≤ z := by rw [hz]; exact Lib.indexByte_ge _ _
  have HZ := Lib.hid hz
  unfold maxLen at hs
  by_cases hneg : z < 0
  · have hneg' : ¬ (0 ≤ z) := by omega
    clear hz
    go_enter Tryz.func152, Tryz.ntmps152
    go_wp2_with (go_at_call 204; refine (strIdx1 _ _ _).mono ?_; rintro e w' ⟨rfl, rfl⟩; rw [← HZ.out])
    go_ret3
    exact HN.out (by rw [← HZ.out]; exact hneg)
  · obtain ⟨i, rfl⟩ := Int.eq_ofNat_of_zero_le (show 0 ≤ z by omega)
    have hi := (pcsB_some hz.symm).1
    have hi1 : (i : Int) ≤ (s.size : Int) := by omega
    have hi2 : (i : Int) + 1 ≤ (s.size : Int) := by omega
    have e2 : wrap64 ((i : Int) + 1) = (i : Int) + 1 := by unfold wrap64; omega
    clear hz hge
    go_enter Tryz.func152, Tryz.ntmps152
    go_wp2_with (go_at_call 204; refine (strIdx1 _ _ _).mono ?_; rintro e w' ⟨rfl, rfl⟩; rw [← HZ.out])
    go_quiet (fail)
    go_wp2
    go_ret3
    exact HY.out _ i HZ.out.symm
set_option maxHeartbeats 1000000 in
theorem cutOut (c : UInt8) (s : ByteArray) (w : World) (hs : s.size ≤ maxLen) : Calls Tryz.prog 98 #[.string s, .string ⟨#[c]⟩] w (CutPost c s w) := by
  have HQ := Lib.hid (cutIn c s w hs)
  go_enter Tryz.func98, Tryz.ntmps98
  go_wp2_with fail
  refine HQ.out.mono ?_
  rintro e w1 ⟨⟨n, rfl⟩, (⟨h, rfl⟩ | ⟨i, h, rfl⟩)⟩
  · have HR := Lib.hid (show CutPost c s w (.returned (.tuple #[.string s, .string ⟨#[]⟩, .bool false])) (w.drewN n) from ⟨⟨n, rfl⟩, .inl ⟨h, rfl⟩⟩)
    generalize CutPost c s w = GP at *
    clear h
    go_wp2_with fail
    go_ret3
    exact HR.out
  · have HR := Lib.hid (show CutPost c s w (.returned (.tuple #[.string (s.extract 0 i), .string (s.extract (i + 1) s.size), .bool true])) (w.drewN n) from ⟨⟨n, rfl⟩, .inr ⟨i, h, rfl⟩⟩)
    generalize CutPost c s w = GP at *
    clear h
    go_wp2_with fail
    go_ret3
    exact HR.out
theorem info_word : ∃ (i : TypeInfo) (z : Value), Tryz.prog.info? 35 = some i ∧ i.zero = some z ∧ i.size = 2 ∧ i.bytes = 24 ∧ z.cells.size = 2 := by
  have h : ((Tryz.prog.info? 35).map fun i => (i.size, i.bytes, i.zero.map fun z => z.cells.size)) = some (2, 24, some 2) := by kernel_rfl
  cases hi : Tryz.prog.info? 35 with
  | none => rw [hi] at h; cases h
  | some i =>
    rw [hi] at h
    simp only [Option.map_some, Option.some.injEq, Prod.mk.injEq] at h
    obtain ⟨h1, h2, h3⟩ := h
    cases hz : i.zero with
    | none => rw [hz] at h3; cases h3
    | some z =>
      rw [hz] at h3
      simp only [Option.map_some, Option.some.injEq] at h3
      exact ⟨i, z, rfl, hz, h1, h2, h3⟩
theorem isE (r : ByteArray) : r.toList.isEmpty = decide (r.size = 0) := by
  rw [Lib.toList_data]
  have h : r.data.toList.length = r.size := by simp
  cases hl : r.data.toList with
  | nil => rw [hl] at h; simp at h; simp [← h]
  | cons a l => rw [hl] at h; simp only [List.length_cons] at h; have : r.size ≠ 0 := by omega
                simp [this]
def SplitPost (s : ByteArray) (a : Int) (w : World) (e : Ending) (w' : World) : Prop := Below w.heap.size w w' ∧ ∃ v, e = .returned v ∧ w'.ownsRow w.heap.size 35 2 v (wordsL a s).length (flat encW (wordsL a s))
set_option maxHeartbeats 4000000 in
theorem lexSplit (s : ByteArray) (a0 : Int) (w : World) (hs : s.size ≤ 100000) (ha : 0 ≤ a0 ∧ a0 ≤ 1000000) : Calls Tryz.prog 45 #[.string s, .int .i64 a0] w (SplitPost s a0 w) := by
  obtain ⟨i1, zT, hi1, hz10, hz11, hz12, hz1s⟩ := info_word
  have HI1 := Lib.hid hi1
  have HZ1 := Lib.hid hz10
  clear hi1 hz10
  have HQ := Lib.hid (fun (w' : World) (v : Value) (h1 : Below w.heap.size w w') (h2 : w'.ownsRow w.heap.size 35 2 v (wordsL a0 s).length (flat encW (wordsL a0 s))) => show SplitPost s a0 w (.returned v) w' from ⟨h1, v, rfl, h2⟩)
  generalize SplitPost s a0 w = GP at *
  go_enter Tryz.func45, Tryz.ntmps45
  go_wp2_with fail
  go_loopw [0, 1, 4] (fun s0 s1 s4 wr => ∃ (ws : List WordV) (r : ByteArray) (a : Int), s0 = .string r ∧ s1 = .int .i64 a ∧ wordsL a0 s = ws ++ wordsL a r ∧ wr.ownsRow w.heap.size 35 2 s4 ws.length (flat encW ws) ∧ Below w.heap.size w wr ∧ ws.length + r.size ≤ s.size ∧ a + r.size = a0 + s.size ∧ 0 ≤ a) (fun s0 _ _ _ => match s0 with | .string r => r.size | _ => 0)
  case atStart => exact ⟨[], s, a0, rfl, rfl, rfl, ⟨by simp [flat], .inl ⟨rfl, rfl⟩⟩, Below.refl _ _, by simp, rfl, ha.1⟩
  case round =>
    obtain ⟨ws, r, a, rfl, rfl, hx, hown, hb, hl, hsum, ha0⟩ := hrel
    have HX := Lib.hid hx
    have HO := Lib.hid hown
    have HB := Lib.hid hb
    clear hx hown hb
    by_cases hr0 : r.size = 0
    · have t1 : r.toList.isEmpty = true := by rw [isE]; simp [hr0]
      have hR := HQ.out wr u4 HB.out (by
        have := HX.out
        rw [wordsL_nil hr0, List.append_nil] at this
        rw [this]
        exact HO.out)
      have HR := Lib.hid hR
      clear hR
      go_wp2_with fail
      exact HR.out
    · have t1 : r.toList.isEmpty = false := by rw [isE]; simp [hr0]
      go_wp2_with (go_at_call 98; refine (cutOut 32 _ _ (by unfold maxLen; omega)).mono ?_)
      rintro e w1 ⟨⟨n, rfl⟩, (⟨h, rfl⟩ | ⟨i, h, rfl⟩)⟩
      · have HW := Lib.hid (wordsL_none (a := a) h hr0)
        clear h
        have bd : Below wr.heap.size wr (wr.drewN n) := belowN (Below.refl _ _) n
        have HO2 := Lib.hid (owns_below HO.out bd)
        have HB2 := Lib.hid (HB.out.trans (bd.mono HB.out.size))
        clear HO HB bd
        generalize wr.drewN n = w1 at HO2 HB2 ⊢
        have bb := below1 w1 (.cells #[.string r, .int .i64 a] 35)
        have HMA := Lib.hid (owns_below HO2.out bb)
        have HBA := Lib.hid (HB2.out.trans (bb.mono HB2.out.size))
        have HZA := Lib.hid HBA.out.size
        have HBX := Lib.hid (BlkIs.alloc w1 [.string r, .int .i64 a] 35)
        have e1 : wrap64 ((r.size : Int) - 0) = r.size := by unfold wrap64; omega
        have e2 : wrap64 (a + r.size) = a + r.size := by unfold wrap64; omega
        clear bb
        go_wp2_with (at_builtin; refine wpList_append_own2 _ rfl _ _ 32 rfl w.heap.size 35 i1 zT 2 24 Tryz.underlying32 HI1.out HZ1.out hz11 hz12 hz1s (by decide) u4 ws.length (flat encW ws) rfl HMA.out ⟨w1.heap.size, 0, none⟩ 1 1 [.string r, .int .i64 a] rfl rfl ?qc2 ?qc3 ?qc4 ?qc5 ?qc6 ?_)
        case qc2 =>
          intro jj u hj
          rw [Go.WideShapes.add_plain, Nat.zero_add, HBX.out.cell jj]
          exact hj
        case qc3 => intro u hu; simp at hu; rcases hu with rfl | rfl <;> rfl
        case qc4 => unfold maxLen; omega
        case qc5 => omega
        case qc6 => exact HZA.out
        intro v' w4 hown3 hgrow _
        have HB4 := Lib.hid (HBA.out.grown hgrow HZA.out (fun q hq => owns_block HMA.out q hq))
        have HO4 := Lib.hid (show w4.ownsRow w.heap.size 35 2 v' (ws ++ [(r, a)]).length (flat encW (ws ++ [(r, a)])) from by
          have := hown3
          simpa [flat, encW] using this)
        clear hown3 hgrow HBX
        have t2 : (ByteArray.mk #[]).toList.isEmpty = true := by decide +kernel
        go_wp2
        go_roundw
        case rel =>
          refine ⟨ws ++ [(r, a)], ⟨#[]⟩, a + r.size, rfl, congrArg _ hsum.symm, ?_, HO4.out, HB4.out, ?_, ?_, by omega⟩
          · rw [HX.out, HW.out, wordsL_nil rfl, List.append_nil]
          · have : (ByteArray.mk #[]).size = 0 := rfl
            rw [List.length_append, List.length_singleton, this]
            omega
          · have : (ByteArray.mk #[]).size = 0 := rfl
            rw [this]
            omega
        case measure =>
          have : (ByteArray.mk #[]).size = 0 := rfl
          show (ByteArray.mk #[]).size < r.size
          omega
      · obtain ⟨hi, hw2⟩ := wordsL_some (a := a) h
        have hz1 : (r.extract 0 i).size = i := by rw [ByteArray.size_extract]; omega
        have hz2 : (r.extract (i + 1) r.size).size = r.size - (i + 1) := by rw [ByteArray.size_extract]; omega
        rw [hz1] at hw2
        have HW := Lib.hid hw2
        clear h hw2
        have bd : Below wr.heap.size wr (wr.drewN n) := belowN (Below.refl _ _) n
        have HO2 := Lib.hid (owns_below HO.out bd)
        have HB2 := Lib.hid (HB.out.trans (bd.mono HB.out.size))
        clear HO HB bd
        generalize wr.drewN n = w1 at HO2 HB2 ⊢
        have HR1 := Lib.hid (show r.extract 0 i = r.extract 0 i from rfl)
        have hE1 := isE (r.extract 0 i)
        rw [hz1] at hE1
        generalize r.extract 0 i = p at HW hz1 hE1 ⊢
        generalize r.extract (i + 1) r.size = rest at HW hz2 ⊢
        clear HR1
        have e0 : wrap64 ((r.size : Int) - rest.size) = i + 1 := by unfold wrap64; omega
        have e2 : wrap64 (a + ((i : Int) + 1)) = a + (i + 1) := by unfold wrap64; omega
        by_cases hi0 : i = 0
        · have t2 : p.toList.isEmpty = true := by rw [hE1]; simp [hi0]
          clear hE1
          go_wp2
          go_roundw
          case rel =>
            refine ⟨ws, rest, a + i + 1, rfl, congrArg (Value.int .i64) (by omega), ?_, HO2.out, HB2.out, by omega, by omega, by omega⟩
            rw [HX.out, HW.out, if_pos hi0, List.nil_append]
          case measure =>
            show rest.size < r.size
            omega
        · have t2 : p.toList.isEmpty = false := by rw [hE1]; simp [hi0]
          clear hE1
          have bb := below1 w1 (.cells #[.string p, .int .i64 a] 35)
          have HMA := Lib.hid (owns_below HO2.out bb)
          have HBA := Lib.hid (HB2.out.trans (bb.mono HB2.out.size))
          have HZA := Lib.hid HBA.out.size
          have HBX := Lib.hid (BlkIs.alloc w1 [.string p, .int .i64 a] 35)
          clear bb
          go_wp2_with (at_builtin; refine wpList_append_own2 _ rfl _ _ 32 rfl w.heap.size 35 i1 zT 2 24 Tryz.underlying32 HI1.out HZ1.out hz11 hz12 hz1s (by decide) u4 ws.length (flat encW ws) rfl HMA.out ⟨w1.heap.size, 0, none⟩ 1 1 [.string p, .int .i64 a] rfl rfl ?qc2 ?qc3 ?qc4 ?qc5 ?qc6 ?_)
          case qc2 =>
            intro jj u hj
            rw [Go.WideShapes.add_plain, Nat.zero_add, HBX.out.cell jj]
            exact hj
          case qc3 => intro u hu; simp at hu; rcases hu with rfl | rfl <;> rfl
          case qc4 => unfold maxLen; omega
          case qc5 => omega
          case qc6 => exact HZA.out
          intro v' w4 hown3 hgrow _
          have HB4 := Lib.hid (HBA.out.grown hgrow HZA.out (fun q hq => owns_block HMA.out q hq))
          have HO4 := Lib.hid (show w4.ownsRow w.heap.size 35 2 v' (ws ++ [(p, a)]).length (flat encW (ws ++ [(p, a)])) from by
            have := hown3
            simpa [flat, encW] using this)
          clear hown3 hgrow HBX
          go_wp2
          go_roundw
          case rel =>
            refine ⟨ws ++ [(p, a)], rest, a + i + 1, rfl, congrArg (Value.int .i64) (by omega), ?_, HO4.out, HB4.out, ?_, by omega, by omega⟩
            · rw [HX.out, HW.out, if_neg hi0, List.append_assoc]
            · rw [List.length_append, List.length_singleton]
              omega
          case measure =>
            show rest.size < r.size
            omega
end Go.Proofs.YtefnkoofgpmmmaaGreatDoor

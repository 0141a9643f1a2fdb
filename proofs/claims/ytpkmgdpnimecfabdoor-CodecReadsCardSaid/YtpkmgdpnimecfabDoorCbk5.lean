/- CodecBack: what is written has the text that the document says, and is read as it was. Every input. -/
import Derived.Test.YtpkmgdpnimecfabDoorCbk4
import Derived.Test.YtpkmgdpnimecfabDoorAwk6
import Derived.Deep.DeepCutAuto
namespace Go.Proofs.YtpkmgdpnimecfabDoor
open Go.ChangeShapes Go.WideShapes Go.ChangeAt Go.RowKit

/-- a call's box -/
def OpAt (q : Nat) (o : OpV) (w : World) : Prop := w.heap[q]? = some (.cells (encO o).toArray 76 (0, 0))
theorem OpAt.safe {q : Nat} {o : OpV} {w : World} (h : OpAt q o w) : Safe w q := ⟨_, _, _, h, by decide⟩
theorem OpAt.lt {q : Nat} {o : OpV} {w : World} (h : OpAt q o w) : q < w.heap.size := h.safe.lt
theorem OpAt.below {q : Nat} {o : OpV} {w w' : World} (h : OpAt q o w) (hb : Below w.heap.size w w') : OpAt q o w' := (hb.block q h.lt).trans h
theorem OpAt.kept {R b q : Nat} {o : OpV} {w w' : World} (h : OpAt q o w) (hk : KeptW R b w w') (hne : q ≠ b) : OpAt q o w' := (hk.2.1 q (.inr h.safe) hne).trans h
theorem OpAt.keptB {b q : Nat} {o : OpV} {w w' : World} (h : OpAt q o w) (hk : KeptB b w w') (hne : q ≠ b) : OpAt q o w' := (hk.2.1 q h.lt hne).trans h
theorem OpAt.cells {q : Nat} {o : OpV} {w : World} (h : OpAt q o w) : w.cell? ⟨q, 0, none⟩ = some (.int .i64 o.kind) ∧ w.cell? ⟨q, 1, none⟩ = some (.int .i64 o.n) ∧ w.cell? ⟨q, 2, none⟩ = some (.int .i64 o.lo) ∧ w.cell? ⟨q, 3, none⟩ = some (.int .i64 o.hi) ∧
    w.cell? ⟨q, 4, none⟩ = some (.string o.s) ∧ w.cell? ⟨q, 5, none⟩ = some (.int .i64 o.lv) ∧ w.cell? ⟨q, 5 + 1, none⟩ = some (.int .u16 (o.set : Int)) := by
  refine ⟨?_, ?_, ?_, ?_, ?_, ?_, ?_⟩ <;> (rw [Lib.cell_of_heap h]; rfl)
theorem OpAt.alloc (w : World) (k0 n0 lo0 hi0 : Int) (s0 : ByteArray) (m : Int) (x0 : Nat) : OpAt w.heap.size ⟨k0, n0, lo0, hi0, s0, m, x0⟩ (w.alloc (.cells #[.int .i64 k0, .int .i64 n0, .int .i64 lo0, .int .i64 hi0, .string s0, .int .i64 (m), .int .u16 (x0 : Int)] 76)) := (MapKept.heap_alloc w _).1
theorem OpAt.set5 {q : Nat} {k0 n0 lo0 hi0 m : Int} {s0 : ByteArray} {x0 : Nat} {w : World} (h : OpAt q ⟨k0, n0, lo0, hi0, s0, m, x0⟩ w) (m' : Int) : OpAt q ⟨k0, n0, lo0, hi0, s0, m', x0⟩ (w.setCell ⟨q, 5, none⟩ (.int .i64 m')) := by
  unfold OpAt
  rw [Joins.block_setCell h]
  rfl
theorem keptQ {c q : Nat} {w w' : World} (hk : KeptB c w.drew w') (hq : q < w.heap.size) (hne : q ≠ c) : ∀ o, w'.cell? ⟨q, o, none⟩ = w.cell? ⟨q, o, none⟩ := fun o => World.cell?_of_block (w := w) (hk.2.1 q hq hne)
/-- what the reading loop keeps -/
def RLoop (w : World) (c : Nat) (xs : List OpV) (k : Nat) (wr : World) : Prop := RdAt c (restT xs k) false wr ∧ Below w.heap.size w wr
/-- what the writing loop keeps -/
def WLoop (w : World) (b : Nat) (xs : List OpV) (k : Nat) (wr : World) : Prop :=
  (∃ T, WrAt (b + 1) T b (allT xs k) wr) ∧ Below w.heap.size w wr ∧ (k = 0 → wr.heap[b]? = some (.cells #[.pointer none, .slice none 0 0] 59 (0, 0)))
set_option maxRecDepth 100000 in
set_option maxHeartbeats 16000000 in
theorem codecBack_walk (v : Value) (xs : List OpV) (w : World) (hL : SlAt 7 encO w v xs) (hn : xs.length ≤ maxLen) (hok : ∀ j, j < xs.length → (xs[j]!).ok) (hM : Met w) :
    Calls Tryd.prog 12 #[v] w fun e w' => e = .returned (.bool true) ∧ Below w.heap.size w w' := by
  have HL := Lib.hid hL
  have HM := Lib.hid hM
  have HN := Lib.hid hn
  obtain ⟨pl, cl, rfl, _, _⟩ := id hL
  cases hf : fewB xs with
  | false =>
    clear hL hM hn hok
    go_enter Tryd.func12, Tryd.ntmps12
    go_wp2_with fail
    refine (awake06 _ HM.out).mono ?_
    rintro e w1 ⟨rfl, hb⟩
    have HB := Lib.hid hb
    clear hb
    go_wp2_with fail
    refine (few06 _ xs _ (HL.out.below HB.out) HN.out).mono ?_
    rintro e w2 ⟨rfl, hb⟩
    rw [hf]
    have HB := Lib.hid (HB.out.trans (hb.mono HB.out.size))
    clear hb
    go_wp2_with fail
    refine (awake06 _ (HM.out.below HB.out)).mono ?_
    rintro e w3 ⟨rfl, hb⟩
    have HB := Lib.hid (HB.out.trans (hb.mono HB.out.size))
    clear hb
    go_wp2
    go_ret
    exact ⟨rfl, HB.out⟩
  | true =>
    have hx100 : xs.length ≤ 100 := by
      unfold fewB at hf
      rw [Bool.and_eq_true] at hf
      simpa using hf.2
    have hokO : ∀ j, j < xs.length → okO xs[j]! := fun j hj => by
      have h1 := hok j hj
      unfold fewB at hf
      rw [Bool.and_eq_true, List.all_eq_true] at hf
      have h2 := hf.1 xs[j] (List.getElem_mem hj)
      rw [getElem!_pos xs j hj] at h1 ⊢
      exact ⟨h1.1, h1.2.2.1, by simpa using h2⟩
    have HO := Lib.hid hokO
    clear hL hM hn hok hokO
    go_enter Tryd.func12, Tryd.ntmps12
    go_wp2_with fail
    refine (awake06 _ HM.out).mono ?_
    rintro e w1 ⟨rfl, hb⟩
    have HB := Lib.hid hb
    clear hb
    go_wp2_with fail
    refine (few06 _ xs _ (HL.out.below HB.out) HN.out).mono ?_
    rintro e w2 ⟨rfl, hb⟩
    rw [hf]
    have HB := Lib.hid (HB.out.trans (hb.mono HB.out.size))
    clear hb hf
    go_wp2
    have h7 : 7 ≤ w2.heap.size := Nat.le_trans HM.out.size HB.out.size
    have hbz : w.heap.size ≤ w2.heap.size := HB.out.size
    have HW0 : Hid (WLoop w w2.heap.size xs 0 (w2.alloc (.cells #[.pointer none, .slice none 0 0] 59))) := Lib.hid (by
      have hh := (MapKept.heap_alloc w2 (.cells #[.pointer none, .slice none 0 0] 59)).1
      refine ⟨⟨w2.heap.size + 1, ?_⟩, HB.out.alloc HB.out.size _, fun _ => hh⟩
      rw [allT_zero]
      exact WrAt.fresh _ (by omega) (by simp) hh)
    generalize w2.alloc (.cells #[.pointer none, .slice none 0 0] 59) = W0 at HW0 ⊢
    generalize w2.heap.size = b at h7 hbz HW0 ⊢
    clear HB
    go_loopw [4, 21] (fun s i wr => ∃ k : Nat, k ≤ xs.length ∧ i = .int .i64 k ∧ s = .string ⟨(allT xs k).toArray⟩ ∧ WLoop w b xs k wr) (fun _ i _ => xs.length - (intOf i).toNat)
    case atStart => exact ⟨0, by omega, rfl, by rw [allT_zero], HW0.out⟩
    case round =>
      clear HW0
      obtain ⟨k, hk, rfl, rfl, hw⟩ := hrel
      have HW := Lib.hid hw
      clear hw
      by_cases hlt : k < xs.length
      · have hltz : (k : Int) < (xs.length : Int) := by omega
        have hTl := Lib.hid (allT_len HO.out k hk)
        have hTs := Lib.hid (allT_succ (xs := xs) hlt)
        obtain ⟨p', c', hv, _, hc⟩ := HL.out.below HW.out.2.1
        simp only [Value.slice.injEq] at hv
        obtain ⟨rfl, _, rfl⟩ := hv
        obtain ⟨bk, off, rfl, hb, hcell⟩ := hc (by omega)
        have d0 := hcell k hlt 0 _ rfl
        have d1 := hcell k hlt 1 _ rfl
        have d2 := hcell k hlt 2 _ rfl
        have d3 := hcell k hlt 3 _ rfl
        have d4 := hcell k hlt 4 _ rfl
        have d5 := hcell k hlt 5 _ rfl
        have d6 : wr.cell? ⟨bk, off + k * 7 + 5 + 1, none⟩ = some (.int .u16 (xs[k]!.set : Int)) := hcell k hlt 6 _ rfl
        rw [Nat.add_zero] at d0
        have HOK := Lib.hid (HO.out k hlt)
        clear hcell hc
        generalize xs[k]! = o at d0 d1 d2 d3 d4 d5 d6 hTs HOK
        obtain ⟨k0, n0, lo0, hi0, s0, lv0, x0⟩ := o
        simp only at d0 d1 d2 d3 d4 d5 d6
        have hA := i64_and7 lv0
        have hbr : b < wr.heap.size := by obtain ⟨T, h⟩ := HW.out.1; have := h.1; omega
        go_upto_region 9 with fail
        have hba := below1 wr (.cells #[.int .i64 k0, .int .i64 n0, .int .i64 lo0, .int .i64 hi0, .string s0, .int .i64 (lv0 % 8), .int .u16 (x0 : Int)] 76)
        have HWa : Hid (WLoop w b xs k (wr.alloc (.cells #[.int .i64 k0, .int .i64 n0, .int .i64 lo0, .int .i64 hi0, .string s0, .int .i64 (lv0 % 8), .int .u16 (x0 : Int)] 76))) := Lib.hid (by
          obtain ⟨⟨T, h1⟩, h2, h3⟩ := HW.out
          exact ⟨⟨T, h1.below hba⟩, h2.trans (hba.mono h2.size), fun e => (hba.block b hbr).trans (h3 e)⟩)
        have HOa := Lib.hid (OpAt.alloc wr k0 n0 lo0 hi0 s0 (lv0 % 8) x0)
        have hqb : wr.heap.size ≠ b := by omega
        generalize wr.alloc (.cells #[.int .i64 k0, .int .i64 n0, .int .i64 lo0, .int .i64 hi0, .string s0, .int .i64 (lv0 % 8), .int .u16 (x0 : Int)] 76) = WB at HWa HOa ⊢
        generalize wr.heap.size = q at HOa hqb ⊢
        clear HW hba d0 d1 d2 d3 d4 d5 d6 hb hbr hA
        have HS := Lib.hid (fun (p : List UInt8) (hp : p.length ≤ 322) => show ∀ W, (Op.stringOp .add ⟨(allT xs k).toArray⟩ ⟨p.toArray⟩).run Tryd.prog W = .ok (.string ⟨(allT xs k ++ p).toArray⟩) W from fun W =>
          run_string_add_lists W (allT xs k) p (by have := hTl.out; omega) (by omega))
        obtain ⟨T0, hT0⟩ := HWa.out.1
        have HT0 := Lib.hid hT0
        have hzb : b < WB.heap.size := by have := hT0.1; omega
        clear hT0
        obtain ⟨c0, c1, c2, c3, c4, c5, c6⟩ := HOa.out.cells
        simp only at c0 c1 c2 c3 c4 c5 c6
        by_cases h1 : k0 = 1
        · subst h1
          have hpc : pc ⟨1, n0, lo0, hi0, s0, lv0, x0⟩ = numL n0 := by unfold pc; rw [if_pos rfl]
          rw [hpc] at hTs
          have hnl := numL_len (show okI n0 from HOK.out.1)
          have hS := HS.out (numL n0) (by omega)
          rw [← hTs.out] at hS
          clear hpc
          go_wp2_with fail
          have bb := below1 WB (.cells #[.int .i64 n0] 3)
          have q1 := writerInt (b + 1) T0 b WB.heap.size 0 1 (allT xs k) [n0] (WB.alloc (.cells #[.int .i64 n0] 3)) (HT0.out.below bb) ((HM.out.below HWa.out.2.1).below bb) (by omega) (fun j hj => by
            match j, hj with
            | 0, _ => exact HOK.out.1) (by have := hTl.out; simp; omega) (by omega) (.inr (.inl (by simp))) (fun j hj => by
            match j, hj with
            | 0, _ => go_simp)
          refine q1.mono ?_
          rintro e w3 ⟨rfl, ⟨T3, hW3⟩, hk3⟩
          have HO3 := Lib.hid ((HOa.out.below bb).kept hk3 hqb)
          have HB3 := Lib.hid ((HWa.out.2.1.trans (bb.mono HWa.out.2.1.size)).trans (hk3.1 _ hbz))
          have HW3 := Lib.hid hW3
          clear q1 hW3 hk3 bb c0 c1 c2 c3 c4 c5 c6
          obtain ⟨c0, c1, c2, c3, c4, c5, c6⟩ := HO3.out.cells
          simp only at c0 c1 c2 c3 c4 c5 c6
          have K52 := Lib.hid (ref06Int n0 HOK.out.1)
          generalize (⟨(numL n0).toArray⟩ : ByteArray) = S1 at hS K52
          go_wp2_with fail
          refine (K52.out _).mono ?_
          rintro e w4 ⟨rfl, hb4⟩
          have HW4 : Hid (WLoop w b xs (k + 1) w4) := Lib.hid ⟨⟨T3, by have := HW3.out.below hb4; rwa [show numsL [n0] = numL n0 by simp [numsL], ← hTs.out] at this⟩, HB3.out.trans (hb4.mono HB3.out.size), fun e => by omega⟩
          clear hb4 c0 c1 c2 c3 c4 c5 c6
          go_wp2
          go_roundw
          case rel => first | exact ⟨k + 1, by omega, by go_num, rfl, HW4.out⟩ | ((repeat apply Exists.intro); exact ⟨⟨k + 1, by omega, by go_num, rfl, HW4.out⟩, rfl⟩)
          case measure => simp [intOf] <;> omega
        · by_cases h2 : k0 = 2
          · subst h2
            have hpc : pc ⟨2, n0, lo0, hi0, s0, lv0, x0⟩ = textL s0.data.toList := by unfold pc; rw [if_neg (by show ¬ (2 : Int) = 1; omega), if_pos rfl]
            rw [hpc] at hTs
            have hs3 : s0.size ≤ 300 := HOK.out.2.2
            have hsl : s0.data.toList.length = s0.size := by rw [Array.length_toList]; rfl
            have hnl := numL_len (n := (s0.data.toList.length : Int)) (okI_small (by omega) (by omega))
            have htl : (textL s0.data.toList).length ≤ 322 := by unfold textL; rw [List.length_append]; omega
            have hS := HS.out (textL s0.data.toList) htl
            rw [← hTs.out] at hS
            clear hpc
            go_wp2_with fail
            have bb := below1 WB (.cells #[.string s0] 9)
            have q1 := writerText (b + 1) T0 b WB.heap.size 0 1 (allT xs k) s0 (WB.alloc (.cells #[.string s0] 9)) (HT0.out.below bb) ((HM.out.below HWa.out.2.1).below bb) (by omega) (by have := hTl.out; omega) (by omega) (by go_simp)
            refine q1.mono ?_
            rintro e w3 ⟨rfl, ⟨T3, hW3⟩, hk3⟩
            have HO3 := Lib.hid ((HOa.out.below bb).kept hk3 hqb)
            have HB3 := Lib.hid ((HWa.out.2.1.trans (bb.mono HWa.out.2.1.size)).trans (hk3.1 _ hbz))
            have HW3 := Lib.hid hW3
            clear q1 hW3 hk3 bb c0 c1 c2 c3 c4 c5 c6
            obtain ⟨c0, c1, c2, c3, c4, c5, c6⟩ := HO3.out.cells
            simp only at c0 c1 c2 c3 c4 c5 c6
            have K53 := Lib.hid (ref06Text s0.data.toList (by omega))
            rw [show (⟨s0.data.toList.toArray⟩ : ByteArray) = s0 from rfl] at K53
            generalize (⟨(textL s0.data.toList).toArray⟩ : ByteArray) = S1 at hS K53
            go_wp2_with fail
            refine (K53.out _).mono ?_
            rintro e w4 ⟨rfl, hb4⟩
            have HW4 : Hid (WLoop w b xs (k + 1) w4) := Lib.hid ⟨⟨T3, by have := HW3.out.below hb4; rwa [← hTs.out] at this⟩, HB3.out.trans (hb4.mono HB3.out.size), fun e => by omega⟩
            clear hb4 c0 c1 c2 c3 c4 c5 c6
            go_wp2
            go_roundw
            case rel => first | exact ⟨k + 1, by omega, by go_num, rfl, HW4.out⟩ | ((repeat apply Exists.intro); exact ⟨⟨k + 1, by omega, by go_num, rfl, HW4.out⟩, rfl⟩)
            case measure => simp [intOf] <;> omega
          · have hpc : pc ⟨k0, n0, lo0, hi0, s0, lv0, x0⟩ = numL (lv0 % 8) ++ numL (x0 : Int) := by unfold pc; rw [if_neg h1, if_neg h2]
            rw [hpc] at hTs
            have hx : x0 < 65536 := HOK.out.2.1
            have hm0 : 0 ≤ lv0 % 8 := by omega
            have hm8 : lv0 % 8 < 8 := by omega
            generalize lv0 % 8 = m at hm0 hm8 hTs HOa c5 ⊢
            have hom : okI m := okI_small hm0 (by omega)
            have hox : okI (x0 : Int) := okI_small (by omega) (by omega)
            have hnm := numL_len hom
            have hnx := numL_len hox
            have hS := HS.out (numL m ++ numL (x0 : Int)) (by rw [List.length_append]; omega)
            rw [← hTs.out] at hS
            have hS2 : ∀ W, (Op.stringOp .add ⟨(numL m).toArray⟩ ⟨(numL (x0 : Int)).toArray⟩).run Tryd.prog W = .ok (.string ⟨(numL m ++ numL (x0 : Int)).toArray⟩) W := fun W => run_string_add_lists W _ _ (by omega) (by omega)
            clear hpc
            go_wp2_with fail
            have q1 := writerLabel (b + 1) T0 b (allT xs k) m x0 WB HT0.out (HM.out.below HWa.out.2.1) (by omega) hom hx (by have := hTl.out; omega)
            refine q1.mono ?_
            rintro e w3 ⟨rfl, ⟨T3, hW3⟩, hk3⟩
            have HO3 := Lib.hid (HOa.out.kept hk3 hqb)
            have HB3 := Lib.hid (HWa.out.2.1.trans (hk3.1 _ hbz))
            have HW3 := Lib.hid hW3
            clear q1 hW3 hk3 c0 c1 c2 c3 c4 c5 c6
            obtain ⟨c0, c1, c2, c3, c4, c5, c6⟩ := HO3.out.cells
            simp only at c0 c1 c2 c3 c4 c5 c6
            have hq3 := HO3.out.lt
            have K1 := Lib.hid (ref06Int m hom)
            have K2 := Lib.hid (ref06Int (x0 : Int) hox)
            generalize (⟨(numL m).toArray⟩ : ByteArray) = S1 at hS2 K1
            generalize (⟨(numL (x0 : Int)).toArray⟩ : ByteArray) = S2 at hS2 K2
            generalize (⟨(numL m ++ numL (x0 : Int)).toArray⟩ : ByteArray) = S3 at hS2 hS
            have hw2 : IntKind.i64.wrap (x0 : Int) = (x0 : Int) := IntWalk.i64_in _ (by omega)
            go_upto_region 11 with fail
            go_region_held3 (fun w' => (∀ b o, b < (w3).heap.size → w'.cell? ⟨b, o, none⟩ = (w3).cell? ⟨b, o, none⟩) ∧ Below (w3).heap.size (w3) w') (first | exact stay0 _ | exact stay ‹_› ‹_› | exact ‹_›)
              (first
                | (go_at_call 52; (with_reducible refine (K1.out _).mono ?_); rintro e w' ⟨rfl, hb⟩)
                | (go_at_call 52; (with_reducible refine (K2.out _).mono ?_); rintro e w' ⟨rfl, hb⟩))
            obtain ⟨we, hwe⟩ : ∃ we, (fun w' => (∀ b o, b < (w3).heap.size → w'.cell? ⟨b, o, none⟩ = (w3).cell? ⟨b, o, none⟩) ∧ Below (w3).heap.size (w3) w') we := ⟨_, ‹_›⟩
            have HW4 : ∀ we, (fun w' => (∀ b o, b < (w3).heap.size → w'.cell? ⟨b, o, none⟩ = (w3).cell? ⟨b, o, none⟩) ∧ Below (w3).heap.size (w3) w') we → WLoop w b xs (k + 1) we := fun we hS4 => ⟨⟨T3, by
              have := HW3.out.below hS4.2
              rwa [show numsL [m, (x0 : Int)] = numL m ++ numL (x0 : Int) by simp [numsL], ← hTs.out] at this⟩, HB3.out.trans (hS4.2.mono HB3.out.size), fun e => by omega⟩
            have HW4 := Lib.hid HW4
            clear c0 c1 c2 c3 c4 c5 c6
            go_wp2
            go_roundw
            case rel => first | exact ⟨k + 1, by omega, by go_num, rfl, HW4.out _ ‹_›⟩ | ((repeat apply Exists.intro); exact ⟨⟨k + 1, by omega, by go_num, rfl, HW4.out _ ‹_›⟩, rfl⟩)
            case measure => simp [intOf] <;> omega
      · obtain rfl : k = xs.length := by omega
        clear hk hlt
        have hT := allT_len HO.out xs.length (Nat.le_refl _)
        have q1 : Calls Tryd.prog 40 #[.pointer (some ⟨b, 0, none⟩)] wr fun e w' => e = .returned (.string ⟨(allT xs xs.length).toArray⟩) ∧ Below w.heap.size wr w' := by
          by_cases h0 : xs.length = 0
          · rw [h0, allT_zero]
            exact (writerString0 b wr (HW.out.2.2 h0)).mono fun e w' h => ⟨h.1, h.2.mono HW.out.2.1.size⟩
          · obtain ⟨T, hT2⟩ := HW.out.1
            exact (writerString (b + 1) T b _ wr hT2 (allT_ne (Nat.le_refl _) h0)).mono fun e w' h => ⟨h.1, h.2.1.mono (by omega)⟩
        have hRD := allT_rest xs
        have q2 := readerNew ⟨(allT xs xs.length).toArray⟩
        rw [show (⟨(allT xs xs.length).toArray⟩ : ByteArray).data.toList = allT xs xs.length from rfl, hRD] at q2
        have HRL := Lib.hid (fun k hk => restT_len HO.out (k := k) hk)
        rw [← hRD] at q2
        generalize (⟨(allT xs xs.length).toArray⟩ : ByteArray) = T at q1 q2 ⊢
        have HQ2 := Lib.hid q2
        have HB := Lib.hid HW.out.2.1
        clear hT HW q2
        go_wp2_with fail
        refine q1.mono ?_
        rintro e w3 ⟨rfl, hb⟩
        have HB := Lib.hid (HB.out.trans hb)
        clear q1 hb
        go_wp2_with fail
        refine (HQ2.out _).mono ?_
        rintro e w4 ⟨rfl, hr, hb⟩
        have hc7 : 7 ≤ w3.heap.size := Nat.le_trans HM.out.size HB.out.size
        have hcw : w.heap.size ≤ w3.heap.size := HB.out.size
        have HR : Hid (RLoop w w3.heap.size xs 0 w4) := Lib.hid ⟨by rw [← allT_rest]; exact hr, HB.out.trans (hb.mono HB.out.size)⟩
        clear hr hb HB
        generalize w3.heap.size = c at hc7 hcw HR ⊢
        have hE : ∀ (m : Int) (x : Nat) W, (binOp .eql 26 (.agg #[.int .i64 (m), .int .u16 ((x : Nat) : Int)]) (.agg #[.int .i64 (m), .int .u16 ((x : Nat) : Int)])).run Tryd.prog W = .ok (.bool true) W := fun m x W => by rw [run_eqL']; unfold sameB; simp
        have hgu := eqGuard26
        go_wp2
        go_loopw [78] (fun i wr => ∃ k : Nat, k ≤ xs.length ∧ i = .int .i64 k ∧ RLoop w c xs k wr) (fun i _ => xs.length - (intOf i).toNat)
        case atStart => exact ⟨0, by omega, rfl, HR.out⟩
        case round =>
          clear HR
          obtain ⟨k, hk, rfl, hr⟩ := hrel
          have HR := Lib.hid hr
          clear hr
          by_cases hlt : k < xs.length
          · have hltz : (k : Int) < (xs.length : Int) := by omega
            have hTl := Lib.hid (HRL.out k hk)
            have hTs := Lib.hid (restT_succ (xs := xs) hlt)
            obtain ⟨p', c', hv, _, hcc⟩ := HL.out.below HR.out.2
            simp only [Value.slice.injEq] at hv
            obtain ⟨rfl, _, rfl⟩ := hv
            obtain ⟨bk, off, rfl, hb, hcell⟩ := hcc (by omega)
            have d0 := hcell k hlt 0 _ rfl
            have d1 := hcell k hlt 1 _ rfl
            have d2 := hcell k hlt 2 _ rfl
            have d3 := hcell k hlt 3 _ rfl
            have d4 := hcell k hlt 4 _ rfl
            have d5 := hcell k hlt 5 _ rfl
            have d6 : wr.cell? ⟨bk, off + k * 7 + 5 + 1, none⟩ = some (.int .u16 (xs[k]!.set : Int)) := hcell k hlt 6 _ rfl
            rw [Nat.add_zero] at d0
            have HOK := Lib.hid (HO.out k hlt)
            clear hcell hcc
            generalize xs[k]! = o at d0 d1 d2 d3 d4 d5 d6 hTs HOK
            obtain ⟨k0, n0, lo0, hi0, s0, lv0, x0⟩ := o
            simp only at d0 d1 d2 d3 d4 d5 d6
            have hA := i64_and7 lv0
            have hcr : c < wr.heap.size := HR.out.1.1
            go_upto_region 26 with fail
            have hba := below1 wr (.cells #[.int .i64 k0, .int .i64 n0, .int .i64 lo0, .int .i64 hi0, .string s0, .int .i64 (lv0 % 8), .int .u16 (x0 : Int)] 76)
            have HRa : Hid (RLoop w c xs k (wr.alloc (.cells #[.int .i64 k0, .int .i64 n0, .int .i64 lo0, .int .i64 hi0, .string s0, .int .i64 (lv0 % 8), .int .u16 (x0 : Int)] 76))) := Lib.hid ⟨HR.out.1.below hba, HR.out.2.trans (hba.mono HR.out.2.size)⟩
            have HOa := Lib.hid (OpAt.alloc wr k0 n0 lo0 hi0 s0 (lv0 % 8) x0)
            have hqc : wr.heap.size ≠ c := by omega
            generalize wr.alloc (.cells #[.int .i64 k0, .int .i64 n0, .int .i64 lo0, .int .i64 hi0, .string s0, .int .i64 (lv0 % 8), .int .u16 (x0 : Int)] 76) = WB at HRa HOa ⊢
            generalize wr.heap.size = q at HOa hqc ⊢
            clear HR hba d0 d1 d2 d3 d4 d5 d6 hb hcr hA
            have hqz := HOa.out.lt
            have hlen : (restT xs k).length < 4294967281 := by have := hTl.out; omega
            have hMB := HM.out.below HRa.out.2
            have HMB := Lib.hid (hMB.below (Below.refl _ _).drew)
            have HRD := Lib.hid (HRa.out.1.below (Below.refl _ _).drew)
            clear hMB
            obtain ⟨c0, c1, c2, c3, c4, c5, c6⟩ := HOa.out.cells
            simp only at c0 c1 c2 c3 c4 c5 c6
            by_cases h1 : k0 = 1
            · subst h1
              have hpc : pc ⟨1, n0, lo0, hi0, s0, lv0, x0⟩ = numL n0 := by unfold pc; rw [if_pos rfl]
              have K := readerInt c (restT xs k) false n0 n0 WB.drew HRD.out HMB.out hc7 hlen
              unfold IntPost at K
              rw [hTs.out, hpc, rd_num (show okI n0 from HOK.out.1) (Int.le_refl _) (Int.le_refl _)] at K
              have K44 := Lib.hid K
              clear K hpc hlen
              go_upto_region 30 with fail
              go_region_held3 (fun w' => ∀ o, w'.cell? ⟨q, o, none⟩ = (WB).cell? ⟨q, o, none⟩) (first | exact (fun _ => rfl) | exact ‹_›)
                (first | (go_at_call 44; (with_reducible refine (K44.out).mono ?_); rintro e w' ⟨rfl, hr2, hk2⟩; have hq2 := keptQ hk2 hqz hqc))
              have HR2 : Hid (RLoop w c xs (k + 1) w') := Lib.hid ⟨hr2, (HRa.out.2.trans ((Below.refl _ WB).drew.mono HRa.out.2.size)).trans (hk2.1 _ hcw)⟩
              clear hr2 hk2 hq2 c0 c1 c2 c3 c4 c5 c6
              go_wp2_with fail
              refine (readerOk c _ false _ HR2.out.1).mono ?_
              rintro e w' ⟨rfl, rfl⟩
              go_wp2
              go_roundw
              case rel => first | exact ⟨k + 1, by omega, by go_num, HR2.out⟩ | ((repeat apply Exists.intro); exact ⟨⟨k + 1, by omega, by go_num, HR2.out⟩, rfl⟩)
              case measure => simp [intOf] <;> omega
            · by_cases h2 : k0 = 2
              · subst h2
                have hpc : pc ⟨2, n0, lo0, hi0, s0, lv0, x0⟩ = textL s0.data.toList := by unfold pc; rw [if_neg (by show ¬ (2 : Int) = 1; omega), if_pos rfl]
                have hs3 : s0.size ≤ 300 := HOK.out.2.2
                have hsl : s0.data.toList.length = s0.size := by rw [Array.length_toList]; rfl
                have K := readerText c (restT xs k) false 300 WB.drew HRD.out HMB.out hc7 hlen
                unfold TextPost at K
                rw [hTs.out, hpc, rd_text (by omega)] at K
                have K45 : Hid (Calls Tryd.prog 45 #[.pointer (some ⟨c, 0, none⟩), .int .i64 300] WB.drew fun e w' => e = .returned (.string s0) ∧ RdAt c (restT xs (k + 1)) false w' ∧ KeptB c WB.drew w') := Lib.hid K
                clear K hpc hlen
                go_upto_region 32 with fail
                go_region_held3 (fun w' => ∀ o, w'.cell? ⟨q, o, none⟩ = (WB).cell? ⟨q, o, none⟩) (first | exact (fun _ => rfl) | exact ‹_›)
                  (first | (go_at_call 45; (with_reducible refine (K45.out).mono ?_); rintro e w' ⟨rfl, hr2, hk2⟩; have hq2 := keptQ hk2 hqz hqc))
                have HR2 : Hid (RLoop w c xs (k + 1) w') := Lib.hid ⟨hr2, (HRa.out.2.trans ((Below.refl _ WB).drew.mono HRa.out.2.size)).trans (hk2.1 _ hcw)⟩
                clear hr2 hk2 hq2 c0 c1 c2 c3 c4 c5 c6
                go_wp2_with fail
                refine (readerOk c _ false _ HR2.out.1).mono ?_
                rintro e w' ⟨rfl, rfl⟩
                go_wp2
                go_roundw
                case rel => first | exact ⟨k + 1, by omega, by go_num, HR2.out⟩ | ((repeat apply Exists.intro); exact ⟨⟨k + 1, by omega, by go_num, HR2.out⟩, rfl⟩)
                case measure => simp [intOf] <;> omega
              · have hpc : pc ⟨k0, n0, lo0, hi0, s0, lv0, x0⟩ = numL (lv0 % 8) ++ numL (x0 : Int) := by unfold pc; rw [if_neg h1, if_neg h2]
                have hx : x0 < 65536 := HOK.out.2.1
                have K := readerLabel c (restT xs k) false WB.drew HRD.out HMB.out hc7 hlen
                unfold LblPost at K
                rw [hTs.out, hpc, rd_label (by omega) (by omega) hx] at K
                have K51 := Lib.hid K
                have hE := hE (lv0 % 8) x0
                generalize lv0 % 8 = m at K51 HOa c5 hE ⊢
                simp only at K51
                clear K hpc hlen
                go_upto_region 28 with fail
                go_region_held3 (fun w' => ∀ o, w'.cell? ⟨q, o, none⟩ = (WB).cell? ⟨q, o, none⟩) (first | exact (fun _ => rfl) | exact ‹_›)
                  (first | (go_at_call 51; (with_reducible refine (K51.out).mono ?_); rintro e w' ⟨rfl, hr2, hk2⟩; have hq2 := keptQ hk2 hqz hqc))
                have HR2 : Hid (RLoop w c xs (k + 1) w') := Lib.hid ⟨hr2, (HRa.out.2.trans ((Below.refl _ WB).drew.mono HRa.out.2.size)).trans (hk2.1 _ hcw)⟩
                clear hr2 hk2 hq2 c0 c1 c2 c3 c4 c5 c6
                go_wp2_with fail
                refine (readerOk c _ false _ HR2.out.1).mono ?_
                rintro e w' ⟨rfl, rfl⟩
                go_wp2
                go_roundw
                case rel => first | exact ⟨k + 1, by omega, by go_num, HR2.out⟩ | ((repeat apply Exists.intro); exact ⟨⟨k + 1, by omega, by go_num, HR2.out⟩, rfl⟩)
                case measure => simp [intOf] <;> omega
          · obtain rfl : k = xs.length := by omega
            have hr := HR.out.1
            rw [restT_end] at hr
            have HR1 := Lib.hid hr
            clear hr
            go_wp2_with fail
            refine (readerDone c [] false _ HR1.out).mono ?_
            rintro e w' ⟨rfl, rfl⟩
            go_wp2
            go_ret
            exact ⟨rfl, HR.out.2⟩

end Go.Proofs.YtpkmgdpnimecfabDoor

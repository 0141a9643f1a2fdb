/- lockageref07.Lines. -/
import Derived.Test.YtefnkoofgpmmmaaGreatDoorLxR
import Derived.Test.YtefnkoofgpmmmaaGreatDoorLxA
import Derived.Laws.Concat
import Derived.RegionTactic
import Derived.ChangeAlike
import Derived.BigRegion
namespace Go.Proofs.YtefnkoofgpmmmaaGreatDoor
set_option maxRecDepth 100000
open Go.RowKit

theorem info_word7 : ∃ (i : TypeInfo) (z : Value), Tryz.prog.info? 36 = some i ∧ i.zero = some z ∧ i.size = 2 ∧ i.bytes = 24 ∧ z.cells.size = 2 := by
  have h : ((Tryz.prog.info? 36).map fun i => (i.size, i.bytes, i.zero.map fun z => z.cells.size)) = some (2, 24, some 2) := by kernel_rfl
  cases hi : Tryz.prog.info? 36 with
  | none => rw [hi] at h; cases h
  | some i =>
    rw [hi] at h
    simp only [Option.map_some, Option.some.injEq, Prod.mk.injEq] at h
    obtain ⟨h1, h2, h3⟩ := h
    cases hz : i.zero with
    | none => rw [hz] at h3; cases h3
    | some z =>
      rw [hz] at h3
      simp only [Option.map_some, Option.some.injEq] at h3
      exact ⟨i, z, rfl, hz, h1, h2, h3⟩
theorem infoLn7 : (Tryz.prog.info? 33).map (fun i => (i.zero, i.size, i.bytes)) = some (some (.slice none 0 0), 1, 24) := by kernel_rfl
def RefPost (s : ByteArray) (w : World) (e : Ending) (w' : World) : Prop := Below w.heap.size w w' ∧ ∃ v svs base, e = .returned (.tuple #[v, .int .i64 (refErr s).1, .int .i64 (refErr s).2]) ∧ LnAt 33 base v svs (refLn s) w'
set_option maxHeartbeats 4000000 in
theorem refLines (s : ByteArray) (w : World) (hs : s.size ≤ maxLen) : Calls Tryz.prog 14 #[.string s] w (RefPost s w) := by
  obtain ⟨i0, hi0, hz0, hz1, hz2⟩ := info_parts infoLn7
  obtain ⟨i1, zT, hi1, hz10, hz11, hz12, hz13⟩ := info_word7
  have HI := Lib.hid hi0
  have HZ := Lib.hid hz0
  have HI1 := Lib.hid hi1
  have HZ1 := Lib.hid hz10
  clear hi0 hz0 hi1 hz10
  have HP := Lib.hid (fun (w' : World) (v : Value) (svs : List Value) (base : Nat) (a b : Int) (ls : List (List WordV)) (h1 : Below w.heap.size w w') (h2 : refErr s = (a, b)) (h3 : refLn s = ls) (h4 : LnAt 33 base v svs ls w') => show RefPost s w (.returned (.tuple #[v, .int .i64 a, .int .i64 b])) w' from ⟨h1, v, svs, base, by rw [h2], by rw [h3]; exact h4⟩)
  generalize RefPost s w = GP at *
  have hs' := hs
  unfold maxLen at hs'
  by_cases hbig : 600 < s.size
  · have hbz : (600 : Int) < (s.size : Int) := by omega
    obtain ⟨hL1, hL2⟩ := ref_long hbig
    have HR := Lib.hid (HP.out w (.slice none 0 0) [] w.heap.size 16 600 [] (Below.refl _ _) hL1 hL2 (LnAt.start (Nat.le_refl _)))
    clear hL1 hL2
    go_enter Tryz.func14, Tryz.ntmps14
    go_wp2_with fail
    refine bodyPost_ret (v := .tuple #[.slice none 0 0, .int .i64 16, .int .i64 600]) (by rw [results_tmp3 rfl]; rfl) rfl ?_
    exact HR.out
  · have hbz : ¬ ((600 : Int) < (s.size : Int)) := by omega
    have hs6 : s.size ≤ 600 := by omega
    clear hs hs' hbig
    have bs := below1 w (.cells #[.string ⟨#[]⟩, .int .i64 0] 36)
    obtain ⟨B0, hB0⟩ : ∃ B0, B0 = (w.alloc (.cells #[.string ⟨#[]⟩, .int .i64 0] 36)).heap.size := ⟨_, rfl⟩
    have HST := Lib.hid (R7.start (T1 := 33) bs (BlkIs.alloc w [.string ⟨#[]⟩, .int .i64 0] 36) hB0)
    clear bs hB0
    go_enter Tryz.func14, Tryz.ntmps14
    go_wp2_with fail
    go_loopw [5, 6, 8] (fun s5 s6 s8 wr => ∃ (k : Nat) (st : StR) (svs : List Value), k ≤ s.size + 1 ∧ s8 = .int .i64 k ∧ runR s k = some st ∧ R7 w w.heap.size B0 33 36 s5 s6 svs st wr ∧ st.out.length + st.line.length + st.wt.size ≤ k) (fun _ _ s8 _ => s.size + 2 - (intOf s8).toNat)
    case atStart => exact ⟨0, StR.init, [], by omega, rfl, rfl, HST.out, by simp [StR.init]; rfl⟩
    case round =>
      clear HST
      obtain ⟨k, st, svs, hk, rfl, hrun, h7, hb⟩ := hrel
      have HRN := Lib.hid hrun
      have HR7 := Lib.hid h7
      clear hrun h7
      by_cases hlast : k = s.size + 1
      · subst hlast
        have hkz : ¬ (((s.size + 1 : Nat) : Int) ≤ (s.size : Int)) := by omega
        obtain ⟨hE1, hE2⟩ := ref_fine hs6 HRN.out
        have HR := Lib.hid (HP.out _ _ _ _ _ _ _ HR7.out.blw hE1 hE2 HR7.out.ln)
        clear hE1 hE2
        go_wp2_with fail
        refine bodyPost_ret (v := .tuple #[u5, .int .i64 0, .int .i64 0]) (by rw [results_tmp3 rfl]; rfl) rfl ?_
        exact HR.out
      · have hks : k ≤ s.size := by omega
        have hkz : (k : Int) ≤ (s.size : Int) := by omega
        have c0 := HR7.out.box.cell 0
        have c1 := HR7.out.box.cell 1
        have f0 := HR7.out.box.frozen 0
        have f1 := HR7.out.box.frozen 1
        simp only [List.getElem?_cons_zero, List.getElem?_cons_succ] at c0 c1
        have HLC := Lib.hid (show st.line.length + 1 ≤ 601 by omega)
        have HLO := Lib.hid (show st.out.length + 1 ≤ 601 by omega)
        have HBS := Lib.hid hb
        have HK0 := Lib.hid hks
        have HK6 := Lib.hid hs6
        by_cases hlt : k < s.size
        · have hltz : (k : Int) < (s.size : Int) := by omega
          have hca : cAt s k = s[k] := by unfold cAt; rw [dif_pos hlt]
          have HCA := Lib.hid hca
          clear hca
          by_cases hw : wordC s[k] = true
          · have hw1 : 32 < (s[k].toNat : Int) := by unfold wordC at hw; simp at hw; omega
            have hw2 : (s[k].toNat : Int) < 127 := by unfold wordC at hw; simp at hw; omega
            have HNX := Lib.hid (show runR s (k + 1) = some (st.addC k (s.extract k (k + 1))) by rw [runR, HRN.out]; show stepR s st k (cAt s k) = _; rw [HCA.out]; unfold stepR; rw [if_pos hw])
            have hkz1 : (k : Int) + 1 ≤ (s.size : Int) := by omega
            have HX1 := Lib.hid (show (s.extract k (k + 1)).size = 1 by rw [ByteArray.size_extract]; omega)
            have hcat : ∀ W : World, (Op.stringOp .add st.wt (s.extract k (k + 1))).run Tryz.prog W = .ok (.string (st.wt ++ s.extract k (k + 1))) W := fun W => run_string_add_sum W _ _ (by rw [HX1.out]; omega)
            clear hw hb
            have e1 : wrap64 ((k : Int) + 1) = (k : Int) + 1 := wrap_small ⟨by omega, by omega⟩
            by_cases hwe : st.wt.size = 0
            · have t1 : st.wt.toList.isEmpty = true := by rw [isE]; simp [hwe]
              have HWE := Lib.hid hwe
              clear hwe
              go_wp2_with fail
              have hbx := HR7.out.box.set (o := 1) (.int .i64 k)
              simp only [List.set_cons_succ, List.set_cons_zero] at hbx
              have HR8 := Lib.hid (HR7.out.setw st.wt k (W' := wr.setCell ⟨w.heap.size, 1, none⟩ (.int .i64 k)) (by simp) (fun q hq => Below.heap_setCell _ _ _ _ hq) hbx (HR7.out.blw.setCell (p := ⟨w.heap.size, 1, none⟩) (Nat.le_refl _) _))
              clear hbx
              generalize wr.setCell ⟨w.heap.size, 1, none⟩ (.int .i64 k) = w1 at HR8 ⊢
              clear c0 c1 f0 f1
              have c0 := HR8.out.box.cell 0
              have f0 := HR8.out.box.frozen 0
              simp only [List.getElem?_cons_zero, List.getElem?_cons_succ] at c0
              have hbx := HR8.out.box.set (o := 0) (.string (st.wt ++ s.extract k (k + 1)))
              simp only [List.set_cons_zero] at hbx
              have h9 := HR8.out.setw (st.wt ++ s.extract k (k + 1)) k (W' := w1.setCell ⟨w.heap.size, 0, none⟩ (.string (st.wt ++ s.extract k (k + 1)))) (by simp) (fun q hq => Below.heap_setCell _ _ _ _ hq) hbx (HR8.out.blw.setCell (p := ⟨w.heap.size, 0, none⟩) (Nat.le_refl _) _)
              have HRX := Lib.hid (show R7 w w.heap.size B0 33 36 u5 u6 svs (st.addC k (s.extract k (k + 1))) (w1.setCell ⟨w.heap.size, 0, none⟩ (.string (st.wt ++ s.extract k (k + 1)))).drew from by
                have := h9.below (Below.refl _ _).drew
                unfold StR.addC
                rw [if_pos HWE.out]
                exact this)
              have HBX := Lib.hid (show (st.addC k (s.extract k (k + 1))).out.length + (st.addC k (s.extract k (k + 1))).line.length + (st.addC k (s.extract k (k + 1))).wt.size ≤ k + 1 from by
                have h1 := HBS.out
                have h2 := HX1.out
                show st.out.length + st.line.length + (st.wt ++ s.extract k (k + 1)).size ≤ k + 1
                rw [ByteArray.size_append, h2]
                omega)
              clear hbx h9
              go_region
              go_wp2
              go_roundw
              case rel => exact ⟨k + 1, _, svs, Nat.succ_le_succ HK0.out, by go_num, HNX.out, HRX.out, HBX.out⟩
              case measure => have := HK0.out; simp [intOf]; omega
            · have t1 : st.wt.toList.isEmpty = false := by rw [isE]; simp [hwe]
              have HWE := Lib.hid hwe
              clear hwe
              go_wp2_with fail
              have hbx := HR7.out.box.set (o := 0) (.string (st.wt ++ s.extract k (k + 1)))
              simp only [List.set_cons_zero] at hbx
              have h9 := HR7.out.setw (st.wt ++ s.extract k (k + 1)) st.wa (W' := wr.setCell ⟨w.heap.size, 0, none⟩ (.string (st.wt ++ s.extract k (k + 1)))) (by simp) (fun q hq => Below.heap_setCell _ _ _ _ hq) hbx (HR7.out.blw.setCell (p := ⟨w.heap.size, 0, none⟩) (Nat.le_refl _) _)
              have HRX := Lib.hid (show R7 w w.heap.size B0 33 36 u5 u6 svs (st.addC k (s.extract k (k + 1))) (wr.setCell ⟨w.heap.size, 0, none⟩ (.string (st.wt ++ s.extract k (k + 1)))).drew from by
                have := h9.below (Below.refl _ _).drew
                unfold StR.addC
                rw [if_neg HWE.out]
                exact this)
              have HBX := Lib.hid (show (st.addC k (s.extract k (k + 1))).out.length + (st.addC k (s.extract k (k + 1))).line.length + (st.addC k (s.extract k (k + 1))).wt.size ≤ k + 1 from by
                have h1 := HBS.out
                have h2 := HX1.out
                show st.out.length + st.line.length + (st.wt ++ s.extract k (k + 1)).size ≤ k + 1
                rw [ByteArray.size_append, h2]
                omega)
              clear hbx h9
              go_region
              go_wp2
              go_roundw
              case rel => exact ⟨k + 1, _, svs, Nat.succ_le_succ HK0.out, by go_num, HNX.out, HRX.out, HBX.out⟩
              case measure => have := HK0.out; simp [intOf]; omega
          · by_cases h10 : s[k].toNat = 10
            · have hc1 : (s[k].toNat : Int) = 10 := by omega
              have hc2 : ¬ (32 < (s[k].toNat : Int)) := by omega
              have hc3 : ((s[k].toNat : Int) != 10) = false := by simp [hc1]
              have hc5 : ((s[k].toNat : Int) == 10) = true := by simp [hc1]
              have HST := Lib.hid (show stepR s st k (cAt s k) = some st.pushW.pushL by rw [HCA.out]; unfold stepR; rw [if_neg hw, if_pos h10])
              clear hw hb h10
              by_cases hwe : st.wt.size = 0
              · have t1 : st.wt.toList.isEmpty = true := by rw [isE]; simp [hwe]
                have HWE := Lib.hid hwe
                clear hwe
                obtain ⟨p6, n6, k6, hu6⟩ : ∃ p n c, u6 = Value.slice p n c := by
                  rcases HR7.out.own.2 with ⟨e, _⟩ | ⟨g, cap, cur, e, _⟩
                  · exact ⟨_, _, _, e⟩
                  · exact ⟨_, _, _, e⟩
                subst hu6
                have hn6 : n6 = st.line.length := by
                  rcases HR7.out.own.2 with ⟨e, e2⟩ | ⟨g, cap, cur, e, _⟩
                  · injection e with e3 e4 e5
                    omega
                  · injection e
                have HN6 := Lib.hid hn6
                clear hn6
                have HPW := Lib.hid (show st.pushW = st by unfold StR.pushW; rw [if_pos HWE.out])
                by_cases hle : st.line = []
                · have hn0 : n6 = 0 := by rw [HN6.out, hle]; rfl
                  clear HN6
                  subst hn0
                  have HNX := Lib.hid (show runR s (k + 1) = some st by rw [runR, HRN.out]; show stepR s st k (cAt s k) = _; rw [HST.out, HPW.out]; unfold StR.pushL; rw [if_pos hle])
                  have HRX := Lib.hid (show R7 w w.heap.size B0 33 36 u5 (.slice p6 0 k6) svs st wr from HR7.out)
                  have HBX := Lib.hid (show st.out.length + st.line.length + st.wt.size ≤ k + 1 from Nat.le_succ_of_le HBS.out)
                  clear hle
                  go_wp2
                  go_roundw
                  case rel => exact ⟨k + 1, _, _, Nat.succ_le_succ HK0.out, by go_num, HNX.out, HRX.out, HBX.out⟩
                  case measure => have := HK0.out; simp [intOf]; omega
                · have hnp : 0 < n6 := by rw [HN6.out]; exact List.length_pos_iff.2 hle
                  have hnz : (0 : Int) < (n6 : Int) := by omega
                  have HNX := Lib.hid (show runR s (k + 1) = some { st with out := st.out ++ [st.line], line := [] } by rw [runR, HRN.out]; show stepR s st k (cAt s k) = _; rw [HST.out, HPW.out]; unfold StR.pushL; rw [if_neg hle])
                  have HBX := Lib.hid (show (st.out ++ [st.line]).length + ([] : List WordV).length + st.wt.size ≤ k + 1 from by
                    have h1 := HBS.out
                    have h2 := List.length_pos_iff.2 hle
                    rw [List.length_append]
                    simp
                    omega)
                  clear hle
                  have bl := below1 wr (.cells #[.slice p6 n6 k6] 33)
                  have HRL := Lib.hid (HR7.out.below bl)
                  have HZL := Lib.hid HRL.out.ln.z
                  have HBL := Lib.hid (show BlkIs ((wr).alloc (.cells #[.slice p6 n6 k6] 33)) wr.heap.size [.slice p6 n6 k6] 33 from by have := BlkIs.alloc wr [.slice p6 n6 k6] 33; simpa using this)
                  clear bl
                  go_wp2_with (at_builtin; refine wpList_append_own2 _ rfl _ _ 28 rfl B0 33 i0 (.slice none 0 0) 1 24 Tryz.underlying28 HI.out HZ.out hz1 hz2 rfl (by decide) u5 st.out.length svs rfl HRL.out.ln.own ⟨wr.heap.size, 0, none⟩ 1 1 [.slice p6 n6 k6] rfl rfl ?ql2x1 ?ql3x1 ?ql4x1 ?ql5x1 ?ql6x1 ?_)
                  try (case ql2x1 =>
                        intro jj u hj
                        rw [Go.WideShapes.add_plain, Nat.zero_add, HBL.out.cell jj]
                        exact hj)
                  case ql3x1 => first | rfl | (intro u hu; rw [List.mem_singleton.1 hu]; rfl)
                  case ql4x1 => exact (le601 HLO.out).1
                  case ql5x1 => exact (le601 HLO.out).2
                  case ql6x1 => first | exact HZL.out | (have := HZL.out; simpa using this)
                  intro v5 w5 hown5 hgrow5 hnb5
                  have HRX := Lib.hid (R7.line HRL.out (by decide) hgrow5 hown5 (by rw [World.size_alloc]; simpa using hnb5))
                  clear hown5 hgrow5 hnb5 HBL
                  go_wp2
                  go_roundw
                  case rel => exact ⟨k + 1, _, _, Nat.succ_le_succ HK0.out, by go_num, HNX.out, HRX.out, HBX.out⟩
                  case measure => have := HK0.out; simp [intOf]; omega
              · have t1 : st.wt.toList.isEmpty = false := by rw [isE]; simp [hwe]
                have HWE := Lib.hid hwe
                clear hwe
                have bb := below1 wr (.cells #[.string st.wt, .int .i64 st.wa] 36)
                have HRA := Lib.hid (HR7.out.below bb)
                have HZA := Lib.hid HRA.out.ln.z
                have HWX := Lib.hid (BlkIs.alloc wr [.string st.wt, .int .i64 st.wa] 36)
                have HPW := Lib.hid (show st.pushW = { st with line := st.line ++ [(st.wt, st.wa)], wt := ⟨#[]⟩, wa := 0 } by unfold StR.pushW; rw [if_neg HWE.out])
                clear bb
                go_wp2_with (at_builtin; refine wpList_append_own2 _ rfl _ _ 33 rfl B0 36 i1 zT 2 24 Tryz.underlying33 HI1.out HZ1.out hz11 hz12 hz13 (by decide) u6 st.line.length (flat encW st.line) rfl HRA.out.own ⟨wr.heap.size, 0, none⟩ 1 1 [.string st.wt, .int .i64 st.wa] rfl rfl ?qc2x2 ?qc3x2 ?qc4x2 ?qc5x2 ?qc6x2 ?_)
                try (case qc2x2 =>
                      intro jj u hj
                      rw [Go.WideShapes.add_plain, Nat.zero_add, HWX.out.cell jj]
                      exact hj)
                case qc3x2 => first | (intro u hu; simp at hu; rcases hu with rfl | rfl <;> rfl) | (simp [Value.oneCell'])
                case qc4x2 => exact (le601 HLC.out).1
                case qc5x2 => exact (le601 HLC.out).2
                case qc6x2 => first | exact HZA.out | (have := HZA.out; simpa using this)
                intro v6 w4 hown4 hgrow4 hnb4
                have HR4 := Lib.hid (R7.word HRA.out (by decide) hgrow4 hown4 (by rw [World.size_alloc]; simpa using hnb4))
                obtain ⟨p6, n6, k6, hv6, hn6⟩ : ∃ p n c, v6 = Value.slice p n c ∧ n = st.line.length + 1 := by
                  rcases hown4.2 with ⟨e, e2⟩ | ⟨g, cap, cur, e, _⟩
                  · omega
                  · exact ⟨_, _, _, e, rfl⟩
                subst hv6
                have hnp : 0 < n6 := by omega
                have HN6 := Lib.hid hn6
                clear c0 c1 f0 f1 hown4 hgrow4 hnb4 HWX hn6
                have c0 := HR4.out.box.cell 0
                have c1 := HR4.out.box.cell 1
                have f0 := HR4.out.box.frozen 0
                have f1 := HR4.out.box.frozen 1
                simp only [List.getElem?_cons_zero, List.getElem?_cons_succ] at c0 c1
                have hbx := (HR4.out.box.set (o := 0) (.string ⟨#[]⟩)).set (o := 1) (.int .i64 0)
                simp only [List.set_cons_zero, List.set_cons_succ] at hbx
                have h9 := HR4.out.setw ⟨#[]⟩ 0 (W' := (w4.setCell ⟨w.heap.size, 0, none⟩ (.string ⟨#[]⟩)).setCell ⟨w.heap.size, 1, none⟩ (.int .i64 0)) (by simp) (fun q hq => (Below.heap_setCell _ _ _ _ hq).trans (Below.heap_setCell _ _ _ _ hq)) hbx ((HR4.out.blw.setCell (p := ⟨w.heap.size, 0, none⟩) (Nat.le_refl _) _).setCell (p := ⟨w.heap.size, 1, none⟩) (Nat.le_refl _) _)
                have HR9 := Lib.hid h9
                clear hbx h9
                have HNX := Lib.hid (show runR s (k + 1) = some { st with out := st.out ++ [st.line ++ [(st.wt, st.wa)]], line := [], wt := ⟨#[]⟩, wa := 0 } by rw [runR, HRN.out]; show stepR s st k (cAt s k) = _; rw [HST.out, HPW.out]; unfold StR.pushL; rw [if_neg (by simp)])
                have HBX := Lib.hid (show (st.out ++ [st.line ++ [(st.wt, st.wa)]]).length + ([] : List WordV).length + (ByteArray.mk #[]).size ≤ k + 1 from by
                  have h1 := HBS.out
                  have h3 : (ByteArray.mk #[]).size = 0 := rfl
                  rw [List.length_append, h3]
                  simp
                  omega)
                have bl := below1 ((w4.setCell ⟨w.heap.size, 0, none⟩ (.string ⟨#[]⟩)).setCell ⟨w.heap.size, 1, none⟩ (.int .i64 0)) (.cells #[.slice p6 n6 k6] 33)
                have HRL := Lib.hid (HR9.out.below bl)
                have HZL := Lib.hid HRL.out.ln.z
                have HBL := Lib.hid (show BlkIs ((((w4.setCell ⟨w.heap.size, 0, none⟩ (.string ⟨#[]⟩)).setCell ⟨w.heap.size, 1, none⟩ (.int .i64 0))).alloc (.cells #[.slice p6 n6 k6] 33)) w4.heap.size [.slice p6 n6 k6] 33 from by have := BlkIs.alloc ((w4.setCell ⟨w.heap.size, 0, none⟩ (.string ⟨#[]⟩)).setCell ⟨w.heap.size, 1, none⟩ (.int .i64 0)) [.slice p6 n6 k6] 33; simpa using this)
                clear bl
                go_wp2_with (at_builtin; refine wpList_append_own2 _ rfl _ _ 28 rfl B0 33 i0 (.slice none 0 0) 1 24 Tryz.underlying28 HI.out HZ.out hz1 hz2 rfl (by decide) u5 st.out.length svs rfl HRL.out.ln.own ⟨w4.heap.size, 0, none⟩ 1 1 [.slice p6 n6 k6] rfl rfl ?ql2x3 ?ql3x3 ?ql4x3 ?ql5x3 ?ql6x3 ?_)
                try (case ql2x3 =>
                      intro jj u hj
                      rw [Go.WideShapes.add_plain, Nat.zero_add, HBL.out.cell jj]
                      exact hj)
                case ql3x3 => first | rfl | (intro u hu; rw [List.mem_singleton.1 hu]; rfl)
                case ql4x3 => exact (le601 HLO.out).1
                case ql5x3 => exact (le601 HLO.out).2
                case ql6x3 => first | exact HZL.out | (have := HZL.out; simpa using this)
                intro v5 w5 hown5 hgrow5 hnb5
                have HRX := Lib.hid (R7.line HRL.out (by decide) hgrow5 hown5 (by rw [World.size_alloc]; simpa using hnb5))
                clear hown5 hgrow5 hnb5 HBL
                go_wp2
                go_roundw
                case rel => exact ⟨k + 1, _, _, Nat.succ_le_succ HK0.out, by go_num, HNX.out, HRX.out, HBX.out⟩
                case measure => have := HK0.out; simp [intOf]; omega
            · by_cases h32 : s[k].toNat = 32
              · have hc1 : (s[k].toNat : Int) = 32 := by omega
                have hc3 : ((s[k].toNat : Int) != 10) = true := by simp [hc1]
                have hc5 : ((s[k].toNat : Int) == 10) = false := by simp [hc1]
                have hc6 : ((s[k].toNat : Int) != 32) = false := by simp [hc1]
                have HST := Lib.hid (show stepR s st k (cAt s k) = some st.pushW by rw [HCA.out]; unfold stepR; rw [if_neg hw, if_neg h10, if_pos h32])
                clear hw hb h10 h32
                by_cases hwe : st.wt.size = 0
                · have t1 : st.wt.toList.isEmpty = true := by rw [isE]; simp [hwe]
                  have HWE := Lib.hid hwe
                  clear hwe
                  have HNX := Lib.hid (show runR s (k + 1) = some st by rw [runR, HRN.out]; show stepR s st k (cAt s k) = _; rw [HST.out]; unfold StR.pushW; rw [if_pos HWE.out])
                  have HRX := HR7
                  have HBX := Lib.hid (show st.out.length + st.line.length + st.wt.size ≤ k + 1 from Nat.le_succ_of_le HBS.out)
                  go_wp2
                  go_roundw
                  case rel => exact ⟨k + 1, _, _, Nat.succ_le_succ HK0.out, by go_num, HNX.out, HRX.out, HBX.out⟩
                  case measure => have := HK0.out; simp [intOf]; omega
                · have t1 : st.wt.toList.isEmpty = false := by rw [isE]; simp [hwe]
                  have HWE := Lib.hid hwe
                  clear hwe
                  have bb := below1 wr (.cells #[.string st.wt, .int .i64 st.wa] 36)
                  have HRA := Lib.hid (HR7.out.below bb)
                  have HZA := Lib.hid HRA.out.ln.z
                  have HWX := Lib.hid (BlkIs.alloc wr [.string st.wt, .int .i64 st.wa] 36)
                  have HPW := Lib.hid (show st.pushW = { st with line := st.line ++ [(st.wt, st.wa)], wt := ⟨#[]⟩, wa := 0 } by unfold StR.pushW; rw [if_neg HWE.out])
                  clear bb
                  go_wp2_with (at_builtin; refine wpList_append_own2 _ rfl _ _ 33 rfl B0 36 i1 zT 2 24 Tryz.underlying33 HI1.out HZ1.out hz11 hz12 hz13 (by decide) u6 st.line.length (flat encW st.line) rfl HRA.out.own ⟨wr.heap.size, 0, none⟩ 1 1 [.string st.wt, .int .i64 st.wa] rfl rfl ?qc2x4 ?qc3x4 ?qc4x4 ?qc5x4 ?qc6x4 ?_)
                  try (case qc2x4 =>
                        intro jj u hj
                        rw [Go.WideShapes.add_plain, Nat.zero_add, HWX.out.cell jj]
                        exact hj)
                  case qc3x4 => first | (intro u hu; simp at hu; rcases hu with rfl | rfl <;> rfl) | (simp [Value.oneCell'])
                  case qc4x4 => exact (le601 HLC.out).1
                  case qc5x4 => exact (le601 HLC.out).2
                  case qc6x4 => first | exact HZA.out | (have := HZA.out; simpa using this)
                  intro v6 w4 hown4 hgrow4 hnb4
                  have HR4 := Lib.hid (R7.word HRA.out (by decide) hgrow4 hown4 (by rw [World.size_alloc]; simpa using hnb4))
                  obtain ⟨p6, n6, k6, hv6, hn6⟩ : ∃ p n c, v6 = Value.slice p n c ∧ n = st.line.length + 1 := by
                    rcases hown4.2 with ⟨e, e2⟩ | ⟨g, cap, cur, e, _⟩
                    · omega
                    · exact ⟨_, _, _, e, rfl⟩
                  subst hv6
                  have hnp : 0 < n6 := by omega
                  have HN6 := Lib.hid hn6
                  clear c0 c1 f0 f1 hown4 hgrow4 hnb4 HWX hn6
                  have c0 := HR4.out.box.cell 0
                  have c1 := HR4.out.box.cell 1
                  have f0 := HR4.out.box.frozen 0
                  have f1 := HR4.out.box.frozen 1
                  simp only [List.getElem?_cons_zero, List.getElem?_cons_succ] at c0 c1
                  have hbx := (HR4.out.box.set (o := 0) (.string ⟨#[]⟩)).set (o := 1) (.int .i64 0)
                  simp only [List.set_cons_zero, List.set_cons_succ] at hbx
                  have h9 := HR4.out.setw ⟨#[]⟩ 0 (W' := (w4.setCell ⟨w.heap.size, 0, none⟩ (.string ⟨#[]⟩)).setCell ⟨w.heap.size, 1, none⟩ (.int .i64 0)) (by simp) (fun q hq => (Below.heap_setCell _ _ _ _ hq).trans (Below.heap_setCell _ _ _ _ hq)) hbx ((HR4.out.blw.setCell (p := ⟨w.heap.size, 0, none⟩) (Nat.le_refl _) _).setCell (p := ⟨w.heap.size, 1, none⟩) (Nat.le_refl _) _)
                  have HR9 := Lib.hid h9
                  clear hbx h9
                  have HNX := Lib.hid (show runR s (k + 1) = some { st with line := st.line ++ [(st.wt, st.wa)], wt := ⟨#[]⟩, wa := 0 } by rw [runR, HRN.out]; show stepR s st k (cAt s k) = _; rw [HST.out, HPW.out])
                  have HBX := Lib.hid (show st.out.length + (st.line ++ [(st.wt, st.wa)]).length + (ByteArray.mk #[]).size ≤ k + 1 from by
                    have h1 := HBS.out
                    have h2 : 0 < st.wt.size := Nat.pos_of_ne_zero HWE.out
                    have h3 : (ByteArray.mk #[]).size = 0 := rfl
                    rw [List.length_append, h3]
                    simp
                    omega)
                  have HRX := HR9
                  go_wp2
                  go_roundw
                  case rel => exact ⟨k + 1, _, _, Nat.succ_le_succ HK0.out, by go_num, HNX.out, HRX.out, HBX.out⟩
                  case measure => have := HK0.out; simp [intOf]; omega
              · have hz1 : ¬ ((s[k].toNat : Int) = 10) := by omega
                have hz2 : ¬ ((s[k].toNat : Int) = 32) := by omega
                have hw1 : ¬ (32 < (s[k].toNat : Int) ∧ (s[k].toNat : Int) < 127) := by unfold wordC at hw; simp at hw; omega
                obtain ⟨hE1, hE2⟩ := ref_bad HK6.out HK0.out HRN.out (by rw [HCA.out]; unfold stepR; rw [if_neg hw, if_neg h10, if_neg h32])
                have HR := Lib.hid (HP.out _ (.slice none 0 0) [] B0 _ _ _ HR7.out.blw hE1 hE2 (LnAt.start HR7.out.ln.z))
                have hz3 : ((s[k].toNat : Int) != 10) = true := by simpa using hz1
                have hz4 : ((s[k].toNat : Int) != 32) = true := by simpa using hz2
                clear hE1 hE2 hw hb h10 h32
                go_wp2_with fail
                all_goals first
                  | (refine bodyPost_ret (v := .tuple #[.slice none 0 0, .int .i64 3, .int .i64 k]) (by rw [results_tmp3 rfl]; rfl) rfl ?_
                     exact HR.out)
        · have hkeq : k = s.size := by omega
          have hkn : ¬ ((k : Int) < (s.size : Int)) := by omega
          have hca : cAt s k = 10 := by unfold cAt; rw [dif_neg hlt]
          have HST := Lib.hid (show stepR s st k (cAt s k) = some st.pushW.pushL by rw [hca]; rfl)
          clear hca hb hkeq
          by_cases hwe : st.wt.size = 0
          · have t1 : st.wt.toList.isEmpty = true := by rw [isE]; simp [hwe]
            have HWE := Lib.hid hwe
            clear hwe
            obtain ⟨p6, n6, k6, hu6⟩ : ∃ p n c, u6 = Value.slice p n c := by
              rcases HR7.out.own.2 with ⟨e, _⟩ | ⟨g, cap, cur, e, _⟩
              · exact ⟨_, _, _, e⟩
              · exact ⟨_, _, _, e⟩
            subst hu6
            have hn6 : n6 = st.line.length := by
              rcases HR7.out.own.2 with ⟨e, e2⟩ | ⟨g, cap, cur, e, _⟩
              · injection e with e3 e4 e5
                omega
              · injection e
            have HN6 := Lib.hid hn6
            clear hn6
            have HPW := Lib.hid (show st.pushW = st by unfold StR.pushW; rw [if_pos HWE.out])
            by_cases hle : st.line = []
            · have hn0 : n6 = 0 := by rw [HN6.out, hle]; rfl
              clear HN6
              subst hn0
              have HNX := Lib.hid (show runR s (k + 1) = some st by rw [runR, HRN.out]; show stepR s st k (cAt s k) = _; rw [HST.out, HPW.out]; unfold StR.pushL; rw [if_pos hle])
              have HRX := Lib.hid (show R7 w w.heap.size B0 33 36 u5 (.slice p6 0 k6) svs st wr from HR7.out)
              have HBX := Lib.hid (show st.out.length + st.line.length + st.wt.size ≤ k + 1 from Nat.le_succ_of_le HBS.out)
              clear hle
              go_wp2
              go_roundw
              case rel => exact ⟨k + 1, _, _, Nat.succ_le_succ HK0.out, by go_num, HNX.out, HRX.out, HBX.out⟩
              case measure => have := HK0.out; simp [intOf]; omega
            · have hnp : 0 < n6 := by rw [HN6.out]; exact List.length_pos_iff.2 hle
              have hnz : (0 : Int) < (n6 : Int) := by omega
              have HNX := Lib.hid (show runR s (k + 1) = some { st with out := st.out ++ [st.line], line := [] } by rw [runR, HRN.out]; show stepR s st k (cAt s k) = _; rw [HST.out, HPW.out]; unfold StR.pushL; rw [if_neg hle])
              have HBX := Lib.hid (show (st.out ++ [st.line]).length + ([] : List WordV).length + st.wt.size ≤ k + 1 from by
                have h1 := HBS.out
                have h2 := List.length_pos_iff.2 hle
                rw [List.length_append]
                simp
                omega)
              clear hle
              have bl := below1 wr (.cells #[.slice p6 n6 k6] 33)
              have HRL := Lib.hid (HR7.out.below bl)
              have HZL := Lib.hid HRL.out.ln.z
              have HBL := Lib.hid (show BlkIs ((wr).alloc (.cells #[.slice p6 n6 k6] 33)) wr.heap.size [.slice p6 n6 k6] 33 from by have := BlkIs.alloc wr [.slice p6 n6 k6] 33; simpa using this)
              clear bl
              go_wp2_with (at_builtin; refine wpList_append_own2 _ rfl _ _ 28 rfl B0 33 i0 (.slice none 0 0) 1 24 Tryz.underlying28 HI.out HZ.out hz1 hz2 rfl (by decide) u5 st.out.length svs rfl HRL.out.ln.own ⟨wr.heap.size, 0, none⟩ 1 1 [.slice p6 n6 k6] rfl rfl ?ql2x5 ?ql3x5 ?ql4x5 ?ql5x5 ?ql6x5 ?_)
              try (case ql2x5 =>
                    intro jj u hj
                    rw [Go.WideShapes.add_plain, Nat.zero_add, HBL.out.cell jj]
                    exact hj)
              case ql3x5 => first | rfl | (intro u hu; rw [List.mem_singleton.1 hu]; rfl)
              case ql4x5 => exact (le601 HLO.out).1
              case ql5x5 => exact (le601 HLO.out).2
              case ql6x5 => first | exact HZL.out | (have := HZL.out; simpa using this)
              intro v5 w5 hown5 hgrow5 hnb5
              have HRX := Lib.hid (R7.line HRL.out (by decide) hgrow5 hown5 (by rw [World.size_alloc]; simpa using hnb5))
              clear hown5 hgrow5 hnb5 HBL
              go_wp2
              go_roundw
              case rel => exact ⟨k + 1, _, _, Nat.succ_le_succ HK0.out, by go_num, HNX.out, HRX.out, HBX.out⟩
              case measure => have := HK0.out; simp [intOf]; omega
          · have t1 : st.wt.toList.isEmpty = false := by rw [isE]; simp [hwe]
            have HWE := Lib.hid hwe
            clear hwe
            have bb := below1 wr (.cells #[.string st.wt, .int .i64 st.wa] 36)
            have HRA := Lib.hid (HR7.out.below bb)
            have HZA := Lib.hid HRA.out.ln.z
            have HWX := Lib.hid (BlkIs.alloc wr [.string st.wt, .int .i64 st.wa] 36)
            have HPW := Lib.hid (show st.pushW = { st with line := st.line ++ [(st.wt, st.wa)], wt := ⟨#[]⟩, wa := 0 } by unfold StR.pushW; rw [if_neg HWE.out])
            clear bb
            go_wp2_with (at_builtin; refine wpList_append_own2 _ rfl _ _ 33 rfl B0 36 i1 zT 2 24 Tryz.underlying33 HI1.out HZ1.out hz11 hz12 hz13 (by decide) u6 st.line.length (flat encW st.line) rfl HRA.out.own ⟨wr.heap.size, 0, none⟩ 1 1 [.string st.wt, .int .i64 st.wa] rfl rfl ?qc2x6 ?qc3x6 ?qc4x6 ?qc5x6 ?qc6x6 ?_)
            try (case qc2x6 =>
                  intro jj u hj
                  rw [Go.WideShapes.add_plain, Nat.zero_add, HWX.out.cell jj]
                  exact hj)
            case qc3x6 => first | (intro u hu; simp at hu; rcases hu with rfl | rfl <;> rfl) | (simp [Value.oneCell'])
            case qc4x6 => exact (le601 HLC.out).1
            case qc5x6 => exact (le601 HLC.out).2
            case qc6x6 => first | exact HZA.out | (have := HZA.out; simpa using this)
            intro v6 w4 hown4 hgrow4 hnb4
            have HR4 := Lib.hid (R7.word HRA.out (by decide) hgrow4 hown4 (by rw [World.size_alloc]; simpa using hnb4))
            obtain ⟨p6, n6, k6, hv6, hn6⟩ : ∃ p n c, v6 = Value.slice p n c ∧ n = st.line.length + 1 := by
              rcases hown4.2 with ⟨e, e2⟩ | ⟨g, cap, cur, e, _⟩
              · omega
              · exact ⟨_, _, _, e, rfl⟩
            subst hv6
            have hnp : 0 < n6 := by omega
            have HN6 := Lib.hid hn6
            clear c0 c1 f0 f1 hown4 hgrow4 hnb4 HWX hn6
            have c0 := HR4.out.box.cell 0
            have c1 := HR4.out.box.cell 1
            have f0 := HR4.out.box.frozen 0
            have f1 := HR4.out.box.frozen 1
            simp only [List.getElem?_cons_zero, List.getElem?_cons_succ] at c0 c1
            have hbx := (HR4.out.box.set (o := 0) (.string ⟨#[]⟩)).set (o := 1) (.int .i64 0)
            simp only [List.set_cons_zero, List.set_cons_succ] at hbx
            have h9 := HR4.out.setw ⟨#[]⟩ 0 (W' := (w4.setCell ⟨w.heap.size, 0, none⟩ (.string ⟨#[]⟩)).setCell ⟨w.heap.size, 1, none⟩ (.int .i64 0)) (by simp) (fun q hq => (Below.heap_setCell _ _ _ _ hq).trans (Below.heap_setCell _ _ _ _ hq)) hbx ((HR4.out.blw.setCell (p := ⟨w.heap.size, 0, none⟩) (Nat.le_refl _) _).setCell (p := ⟨w.heap.size, 1, none⟩) (Nat.le_refl _) _)
            have HR9 := Lib.hid h9
            clear hbx h9
            have HNX := Lib.hid (show runR s (k + 1) = some { st with out := st.out ++ [st.line ++ [(st.wt, st.wa)]], line := [], wt := ⟨#[]⟩, wa := 0 } by rw [runR, HRN.out]; show stepR s st k (cAt s k) = _; rw [HST.out, HPW.out]; unfold StR.pushL; rw [if_neg (by simp)])
            have HBX := Lib.hid (show (st.out ++ [st.line ++ [(st.wt, st.wa)]]).length + ([] : List WordV).length + (ByteArray.mk #[]).size ≤ k + 1 from by
              have h1 := HBS.out
              have h3 : (ByteArray.mk #[]).size = 0 := rfl
              rw [List.length_append, h3]
              simp
              omega)
            have bl := below1 ((w4.setCell ⟨w.heap.size, 0, none⟩ (.string ⟨#[]⟩)).setCell ⟨w.heap.size, 1, none⟩ (.int .i64 0)) (.cells #[.slice p6 n6 k6] 33)
            have HRL := Lib.hid (HR9.out.below bl)
            have HZL := Lib.hid HRL.out.ln.z
            have HBL := Lib.hid (show BlkIs ((((w4.setCell ⟨w.heap.size, 0, none⟩ (.string ⟨#[]⟩)).setCell ⟨w.heap.size, 1, none⟩ (.int .i64 0))).alloc (.cells #[.slice p6 n6 k6] 33)) w4.heap.size [.slice p6 n6 k6] 33 from by have := BlkIs.alloc ((w4.setCell ⟨w.heap.size, 0, none⟩ (.string ⟨#[]⟩)).setCell ⟨w.heap.size, 1, none⟩ (.int .i64 0)) [.slice p6 n6 k6] 33; simpa using this)
            clear bl
            go_wp2_with (at_builtin; refine wpList_append_own2 _ rfl _ _ 28 rfl B0 33 i0 (.slice none 0 0) 1 24 Tryz.underlying28 HI.out HZ.out hz1 hz2 rfl (by decide) u5 st.out.length svs rfl HRL.out.ln.own ⟨w4.heap.size, 0, none⟩ 1 1 [.slice p6 n6 k6] rfl rfl ?ql2x7 ?ql3x7 ?ql4x7 ?ql5x7 ?ql6x7 ?_)
            try (case ql2x7 =>
                  intro jj u hj
                  rw [Go.WideShapes.add_plain, Nat.zero_add, HBL.out.cell jj]
                  exact hj)
            case ql3x7 => first | rfl | (intro u hu; rw [List.mem_singleton.1 hu]; rfl)
            case ql4x7 => exact (le601 HLO.out).1
            case ql5x7 => exact (le601 HLO.out).2
            case ql6x7 => first | exact HZL.out | (have := HZL.out; simpa using this)
            intro v5 w5 hown5 hgrow5 hnb5
            have HRX := Lib.hid (R7.line HRL.out (by decide) hgrow5 hown5 (by rw [World.size_alloc]; simpa using hnb5))
            clear hown5 hgrow5 hnb5 HBL
            go_wp2
            go_roundw
            case rel => exact ⟨k + 1, _, _, Nat.succ_le_succ HK0.out, by go_num, HNX.out, HRX.out, HBX.out⟩
            case measure => have := HK0.out; simp [intOf]; omega
end Go.Proofs.YtefnkoofgpmmmaaGreatDoor

/- The document's word on a roster: New of layer 2. Conditions: lists of no more than 1000. -/
import Derived.Test.YtbbcicengfmhiaaDoorRos5
namespace Go.Proofs.YtbbcicengfmhiaaDoor
set_option maxRecDepth 100000
open Go.RowKit

theorem rightLv_any {ls : List Lbl} {j : Nat} (hj : j < ls.length) (h : rightLv ls[j]!.1 = false) : (ls.any fun l => !rightLv l.1) = true := by
  rw [List.any_eq_true]
  exact ⟨ls[j]!, by rw [getElem!_pos ls j hj]; exact List.getElem_mem hj, by rw [h]; rfl⟩
theorem rightLv_all {ls : List Lbl} (h : ∀ j, j < ls.length → rightLv ls[j]!.1 = true) : (ls.any fun l => !rightLv l.1) = false := by
  rw [List.any_eq_false]
  intro l hl
  obtain ⟨j, hj, rfl⟩ := List.getElem_of_mem hl
  have := h j hj
  rw [getElem!_pos ls j hj] at this
  simp [this]
theorem rightPv_any {ps : List Psn} {j : Nat} (hj : j < ps.length) (h : rightLv ps[j]!.2.1 = false) : (ps.any fun p => !rightLv p.2.1) = true := by
  rw [List.any_eq_true]
  exact ⟨ps[j]!, by rw [getElem!_pos ps j hj]; exact List.getElem_mem hj, by rw [h]; rfl⟩
theorem rightPv_all {ps : List Psn} (h : ∀ j, j < ps.length → rightLv ps[j]!.2.1 = true) : (ps.any fun p => !rightLv p.2.1) = false := by
  rw [List.any_eq_false]
  intro l hl
  obtain ⟨j, hj, rfl⟩ := List.getElem_of_mem hl
  have := h j hj
  rw [getElem!_pos ps j hj] at this
  simp [this]
theorem out_any {n : Nat} {ps : List Psn} {j : Nat} (hj : j < ps.length) (h : outB n ps[j]! = true) : ps.any (outB n) = true := by
  rw [List.any_eq_true]
  exact ⟨ps[j]!, by rw [getElem!_pos ps j hj]; exact List.getElem_mem hj, h⟩
theorem out_all {n : Nat} {ps : List Psn} (h : ∀ j, j < ps.length → outB n ps[j]! = false) : ps.any (outB n) = false := by
  rw [List.any_eq_false]
  intro l hl
  obtain ⟨j, hj, rfl⟩ := List.getElem_of_mem hl
  have := h j hj
  rw [getElem!_pos ps j hj] at this
  simp [this]
def eqAt (ls : List Lbl) (i k : Nat) : Bool := ls[i]!.1 == ls[k]!.1 && ls[i]!.2 == ls[k]!.2
theorem dup_hit {ls : List Lbl} {i k : Nat} (hi : i < ls.length) (hk : k < i) (h : (ls[i]!.1 == ls[k]!.1 && ls[i]!.2 == ls[k]!.2) = true) : dupB ls i = true := by
  rw [dupB, List.any_eq_true]
  refine ⟨ls[k]!, ?_, h⟩
  have hkl : k < (ls.take i).length := by simp; omega
  have : (ls.take i)[k] = ls[k]! := by rw [List.getElem_take, getElem!_pos ls k (by omega)]
  rw [← this]
  exact List.getElem_mem hkl
theorem dup_miss {ls : List Lbl} {i : Nat} (hi : i < ls.length) (h : ∀ k, k < i → (ls[i]!.1 == ls[k]!.1 && ls[i]!.2 == ls[k]!.2) = false) : dupB ls i = false := by
  rw [dupB, List.any_eq_false]
  intro l hl
  obtain ⟨k, hk, rfl⟩ := List.getElem_of_mem hl
  have hk' : k < i := by simp at hk; omega
  have := h k hk'
  rw [List.getElem_take]
  rw [getElem!_pos ls k (by omega)] at this
  simp only [this]
  simp

set_option maxRecDepth 100000 in
set_option maxHeartbeats 8000000 in
theorem refNew (vl vp : Value) (ls : List Lbl) (ps : List Psn) (w : World) (hL : SlAt 2 encL w vl ls) (hP : SlAt 3 encP w vp ps) (hbl : ls.length ≤ 9223372036854775807) (hbp : ps.length ≤ 9223372036854775807) :
    Calls Tryd.prog 12 #[vl, vp] w fun e w' => e = .returned (.int .i64 (newC ls ps)) ∧ Below w.heap.size w w' := by
  obtain ⟨pl, cl, rfl, _, kl⟩ := hL
  obtain ⟨pp, cp, rfl, _, kp⟩ := hP
  have KL := Lib.hid kl
  have KP := Lib.hid kp
  clear kl kp
  generalize hn : ls.length = n at hbl
  generalize hm : ps.length = m at hbp
  have HN := Lib.hid hn
  have HM := Lib.hid hm
  clear hn hm
  obtain ⟨c, hc⟩ : ∃ c, newC ls ps = c := ⟨_, rfl⟩
  rw [hc]
  have HC := Lib.hid hc
  clear hc
  go_enter Tryd.func12, Tryd.ntmps12
  cases t1 : decide ((n : Int) < 1) with
  | true =>
    have hw : c = 1 := by rw [← HC.out]; unfold newC; rw [if_pos (by have := HN.out; simp at t1; omega)]
    subst hw
    go_wp2
    go_ret
    exact ⟨rfl, Below.refl _ _⟩
  | false =>
  cases t2 : decide ((4 : Int) < n) with
  | true =>
    have hw : c = 1 := by rw [← HC.out]; unfold newC; rw [if_pos (by have := HN.out; simp at t2; omega)]
    subst hw
    go_wp2
    go_ret
    exact ⟨rfl, Below.refl _ _⟩
  | false =>
  cases t3 : decide ((12 : Int) < m) with
  | true =>
    have hw : c = 1 := by rw [← HC.out]; unfold newC; rw [if_pos (by have := HM.out; simp at t3; omega)]
    subst hw
    go_wp2
    go_ret
    exact ⟨rfl, Below.refl _ _⟩
  | false =>
  have Hsz := Lib.hid (show ¬ (ls.length < 1 ∨ 4 < ls.length ∨ 12 < ps.length) by have := HN.out; have := HM.out; simp at t1 t2 t3; omega)
  go_wp2
  clear t1 t2 t3
  go_loopw [5] (fun i wr => ∃ j : Nat, j ≤ n ∧ i = .int .i64 j ∧ Below w.heap.size w wr ∧ ∀ k, k < j → rightLv ls[k]!.1 = true) (fun i _ => n - (intOf i).toNat)
  case atStart => exact ⟨0, by omega, rfl, Below.refl _ _, fun k hk => absurd hk (by omega)⟩
  case round =>
    obtain ⟨j, hj, rfl, hB, hall⟩ := hrel
    have HB := Lib.hid hB
    have HA := Lib.hid hall
    clear hB hall
    by_cases hlt : j < n
    · have hltz : (j : Int) < (n : Int) := by omega
      obtain ⟨b, off, rfl, hb, hcell⟩ := KL.out (by have := HN.out; omega)
      have c0 : wr.cell? ⟨b, off + j * 2, none⟩ = some (.int .i64 ls[j]!.1) := (HB.out.cell (p := ⟨b, off + j * 2, none⟩) hb).trans (hcell j (by have := HN.out; omega) 0 _ rfl)
      have c1 : wr.cell? ⟨b, off + j * 2 + 1, none⟩ = some (.int .u16 (ls[j]!.2 : Int)) := (HB.out.cell (p := ⟨b, off + j * 2 + 1, none⟩) hb).trans (hcell j (by have := HN.out; omega) 1 _ rfl)
      clear hcell
      cases hq : rightLv ls[j]!.1 with
      | false =>
        have hw : c = 1 := by rw [← HC.out]; unfold newC; rw [if_neg Hsz.out, if_pos (.inl (rightLv_any (by have := HN.out; omega) hq))]
        subst hw
        generalize ls[j]!.1 = a at c0 hq
        generalize ls[j]!.2 = x at c1
        have h3 := ref01Right a x wr
        rw [hq] at h3
        clear hq
        go_wp2_with (go_at_call 58; refine h3.mono ?_; rintro e w' ⟨rfl, hb⟩)
        go_ret
        exact ⟨rfl, HB.out.trans (hb.mono HB.out.size)⟩
      | true =>
        have HQ := Lib.hid hq
        generalize ls[j]!.1 = a at c0 hq
        generalize ls[j]!.2 = x at c1
        have h3 := ref01Right a x wr
        rw [hq] at h3
        clear hq
        go_wp2_with (go_at_call 58; refine h3.mono ?_; rintro e w' ⟨rfl, hb⟩)
        go_roundw
        case rel =>
          have hq' : ∀ k, k < j + 1 → rightLv ls[k]!.1 = true := fun k hk => by
            by_cases e : k = j
            · subst e; exact HQ.out
            · exact HA.out k (by omega)
          have hb' := HB.out.trans (hb.mono HB.out.size)
          first | exact ⟨j + 1, by omega, by go_num, hb', hq'⟩ | ((repeat apply Exists.intro); exact ⟨⟨j + 1, by omega, by go_num, hb', hq'⟩, rfl⟩)
        case measure => simp [intOf] <;> omega
    · obtain rfl : n = j := by omega
      have R1 := Lib.hid (rightLv_all (ls := ls) (fun i hi => HA.out i (by have := HN.out; omega)))
      clear HA
      go_wp2
      go_loopw [6] (fun i wr => ∃ k : Nat, k ≤ m ∧ i = .int .i64 k ∧ Below w.heap.size w wr ∧ ∀ q, q < k → rightLv ps[q]!.2.1 = true) (fun i _ => m - (intOf i).toNat)
      case atStart => exact ⟨0, by omega, rfl, HB.out, fun k hk => absurd hk (by omega)⟩
      case round =>
        clear HB
        obtain ⟨k, hk, rfl, hB, hall⟩ := hrel
        have HB := Lib.hid hB
        have HA := Lib.hid hall
        clear hB hall
        by_cases hlt2 : k < m
        · have hltz : (k : Int) < (m : Int) := by omega
          obtain ⟨b, off, rfl, hb, hcell⟩ := KP.out (by have := HM.out; omega)
          have c0 : wr.cell? ⟨b, off + k * 3 + 1, none⟩ = some (.int .i64 ps[k]!.2.1) := (HB.out.cell (p := ⟨b, off + k * 3 + 1, none⟩) hb).trans (hcell k (by have := HM.out; omega) 1 _ rfl)
          have c1 : wr.cell? ⟨b, off + k * 3 + 1 + 1, none⟩ = some (.int .u16 (ps[k]!.2.2 : Int)) := (HB.out.cell (p := ⟨b, off + k * 3 + 2, none⟩) hb).trans (hcell k (by have := HM.out; omega) 2 _ rfl)
          clear hcell
          cases hq : rightLv ps[k]!.2.1 with
          | false =>
            have hw : c = 1 := by rw [← HC.out]; unfold newC; rw [if_neg Hsz.out, if_pos (.inr (rightPv_any (by have := HM.out; omega) hq))]
            subst hw
            generalize ps[k]!.2.1 = a at c0 hq
            generalize ps[k]!.2.2 = x at c1
            have h3 := ref01Right a x wr
            rw [hq] at h3
            clear hq
            go_wp2_with (go_at_call 58; refine h3.mono ?_; rintro e w' ⟨rfl, hb⟩)
            go_ret
            exact ⟨rfl, HB.out.trans (hb.mono HB.out.size)⟩
          | true =>
            have HQ := Lib.hid hq
            generalize ps[k]!.2.1 = a at c0 hq
            generalize ps[k]!.2.2 = x at c1
            have h3 := ref01Right a x wr
            rw [hq] at h3
            clear hq
            go_wp2_with (go_at_call 58; refine h3.mono ?_; rintro e w' ⟨rfl, hb⟩)
            go_roundw
            case rel =>
              have hq' : ∀ q, q < k + 1 → rightLv ps[q]!.2.1 = true := fun q hk => by
                by_cases e : q = k
                · subst e; exact HQ.out
                · exact HA.out q (by omega)
              have hb' := HB.out.trans (hb.mono HB.out.size)
              first | exact ⟨k + 1, by omega, by go_num, hb', hq'⟩ | ((repeat apply Exists.intro); exact ⟨⟨k + 1, by omega, by go_num, hb', hq'⟩, rfl⟩)
            case measure => simp [intOf] <;> omega
        · obtain rfl : m = k := by omega
          have Hr := Lib.hid (show ¬ ((ls.any fun l => !rightLv l.1) = true ∨ (ps.any fun p => !rightLv p.2.1) = true) by rw [R1.out, rightPv_all (ps := ps) (fun i hi => HA.out i (by have := HM.out; omega))]; simp)
          clear HA R1
          go_wp2
          go_loopw [7] (fun i wr => ∃ k : Nat, k ≤ n ∧ i = .int .i64 k ∧ Below w.heap.size w wr ∧ ∀ q, q < k → dupB ls q = false) (fun i _ => n - (intOf i).toNat)
          case atStart => exact ⟨0, by omega, rfl, HB.out, fun k hk => absurd hk (by omega)⟩
          case round =>
            clear HB
            obtain ⟨i, hi, rfl, hB, hall⟩ := hrel
            have HB := Lib.hid hB
            have HA := Lib.hid hall
            clear hB hall
            by_cases hlt3 : i < n
            · have hltz : (i : Int) < (n : Int) := by omega
              go_wp2
              go_loopw [8] (fun v wr => ∃ k : Nat, k ≤ i ∧ v = .int .i64 k ∧ Below w.heap.size w wr ∧ ∀ q, q < k → eqAt ls i q = false) (fun v _ => i - (intOf v).toNat)
              case atStart => exact ⟨0, by omega, rfl, HB.out, fun k hk => absurd hk (by omega)⟩
              case round =>
                clear HB
                obtain ⟨k, hk, rfl, hB, hall⟩ := hrel
                have HB := Lib.hid hB
                have HA2 := Lib.hid hall
                clear hB hall
                by_cases hlt4 : k < i
                · have hltz2 : (k : Int) < (i : Int) := by omega
                  have hltz3 : (k : Int) < (n : Int) := by omega
                  obtain ⟨b, off, rfl, hb, hcell⟩ := KL.out (by have := HN.out; omega)
                  have c0 : wr.cell? ⟨b, off + i * 2, none⟩ = some (.int .i64 ls[i]!.1) := (HB.out.cell (p := ⟨b, off + i * 2, none⟩) hb).trans (hcell i (by have := HN.out; omega) 0 _ rfl)
                  have c1 : wr.cell? ⟨b, off + i * 2 + 1, none⟩ = some (.int .u16 (ls[i]!.2 : Int)) := (HB.out.cell (p := ⟨b, off + i * 2 + 1, none⟩) hb).trans (hcell i (by have := HN.out; omega) 1 _ rfl)
                  have d0 : wr.cell? ⟨b, off + k * 2, none⟩ = some (.int .i64 ls[k]!.1) := (HB.out.cell (p := ⟨b, off + k * 2, none⟩) hb).trans (hcell k (by have := HN.out; omega) 0 _ rfl)
                  have d1 : wr.cell? ⟨b, off + k * 2 + 1, none⟩ = some (.int .u16 (ls[k]!.2 : Int)) := (HB.out.cell (p := ⟨b, off + k * 2 + 1, none⟩) hb).trans (hcell k (by have := HN.out; omega) 1 _ rfl)
                  clear hcell
                  cases hq : eqAt ls i k with
                  | true =>
                    have hw : c = 7 := by rw [← HC.out]; unfold newC; rw [if_neg Hsz.out, if_neg Hr.out, if_pos ⟨i, by have := HN.out; omega, dup_hit (by have := HN.out; omega) hlt4 hq⟩]
                    subst hw
                    have hE : ∀ W, (binOp .eql 41 (.agg #[.int .i64 (ls[i]!.1), .int .u16 ((ls[i]!.2 : Nat) : Int)]) (.agg #[.int .i64 (ls[k]!.1), .int .u16 ((ls[k]!.2 : Nat) : Int)])).run Tryd.prog W = .ok (.bool (eqAt ls i k)) W := fun W => run_eqL ls[i]!.1 ls[k]!.1 ls[i]!.2 ls[k]!.2 W
                    rw [hq] at hE
                    clear hq
                    generalize ls[i]!.1 = a1 at c0 hE
                    generalize ls[i]!.2 = a2 at c1 hE
                    generalize ls[k]!.1 = b1 at d0 hE
                    generalize ls[k]!.2 = b2 at d1 hE
                    have hgu := eqGuardL
                    go_wp2_with fail
                    go_quiet (fail)
                    go_wp2
                    go_ret
                    exact ⟨rfl, belowN HB.out _⟩
                  | false =>
                    have HQ := Lib.hid hq
                    have hE : ∀ W, (binOp .eql 41 (.agg #[.int .i64 (ls[i]!.1), .int .u16 ((ls[i]!.2 : Nat) : Int)]) (.agg #[.int .i64 (ls[k]!.1), .int .u16 ((ls[k]!.2 : Nat) : Int)])).run Tryd.prog W = .ok (.bool (eqAt ls i k)) W := fun W => run_eqL ls[i]!.1 ls[k]!.1 ls[i]!.2 ls[k]!.2 W
                    rw [hq] at hE
                    clear hq
                    generalize ls[i]!.1 = a1 at c0 hE
                    generalize ls[i]!.2 = a2 at c1 hE
                    generalize ls[k]!.1 = b1 at d0 hE
                    generalize ls[k]!.2 = b2 at d1 hE
                    have hgu := eqGuardL
                    go_wp2_with fail
                    go_quiet (fail)
                    go_wp2
                    go_roundw
                    case rel =>
                      have hq' : ∀ q, q < k + 1 → eqAt ls i q = false := fun q hk => by
                        by_cases e : q = k
                        · subst e; exact HQ.out
                        · exact HA2.out q (by omega)
                      exact ⟨k + 1, by omega, by go_num, belowN HB.out _, hq'⟩
                    case measure => simp [intOf] <;> omega
                · obtain rfl : i = k := by omega
                  have HD := Lib.hid (dup_miss (ls := ls) (i := i) (by have := HN.out; omega) HA2.out)
                  clear HA2
                  go_wp2
                  go_roundw
                  case rel =>
                    have hq' : ∀ q, q < i + 1 → dupB ls q = false := fun q hk => by
                      by_cases e : q = i
                      · subst e; exact HD.out
                      · exact HA.out q (by omega)
                    first | exact ⟨i + 1, by omega, by go_num, HB.out, hq'⟩ | ((repeat apply Exists.intro); exact ⟨⟨i + 1, by omega, by go_num, HB.out, hq'⟩, rfl⟩)
                  case measure => simp [intOf] <;> omega
            · obtain rfl : n = i := by omega
              have Hd := Lib.hid (show ¬ ∃ i, i < ls.length ∧ dupB ls i = true by
                rintro ⟨i, h1, h2⟩
                rw [HA.out i (by have := HN.out; omega)] at h2
                cases h2)
              clear HA
              go_wp2
              go_loopw [9] (fun v wr => ∃ k : Nat, k ≤ m ∧ v = .int .i64 k ∧ Below w.heap.size w wr ∧ ∀ q, q < k → outB n ps[q]! = false) (fun v _ => m - (intOf v).toNat)
              case atStart => exact ⟨0, by omega, rfl, HB.out, fun k hk => absurd hk (by omega)⟩
              case round =>
                clear HB
                obtain ⟨k, hk, rfl, hB, hall⟩ := hrel
                have HB := Lib.hid hB
                have HA := Lib.hid hall
                clear hB hall
                by_cases hlt5 : k < m
                · have hltz : (k : Int) < (m : Int) := by omega
                  obtain ⟨b, off, rfl, hb, hcell⟩ := KP.out (by have := HM.out; omega)
                  have c0 : wr.cell? ⟨b, off + k * 3, none⟩ = some (.int .i64 ps[k]!.1) := (HB.out.cell (p := ⟨b, off + k * 3, none⟩) hb).trans (hcell k (by have := HM.out; omega) 0 _ rfl)
                  clear hcell
                  have hO : outB n ps[k]! = (decide (ps[k]!.1 < 0) || decide ((n : Int) ≤ ps[k]!.1)) := rfl
                  cases hq : outB n ps[k]! with
                  | true =>
                    have hw : c = 2 := by rw [← HC.out]; unfold newC; rw [if_neg Hsz.out, if_neg Hr.out, if_neg Hd.out, if_pos (show ps.any (outB ls.length) = true by rw [HN.out]; exact out_any (by have := HM.out; omega) hq)]
                    subst hw
                    rw [hq] at hO
                    clear hq
                    generalize ps[k]!.1 = a at c0 hO
                    cases t1 : decide (a < 0) with
                    | true =>
                      clear hO
                      go_wp2
                      go_ret
                      exact ⟨rfl, HB.out⟩
                    | false =>
                      have t2 : decide ((n : Int) ≤ a) = true := by rw [t1, Bool.false_or] at hO; exact hO.symm
                      clear hO
                      go_wp2
                      go_ret
                      exact ⟨rfl, HB.out⟩
                  | false =>
                    have HQ := Lib.hid hq
                    rw [hq] at hO
                    clear hq
                    generalize ps[k]!.1 = a at c0 hO
                    have t1 : decide (a < 0) = false := by cases h : decide (a < 0); rfl; rw [h] at hO; cases hO
                    have t2 : decide ((n : Int) ≤ a) = false := by rw [t1, Bool.false_or] at hO; exact hO.symm
                    clear hO
                    go_wp2
                    go_roundw
                    case rel =>
                      have hq' : ∀ q, q < k + 1 → outB n ps[q]! = false := fun q hk => by
                        by_cases e : q = k
                        · subst e; exact HQ.out
                        · exact HA.out q (by omega)
                      first | exact ⟨k + 1, by omega, by go_num, HB.out, hq'⟩ | ((repeat apply Exists.intro); exact ⟨⟨k + 1, by omega, by go_num, HB.out, hq'⟩, rfl⟩)
                    case measure => simp [intOf] <;> omega
                · obtain rfl : m = k := by omega
                  have hw : c = 0 := by rw [← HC.out]; unfold newC; rw [if_neg Hsz.out, if_neg Hr.out, if_neg Hd.out, if_neg (by rw [out_all (ps := ps) (fun i hi => by rw [HN.out]; exact HA.out i (by have := HM.out; omega))]; simp)]
                  subst hw
                  go_wp2
                  go_ret
                  exact ⟨rfl, HB.out⟩
end Go.Proofs.YtbbcicengfmhiaaDoor

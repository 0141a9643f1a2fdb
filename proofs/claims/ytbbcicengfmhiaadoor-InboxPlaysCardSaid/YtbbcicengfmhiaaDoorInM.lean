/- The document's Same. Conditions: sizes. -/
import Derived.Test.YtbbcicengfmhiaaDoorIn3
import Derived.Deep.QuietTactic
import Derived.BigQuiet
import Derived.Laws.StructEq
namespace Go.Proofs.YtbbcicengfmhiaaDoor
set_option maxRecDepth 100000
open Go.RowKit

theorem eqGuardR : Tryd.prog.eqGuardType Tryd.prog.depth 75 = false := by kernel_rfl
theorem fieldsR : Tryd.prog.underlying 75 = some (.struct (Tryd.prog.fieldsOf 75)) := by kernel_rfl
theorem heldR : Tryd.prog.stoodInHeld 75 = false := by kernel_rfl
theorem bytes_iff (s t : ByteArray) : (s.toList = t.toList) ↔ s = t := by
  rw [ByteArray.toList_eq, ByteArray.toList_eq]
  constructor
  · intro h
    obtain ⟨⟨x⟩⟩ := s
    obtain ⟨⟨y⟩⟩ := t
    simpa using h
  · rintro rfl; rfl
theorem run_eqR (x y : Rel) (w : World) : (binOp .eql 75 (.agg (encR x).toArray) (.agg (encR y).toArray)).run Tryd.prog w = .ok (.bool (decide (x = y))) w := by
  obtain ⟨a, b, c, d, s⟩ := x
  obtain ⟨a', b', c', d', t⟩ := y
  have hu := Tryd.underlying3
  have ha := Tryd.isAgg3
  have hz := Tryd.sizeOf3
  have hu9 := Tryd.underlying9
  have ha9 := Tryd.isAgg9
  have hz9 := Tryd.sizeOf9
  simp only [encR]
  rw [run_eql_struct, show (10000 : Nat) = 9999 + 1 from rfl, run_equalIn_agg w 9999 75 _ _ fieldsR heldR]
  simp only [Program.fieldsOf, Tryd.underlying75]
  go_simp
  simp only [bytes_iff]
  by_cases h1 : a = a' <;> by_cases h2 : b = b' <;> by_cases h3 : c = c' <;> by_cases h4 : d = d' <;> by_cases h5 : s = t <;> simp [h1, h2, h3, h4, h5]
theorem run_neqR (x y : Rel) (w : World) : (binOp .neq 75 (.agg (encR x).toArray) (.agg (encR y).toArray)).run Tryd.prog w = .ok (.bool (!decide (x = y))) w := by
  rw [run_neq_struct]
  have h := run_eqR x y w
  rw [run_eql_struct] at h
  generalize (Op.equalIn 10000 75 (Value.agg (encR x).toArray) (Value.agg (encR y).toArray)).run Tryd.prog w = r at h ⊢
  cases r with
  | ok b w1 => simp only [Result.andThen_ok] at h ⊢; cases h; rfl
  | halt e w1 => cases h
def SamePost (xs ys : List Rel) (w : World) (e : Ending) (w' : World) : Prop := e = .returned (.bool (decide (xs = ys))) ∧ Below w.heap.size w w'
theorem same_ne {xs ys : List Rel} (h : xs.length ≠ ys.length) : decide (xs = ys) = false := by
  rw [decide_eq_false_iff_not]; intro e; exact h (by rw [e])
theorem same_at {xs ys : List Rel} {k : Nat} (hn : xs[k]! ≠ ys[k]!) : decide (xs = ys) = false := by
  rw [decide_eq_false_iff_not]; intro e; exact hn (by rw [e])
theorem same_all {xs ys : List Rel} (hl : xs.length = ys.length) (h : ∀ k, k < xs.length → xs[k]! = ys[k]!) : decide (xs = ys) = true := by
  rw [decide_eq_true_iff]
  refine List.ext_getElem hl fun k h1 h2 => ?_
  have := h k h1
  rwa [getElem!_pos xs k h1, getElem!_pos ys k h2] at this
set_option maxHeartbeats 4000000 in
theorem ref15Same (v v2 : Value) (xs ys : List Rel) (w : World) (hS : SlAt 5 encR w v xs) (hT : SlAt 5 encR w v2 ys) (h1 : xs.length ≤ 1000) (h2 : ys.length ≤ 1000) : Calls Tryd.prog 42 #[v, v2] w (SamePost xs ys w) := by
  obtain ⟨pp, c, rfl, _, hc1⟩ := hS
  obtain ⟨pp2, c2, rfl, _, hc2⟩ := hT
  have HC := Lib.hid hc1
  have HD := Lib.hid hc2
  clear hc1 hc2
  by_cases hlen : xs.length = ys.length
  · have HFIN := Lib.hid (fun (w' : World) (hb : Below w.heap.size w w') (h : ∀ k, k < xs.length → xs[k]! = ys[k]!) => (show SamePost xs ys w (.returned (.bool true)) w' from ⟨by rw [same_all hlen h], hb⟩))
    have HNE := Lib.hid (fun (w' : World) (hb : Below w.heap.size w w') (k : Nat) (h : xs[k]! ≠ ys[k]!) => (show SamePost xs ys w (.returned (.bool false)) w' from ⟨by rw [same_at h], hb⟩))
    rw [← hlen] at HD ⊢
    generalize hn : xs.length = n at *
    clear hlen h2 hn
    go_enter Tryd.func42, Tryd.ntmps42
    go_wp2
    go_loopw [5] (fun s5 wr => ∃ k : Nat, s5 = .int .i64 k ∧ k ≤ n ∧ Below w.heap.size w wr ∧ ∀ j, j < k → xs[j]! = ys[j]!) (fun s5 _ => n - (intOf s5).toNat)
    case atStart => exact ⟨0, by go_num, by omega, Below.refl _ _, fun j hj => by omega⟩
    case round =>
      obtain ⟨k, rfl, hk, hB, hall⟩ := hrel
      have HB := Lib.hid hB
      have HA := Lib.hid hall
      clear hB hall
      by_cases hlt : k < n
      · have hltz : (k : Int) < (n : Int) := by omega
        have hk0 : (0 : Int) ≤ (k : Int) := by omega
        obtain ⟨g, off, rfl, hg, hc⟩ := HC.out (by omega)
        obtain ⟨g2, off2, rfl, hg2, hd⟩ := HD.out (by omega)
        have c0 := (HB.out.cell (p := ⟨g, off + k * 5, none⟩) hg).trans (hc k (by omega) 0 _ rfl)
        have c1 := (HB.out.cell (p := ⟨g, off + k * 5 + 1, none⟩) hg).trans (hc k (by omega) 1 _ rfl)
        have c2 := (HB.out.cell (p := ⟨g, off + k * 5 + 1 + 1, none⟩) hg).trans (hc k (by omega) 2 _ rfl)
        have c3 := (HB.out.cell (p := ⟨g, off + k * 5 + 1 + 1 + 1, none⟩) hg).trans (hc k (by omega) 3 _ rfl)
        have c4 := (HB.out.cell (p := ⟨g, off + k * 5 + 1 + 1 + 1 + 1, none⟩) hg).trans (hc k (by omega) 4 _ rfl)
        have d0 := (HB.out.cell (p := ⟨g2, off2 + k * 5, none⟩) hg2).trans (hd k (by omega) 0 _ rfl)
        have d1 := (HB.out.cell (p := ⟨g2, off2 + k * 5 + 1, none⟩) hg2).trans (hd k (by omega) 1 _ rfl)
        have d2 := (HB.out.cell (p := ⟨g2, off2 + k * 5 + 1 + 1, none⟩) hg2).trans (hd k (by omega) 2 _ rfl)
        have d3 := (HB.out.cell (p := ⟨g2, off2 + k * 5 + 1 + 1 + 1, none⟩) hg2).trans (hd k (by omega) 3 _ rfl)
        have d4 := (HB.out.cell (p := ⟨g2, off2 + k * 5 + 1 + 1 + 1 + 1, none⟩) hg2).trans (hd k (by omega) 4 _ rfl)
        clear hc hd
        have HNK := Lib.hid (fun (w' : World) (hb : Below w.heap.size w w') => HNE.out w' hb k)
        have HEK := Lib.hid (fun (e : xs[k]! = ys[k]!) (j : Nat) (hj : j < k + 1) => (show xs[j]! = ys[j]! by by_cases e2 : j = k; (rw [e2]; exact e); exact HA.out j (by omega)))
        generalize xs[k]! = x at *
        generalize ys[k]! = y at *
        obtain ⟨a1, a2, a3, a4, s⟩ := x
        obtain ⟨b1, b2, b3, b4, t⟩ := y
        cases hq : decide (((a1, a2, a3, a4, s) : Rel) = (b1, b2, b3, b4, t)) with
        | true =>
          have HQ := Lib.hid (show ((a1, a2, a3, a4, s) : Rel) = (b1, b2, b3, b4, t) by simpa using hq)
          have hr := fun W => run_neqR (a1, a2, a3, a4, s) (b1, b2, b3, b4, t) W
          rw [hq] at hr
          simp only [encR] at hr
          have hgd := eqGuardR
          clear hq
          go_wp2_with fail
          go_quiet (fail)
          go_wp2
          go_roundw
          case rel => exact ⟨k + 1, by go_num, by omega, belowN HB.out _, HEK.out HQ.out⟩
          case measure => simp [intOf] <;> omega
        | false =>
          have HQ := Lib.hid (show ¬ ((a1, a2, a3, a4, s) : Rel) = (b1, b2, b3, b4, t) by simpa using hq)
          have hr := fun W => run_neqR (a1, a2, a3, a4, s) (b1, b2, b3, b4, t) W
          rw [hq] at hr
          simp only [encR] at hr
          have hgd := eqGuardR
          clear hq
          go_wp2_with fail
          go_quiet (fail)
          go_wp2
          go_ret
          exact HNK.out _ (belowN HB.out _) HQ.out
      · obtain rfl : k = n := by omega
        go_wp2
        go_ret
        exact HFIN.out _ HB.out HA.out
  · have HNE := Lib.hid (show SamePost xs ys w (.returned (.bool false)) w from ⟨by rw [same_ne hlen], Below.refl _ _⟩)
    have hl : ((xs.length : Int) == (ys.length : Int)) = false := by simp; omega
    have hl2 : ((xs.length : Int) != (ys.length : Int)) = true := by simp; omega
    generalize xs.length = n1 at *
    generalize ys.length = n2 at *
    clear hlen
    go_enter Tryd.func42, Tryd.ntmps42
    go_wp2
    go_ret
    exact HNE.out
end Go.Proofs.YtbbcicengfmhiaaDoor

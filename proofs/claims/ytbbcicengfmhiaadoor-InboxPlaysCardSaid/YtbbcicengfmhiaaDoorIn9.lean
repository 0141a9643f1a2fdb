/- The document's order of releases. No condition. -/
import Derived.Test.YtbbcicengfmhiaaDoorIn8
import Derived.Deep.QuietTactic
import Derived.BigQuiet
namespace Go.Proofs.YtbbcicengfmhiaaDoor
set_option maxRecDepth 100000
open Go.RowKit

def keys (r : Rel) : List Int := [r.1, r.2.1, r.2.2.1, r.2.2.2.1]
theorem less_at {a b : Rel} {j : Nat} (hj : j < 4) (h : ∀ k, k < j → (keys a)[k]! = (keys b)[k]!) (hne : (keys a)[j]! ≠ (keys b)[j]!) : lessR a b = decide ((keys a)[j]! < (keys b)[j]!) := by
  obtain ⟨a1, a2, a3, a4, s⟩ := a
  obtain ⟨b1, b2, b3, b4, t⟩ := b
  have hi := lessR_iff (a := (a1, a2, a3, a4, s)) (b := (b1, b2, b3, b4, t))
  dsimp only at hi
  match j, hj with
  | 0, _ =>
    have e : a1 ≠ b1 := hne
    show lessR _ _ = decide (a1 < b1)
    rw [Bool.eq_iff_iff, hi, decide_eq_true_iff]; omega
  | 1, _ =>
    have e0 : a1 = b1 := h 0 (by omega)
    have e : a2 ≠ b2 := hne
    show lessR _ _ = decide (a2 < b2)
    rw [Bool.eq_iff_iff, hi, decide_eq_true_iff]; omega
  | 2, _ =>
    have e0 : a1 = b1 := h 0 (by omega)
    have e1 : a2 = b2 := h 1 (by omega)
    have e : a3 ≠ b3 := hne
    show lessR _ _ = decide (a3 < b3)
    rw [Bool.eq_iff_iff, hi, decide_eq_true_iff]; omega
  | 3, _ =>
    have e0 : a1 = b1 := h 0 (by omega)
    have e1 : a2 = b2 := h 1 (by omega)
    have e2 : a3 = b3 := h 2 (by omega)
    have e : a4 ≠ b4 := hne
    show lessR _ _ = decide (a4 < b4)
    rw [Bool.eq_iff_iff, hi, decide_eq_true_iff]; omega
theorem less_none {a b : Rel} (h : ∀ k, k < 4 → (keys a)[k]! = (keys b)[k]!) : lessR a b = false := by
  obtain ⟨a1, a2, a3, a4, s⟩ := a
  obtain ⟨b1, b2, b3, b4, t⟩ := b
  have hi := lessR_iff (a := (a1, a2, a3, a4, s)) (b := (b1, b2, b3, b4, t))
  dsimp only at hi
  have e0 : a1 = b1 := h 0 (by omega)
  have e1 : a2 = b2 := h 1 (by omega)
  have e2 : a3 = b3 := h 2 (by omega)
  have e3 : a4 = b4 := h 3 (by omega)
  cases hl : lessR (a1, a2, a3, a4, s) (b1, b2, b3, b4, t) with
  | false => rfl
  | true => have := hi.1 hl; omega
/-- the two keys lie there -/
def KeyAt (p : Nat) (r : Rel) (w : World) : Prop := p < w.heap.size ∧ ∀ j, j < 4 → w.cell? ⟨p, j, none⟩ = some (.int .i64 (keys r)[j]!)
set_option maxHeartbeats 4000000 in
theorem ref15Less (a b : Rel) (w : World) : Calls Tryd.prog 99 #[.agg (encR a).toArray, .agg (encR b).toArray] w fun e w' => e = .returned (.bool (lessR a b)) ∧ Below w.heap.size w w' := by
  obtain ⟨a1, a2, a3, a4, s⟩ := a
  obtain ⟨b1, b2, b3, b4, t⟩ := b
  have HB := Lib.hid (show Below w.heap.size w ((((w.alloc (.cells #[.int .i64 a1, .int .i64 a2, .int .i64 a3, .int .i64 a4, .string s] 75)).alloc (.cells #[.int .i64 b1, .int .i64 b2, .int .i64 b3, .int .i64 b4, .string t] 75)).alloc (.cells #[.int .i64 a1, .int .i64 a2, .int .i64 a3, .int .i64 a4] 3)).alloc (.cells #[.int .i64 b1, .int .i64 b2, .int .i64 b3, .int .i64 b4] 3)) from (below2 w _ _).trans ((below2 _ _ _).mono (by simp; omega)))
  have HKA := Lib.hid (show ∀ j, j < 4 → ((((w.alloc (.cells #[.int .i64 a1, .int .i64 a2, .int .i64 a3, .int .i64 a4, .string s] 75)).alloc (.cells #[.int .i64 b1, .int .i64 b2, .int .i64 b3, .int .i64 b4, .string t] 75)).alloc (.cells #[.int .i64 a1, .int .i64 a2, .int .i64 a3, .int .i64 a4] 3)).alloc (.cells #[.int .i64 b1, .int .i64 b2, .int .i64 b3, .int .i64 b4] 3)).cell? ⟨w.heap.size + 2, 0 + j, none⟩ = some (.int .i64 (keys (a1, a2, a3, a4, s))[j]!) from fun j hj => by
    match j, hj with
    | 0, _ => go_simp; rfl
    | 1, _ => go_simp; rfl
    | 2, _ => go_simp; rfl
    | 3, _ => go_simp; rfl)
  have HKB := Lib.hid (show ∀ j, j < 4 → ((((w.alloc (.cells #[.int .i64 a1, .int .i64 a2, .int .i64 a3, .int .i64 a4, .string s] 75)).alloc (.cells #[.int .i64 b1, .int .i64 b2, .int .i64 b3, .int .i64 b4, .string t] 75)).alloc (.cells #[.int .i64 a1, .int .i64 a2, .int .i64 a3, .int .i64 a4] 3)).alloc (.cells #[.int .i64 b1, .int .i64 b2, .int .i64 b3, .int .i64 b4] 3)).cell? ⟨w.heap.size + 3, 0 + j, none⟩ = some (.int .i64 (keys (b1, b2, b3, b4, t))[j]!) from fun j hj => by
    match j, hj with
    | 0, _ => go_simp; rfl
    | 1, _ => go_simp; rfl
    | 2, _ => go_simp; rfl
    | 3, _ => go_simp; rfl)
  have HA := Lib.hid (fun j (hj : j < 4) => less_at (a := (a1, a2, a3, a4, s)) (b := (b1, b2, b3, b4, t)) hj)
  have HN := Lib.hid (less_none (a := (a1, a2, a3, a4, s)) (b := (b1, b2, b3, b4, t)))
  simp only [encR]
  go_enter Tryd.func99, Tryd.ntmps99
  go_wp2
  generalize (((w.alloc (.cells #[.int .i64 a1, .int .i64 a2, .int .i64 a3, .int .i64 a4, .string s] 75)).alloc (.cells #[.int .i64 b1, .int .i64 b2, .int .i64 b3, .int .i64 b4, .string t] 75)).alloc (.cells #[.int .i64 a1, .int .i64 a2, .int .i64 a3, .int .i64 a4] 3)).alloc (.cells #[.int .i64 b1, .int .i64 b2, .int .i64 b3, .int .i64 b4] 3) = W at HB HKA HKB ⊢
  generalize keys (a1, a2, a3, a4, s) = ka at HKA HA HN
  generalize keys (b1, b2, b3, b4, t) = kb at HKB HA HN
  go_loopw [7] (fun i wr => ∃ j : Nat, j ≤ 4 ∧ i = .int .i64 j ∧ Below W.heap.size W wr ∧ ∀ k, k < j → ka[k]! = kb[k]!) (fun i _ => 4 - (intOf i).toNat)
  case atStart => exact ⟨0, by omega, rfl, Below.refl _ _, fun k hk => absurd hk (by omega)⟩
  case round =>
    obtain ⟨j, hj, rfl, hbw, hall⟩ := hrel
    have HBW := Lib.hid hbw
    clear hbw
    have HL := Lib.hid hall
    clear hall
    by_cases hlt : j < 4
    · have hltz : (j : Int) < 4 := by omega
      have k0 := HKA.out j hlt
      have k1 := HKB.out j hlt
      rw [Nat.zero_add] at k0 k1
      have c0 := (HBW.out.cell (cellW_lt k0)).trans k0
      have c1 := (HBW.out.cell (cellW_lt k1)).trans k1
      clear k0 k1
      by_cases hq : ka[j]! = kb[j]!
      · have HQ := Lib.hid hq
        rw [hq] at c0
        clear hq
        go_wp2_with fail
        go_quiet (fail)
        go_wp2
        go_roundw
        case rel => exact ⟨j + 1, by omega, by go_num, belowN HBW.out _, fun k hk => by by_cases e : k = j; (subst e; exact HQ.out); exact HL.out k (by omega)⟩
        case measure => simp [intOf] <;> omega
      · have HR := Lib.hid (HA.out j hlt HL.out hq)
        have hq' : (ka[j]! != kb[j]!) = true := by simpa using hq
        clear hq
        generalize ka[j]! = x at *
        generalize kb[j]! = y at *
        go_wp2_with fail
        go_quiet (fail)
        go_wp2_with fail
        go_quiet (fail)
        go_wp2
        go_ret
        exact ⟨by rw [HR.out]; rfl, HB.out.trans ((belowN (belowN HBW.out _) _).mono HB.out.size)⟩
    · have hltz : ¬ ((j : Int) < 4) := by omega
      have HR := Lib.hid (HN.out (fun k hk => HL.out k (by omega)))
      go_wp2
      go_ret
      exact ⟨by rw [HR.out]; rfl, HB.out.trans (HBW.out.mono HB.out.size)⟩
end Go.Proofs.YtbbcicengfmhiaaDoor

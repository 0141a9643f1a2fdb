/- What gate.Write has written gate.Read reads: plain. -/
import Derived.Test.YtbbcicengfmhiaaDoorGaT
namespace Go.Proofs.YtbbcicengfmhiaaDoor
open Go.RowKit

theorem step_num {n lo hi : Int} (r : List UInt8) (hn : okI n) : rdStep (numL n ++ r) false lo hi = if lo ≤ n ∧ n ≤ hi then (n, r, false) else (0, numL n ++ r, true) := by
  have h := rdInt_num (n := n) (lo := lo) (hi := hi) r hn.1 hn.2
  have e : Lib.itoa n ++ 44 :: r = numL n ++ r := by simp [numL]
  rw [e] at h
  split
  · rename_i hb
    rw [if_pos hb] at h
    exact rdStep_some h
  · rename_i hb
    rw [if_neg hb] at h
    exact rdStep_none h
theorem step_bad (s : List UInt8) (lo hi : Int) : rdStep s true lo hi = (0, s, true) := rfl
theorem rdN_bad (k : Nat) (st : List UInt8 × Bool) (h : st.2 = true) : (rdN k st).2.2 = true := by
  induction k with
  | zero => exact h
  | succ k ih =>
    show (rdStep (rdN k st).2.1 (rdN k st).2.2 0 11).2.2 = true
    rw [ih]
    rfl
theorem rdN_stay {j : Nat} {st : List UInt8 × Bool} (h : (rdN j st).2.2 = true) : ∀ k, j ≤ k → (rdN k st).2.2 = true := by
  intro k hk
  induction k with
  | zero => have : j = 0 := by omega
            rw [← this]; exact h
  | succ k ih =>
    by_cases e : j = k + 1
    · rw [← e]; exact h
    · show (rdStep (rdN k st).2.1 (rdN k st).2.2 0 11).2.2 = true
      rw [ih (by omega)]
      rfl
/-- all of the first k lie in 0..11 -/
theorem rdN_good {xs : List Int} (hok : ∀ j, j < xs.length → okI xs[j]!) (r : List UInt8) : ∀ k, k ≤ xs.length → (∀ j, j < k → 0 ≤ xs[j]! ∧ xs[j]! ≤ 11) → rdN k (numsL xs ++ r, false) = (xs.take k, (numsL (xs.drop k) ++ r, false)) := by
  intro k
  induction k with
  | zero => intro _ _; simp [rdN]
  | succ k ih =>
    intro hk hb
    have h0 := ih (by omega) (fun j hj => hb j (by omega))
    have hd : xs.drop k = xs[k]! :: xs.drop (k + 1) := by rw [getElem!_pos xs k (by omega)]; exact List.drop_eq_getElem_cons (by omega)
    have hn : numsL (xs.drop k) ++ r = numL xs[k]! ++ (numsL (xs.drop (k + 1)) ++ r) := by rw [hd]; simp [numsL]
    rw [rdN, h0]
    dsimp only
    rw [hn, step_num _ (hok k (by omega)), if_pos (hb k (by omega)), List.take_succ_eq_append_getElem (by omega), getElem!_pos xs k (by omega)]
theorem rdN_out {xs : List Int} (hok : ∀ j, j < xs.length → okI xs[j]!) (r : List UInt8) {k : Nat} (hk : k < xs.length) (hb : ∀ j, j < k → 0 ≤ xs[j]! ∧ xs[j]! ≤ 11) (hx : ¬ (0 ≤ xs[k]! ∧ xs[k]! ≤ 11)) : (rdN (k + 1) (numsL xs ++ r, false)).2.2 = true := by
  have h0 := rdN_good hok r k (by omega) hb
  have hd : xs.drop k = xs[k]! :: xs.drop (k + 1) := by rw [getElem!_pos xs k (by omega)]; exact List.drop_eq_getElem_cons (by omega)
  have hn : numsL (xs.drop k) ++ r = numL xs[k]! ++ (numsL (xs.drop (k + 1)) ++ r) := by rw [hd]; simp [numsL]
  rw [rdN, h0]
  dsimp only
  rw [hn, step_num _ (hok k hk), if_neg hx]
/-- either it is read, or nothing is -/
theorem gateRd_cases (st : List UInt8 × Bool) : ((gateRd st).2.2.2 = false ∧ rightG (gateRd st).1 = true) ∨ ((gateRd st).1 = [] ∧ (gateRd st).2.1 = false ∧ (gateRd st).2.2.2 = true) := by
  unfold gateRd
  dsimp only
  split
  · rename_i h
    exact .inl ⟨h.1, h.2⟩
  · exact .inr ⟨rfl, rfl, rfl⟩
theorem gateRd_bad {st : List UInt8 × Bool} (h : (rdN (rdStep st.1 st.2 0 12).1.toNat (rdStep st.1 st.2 0 12).2).2.2 = true) : (gateRd st).1 = [] ∧ (gateRd st).2.1 = false ∧ (gateRd st).2.2.2 = true := by
  unfold gateRd
  dsimp only
  rw [h, step_bad, if_neg (fun h => by cases h.1)]
  exact ⟨rfl, rfl, rfl⟩
theorem gateRd_right {xs : List Int} {no : Bool} (h : rightG xs = true) (hok : ∀ j, j < xs.length → okI xs[j]!) : gateRd (gateL xs no, false) = (xs, no, ([], false)) := by
  obtain ⟨hu, hl⟩ := rightG_all h
  have hb : ∀ j, j < xs.length → 0 ≤ xs[j]! ∧ xs[j]! ≤ 11 := fun j hj => (hu j hj).1
  have hN := rdN_good hok (numL (fl01 no)) xs.length (Nat.le_refl _) hb
  have hf : okI (fl01 no) := by cases no <;> exact ⟨by decide, by decide⟩
  have hff : (0 : Int) ≤ (fl01 no) ∧ fl01 no ≤ 1 := by cases no <;> exact ⟨by decide, by decide⟩
  have hs := step_num (n := fl01 no) (lo := 0) (hi := 1) [] hf
  rw [if_pos hff, List.append_nil] at hs
  rw [List.drop_length, List.take_length] at hN
  simp only [numsL, List.flatMap_nil, List.nil_append] at hN
  have hc := step_num (n := (xs.length : Int)) (lo := 0) (hi := 12) (numsL xs ++ numL (fl01 no)) ⟨by omega, by omega⟩
  rw [if_pos ⟨by omega, by omega⟩] at hc
  unfold gateRd gateL
  dsimp only
  rw [hc]
  simp only [numsL] at hN ⊢
  simp only [Int.toNat_natCast, hN, hs, h]
  cases no <;> rfl
theorem gateRd_wrong {xs : List Int} {no : Bool} (h : rightG xs = false) (hok : ∀ j, j < xs.length → okI xs[j]!) (hbig : xs.length ≤ 1000000) : (gateRd (gateL xs no, false)).1 = [] ∧ (gateRd (gateL xs no, false)).2.1 = false ∧ (gateRd (gateL xs no, false)).2.2.2 = true := by
  have hc := step_num (n := (xs.length : Int)) (lo := 0) (hi := 12) (numsL xs ++ numL (fl01 no)) ⟨by omega, by omega⟩
  by_cases hl : xs.length ≤ 12
  · rw [if_pos ⟨by omega, by omega⟩] at hc
    by_cases hb : ∀ j, j < xs.length → 0 ≤ xs[j]! ∧ xs[j]! ≤ 11
    · rcases gateRd_cases (gateL xs no, false) with h1 | h1
      · exfalso
        have hN := rdN_good hok (numL (fl01 no)) xs.length (Nat.le_refl _) hb
        rw [List.take_length] at hN
        have : (gateRd (gateL xs no, false)).1 = xs ∨ (gateRd (gateL xs no, false)).2.2.2 = true := by
          unfold gateRd gateL
          dsimp only
          rw [hc]
          simp only [Int.toNat_natCast, hN]
          split
          · exact .inl rfl
          · exact .inr rfl
        rcases this with e | e
        · rw [e, h] at h1; cases h1.2
        · rw [e] at h1; cases h1.1
      · exact h1
    · apply gateRd_bad
      have hex : ∃ j, j < xs.length ∧ ¬ (0 ≤ xs[j]! ∧ xs[j]! ≤ 11) := by
        refine Classical.byContradiction fun hne => hb fun j hj => Classical.byContradiction fun hx => hne ⟨j, hj, hx⟩
      obtain ⟨k, hk, hkx, hmin⟩ : ∃ k, k < xs.length ∧ ¬ (0 ≤ xs[k]! ∧ xs[k]! ≤ 11) ∧ ∀ j, j < k → (0 ≤ xs[j]! ∧ xs[j]! ≤ 11) := by
        obtain ⟨j, hj⟩ := hex
        induction j using Nat.strongRecOn with
        | _ j ih =>
          by_cases hm : ∃ i, i < j ∧ ¬ (0 ≤ xs[i]! ∧ xs[i]! ≤ 11)
          · obtain ⟨i, h1, h2⟩ := hm
            exact ih i h1 ⟨by omega, h2⟩
          · exact ⟨j, hj.1, hj.2, fun i hi => Classical.byContradiction fun hx => hm ⟨i, hi, hx⟩⟩
      have := rdN_stay (rdN_out hok (numL (fl01 no)) hk hmin hkx) xs.length hk
      unfold gateL
      dsimp only
      rw [hc]
      simpa using this
  · rw [if_neg (fun h => by omega)] at hc
    apply gateRd_bad
    unfold gateL
    dsimp only
    rw [hc]
    exact rdN_bad _ _ rfl
end Go.Proofs.YtbbcicengfmhiaaDoor

/- The longest row: bounds, for the walk. No program here. -/
import Derived.Test.YtbbcicengfmhiaaOrd1
namespace Go.Proofs.Ytbbcicengfmhiaa
theorem farK_stay (l : List Int) (i : Int) (far : List Int) {k : Nat} (hk : ¬ k < l.length) : farK l i far (k + 1) = farK l i far k := by
  unfold farK
  rw [List.take_of_length_le (by omega), List.take_of_length_le (by omega)]
theorem farK_nn {l : List Int} {i : Int} {far : List Int} (h : ∀ j : Nat, 0 ≤ far[j]!) : ∀ (k j : Nat), 0 ≤ (farK l i far k)[j]! := by
  intro k
  induction k with
  | zero =>
    intro j
    have e0 : farK l i far 0 = far.set i.toNat 1 := rfl
    rw [e0, set_get]
    split
    · omega
    · exact h j
  | succ k ih =>
    intro j
    by_cases hk : k < l.length
    · rw [farK_succ l i far hk, set_get]
      split
      · have := ih i.toNat; omega
      · exact ih j
    · rw [farK_stay l i far hk]; exact ih j
theorem longF_len (af : List (List Int)) (l : List Int) (k : Nat) : (longF af l k).1.length = af.length := by
  induction k with
  | zero => show (List.replicate af.length (0 : Int)).length = _; simp
  | succ k ih =>
    by_cases hk : k < l.length
    · rw [longF_succ af l hk]
      show (farK _ _ _ _).length = _
      rw [farK_len, ih]
    · have : longF af l (k + 1) = longF af l k := by
        unfold longF
        rw [List.take_of_length_le (by omega), List.take_of_length_le (by omega)]
      rw [this, ih]
theorem longF_nn (af : List (List Int)) (l : List Int) : ∀ (k j : Nat), 0 ≤ (longF af l k).1[j]! := by
  intro k
  induction k with
  | zero =>
    intro j
    show 0 ≤ (List.replicate af.length (0 : Int))[j]!
    by_cases hj : j < af.length
    · rw [getElem!_pos (List.replicate af.length (0 : Int)) j (by simpa using hj)]; simp
    · rw [getElem!_neg (List.replicate af.length (0 : Int)) j (by simpa using hj)]; decide
  | succ k ih =>
    intro j
    by_cases hk : k < l.length
    · rw [longF_succ af l hk]
      exact farK_nn ih _ j
    · have : longF af l (k + 1) = longF af l k := by
        unfold longF
        rw [List.take_of_length_le (by omega), List.take_of_length_le (by omega)]
      rw [this]; exact ih j
/-- what the walk goes by in the k-th round -/
structure RowFacts (af : List (List Int)) (l : List Int) (k : Nat) : Prop where
  at_ : ∃ j : Nat, l[k]! = j ∧ j < af.length
  nn : ∀ q m : Nat, 0 ≤ (farK af[l[k]!.toNat]! l[k]! (longF af l k).1 m)[q]!
  le : ∀ q m : Nat, (farK af[l[k]!.toNat]! l[k]! (longF af l k).1 m)[q]! ≤ k + 1
theorem rowFacts {af : List (List Int)} (haf : AfOk af) {n : Nat} {d : List Bool} {l : List Int} (h : ordF af n = some (d, l)) {k : Nat} (hk : k < l.length) : RowFacts af l k := by
  obtain ⟨j, hj1, hj2, hj3⟩ := order_ahead haf n d l h k hk
  have hi := (long_inv haf h k (by omega)).1
  have hne : ∀ a ∈ af[j]!, a.toNat ≠ ((j : Int)).toNat := by
    intro a ha e
    have := haf j hj2 a ha
    have := (hj3 a ha).1
    omega
  refine ⟨⟨j, hj1, hj2⟩, fun q m => farK_nn (longF_nn af l k) m q, fun q m => ?_⟩
  rw [hj1]
  simp only [Int.toNat_natCast]
  have hf := farK_inv (l := af[j]!) (i := (j : Int)) (far := (longF af l k).1) (B := (k : Int)) hi.le (by omega) (by rw [hi.len]; simpa using hj2) hne m
  simp only [Int.toNat_natCast] at hf
  obtain ⟨f1, f2, f3, _⟩ := hf
  by_cases e : q = j
  · subst e; exact f3
  · rw [f1 q e]
    have := hi.le q
    omega
end Go.Proofs.Ytbbcicengfmhiaa

/- Plain laws of rosters and voters. -/
import Derived.Test.YtbbcicengfmhiaaDoorRos6
import Derived.Test.YtbbcicengfmhiaaDoorChk1
namespace Go.Proofs.YtbbcicengfmhiaaDoor

theorem new_bounds {ls : List Lbl} {ps : List Psn} (h : newC ls ps = 0) : 1 ≤ ls.length ∧ ls.length ≤ 4 ∧ ps.length ≤ 12 := by
  unfold newC at h
  split at h
  · cases h
  · omega
theorem new_right {ls : List Lbl} {ps : List Psn} (h : newC ls ps = 0) {k : Nat} (hk : k < ps.length) : rightLv ps[k]!.2.1 = true := by
  unfold newC at h
  split at h
  · cases h
  split at h
  · cases h
  rename_i h2
  cases hq : rightLv ps[k]!.2.1 with
  | true => rfl
  | false => exact absurd (.inr (rightPv_any hk hq)) h2
theorem in_of_new {ls : List Lbl} {ps : List Psn} (h : newC ls ps = 0) : ∀ k, k < ps.length → inR ls.length ps[k]!.1 = true := by
  intro k hk
  unfold newC at h
  split at h
  · cases h
  split at h
  · cases h
  split at h
  · cases h
  split at h
  · cases h
  rename_i h4
  cases hq : outB ls.length ps[k]! with
  | true =>
    refine absurd ?_ h4
    rw [List.any_eq_true]
    exact ⟨ps[k]!, by rw [getElem!_pos ps k hk]; exact List.getElem_mem hk, hq⟩
  | false =>
    simp only [outB, Bool.or_eq_false_iff, decide_eq_false_iff_not] at hq
    simp only [inR, Bool.and_eq_true, decide_eq_true_eq]
    omega


theorem mNot_zero {x y : Nat} (hx : x < 65536) (hy : y < 65536) : (mNot x y == 0) = true ↔ ∀ i, (x.testBit i && !y.testBit i) = false := by
  constructor
  · intro h i
    have h0 : mNot x y = 0 := by simpa using h
    rw [← mNot_testBit hx hy, h0]
    simp
  · intro h
    have : mNot x y = 0 := by
      apply Nat.eq_of_testBit_eq
      intro i
      rw [mNot_testBit hx hy, h i]
      simp
    simpa using this
theorem mOr_lt {x y : Nat} (hx : x < 65536) (hy : y < 65536) : mOr x y < 65536 := by
  unfold mOr
  exact Nat.or_lt_two_pow (n := 16) hx hy
/-- who may let something go may let it go higher -/
theorem may_join {ls : List Lbl} {ps : List Psn} (ho : okL ls) (hop : okP ps) (h0 : newC ls ps = 0) {who a b : Int} {x y : Nat} (hx : x < 65536) (hy : y < 65536) (h : mayB ls ps who a x = true) : mayB ls ps who (joinLv a b) (mOr x y) = true := by
  unfold mayB at h ⊢
  simp only [Bool.and_eq_true] at h ⊢
  obtain ⟨h1, h2, h3⟩ := h
  refine ⟨h1, h2, ?_⟩
  obtain ⟨k, rfl, hk⟩ := inR_mk h2
  have hr := new_right h0 hk
  rw [Int.toNat_natCast] at h3 ⊢
  have hl := labAt_ok ho (partAt ps (k : Int))
  have hp := hop k hk
  generalize labAt ls (partAt ps (k : Int)) = l at h3 hl ⊢
  generalize ps[k]!.2.1 = p1 at h3 hr ⊢
  generalize ps[k]!.2.2 = p2 at h3 hp ⊢
  obtain ⟨l1, l2⟩ := l
  dsimp only at h3 hl ⊢
  unfold leqB at h3 ⊢
  rw [Bool.and_eq_true] at h3 ⊢
  obtain ⟨h4, h5⟩ := h3
  unfold rightLv at hr
  simp only [Bool.and_eq_true, decide_eq_true_eq] at hr
  refine ⟨?_, ?_⟩
  · unfold offLv at h4 ⊢
    unfold joinLv
    simp only [decide_eq_true_eq] at h4 ⊢
    split at h4 <;> split <;> (try split at *) <;> omega
  · rw [mNot_zero (mNot_lt hl) hp] at h5 ⊢
    intro i
    have := h5 i
    rw [mNot_testBit hl hx] at this
    rw [mNot_testBit hl (mOr_lt hx hy), mOr_testBit]
    revert this
    cases l2.testBit i <;> cases x.testBit i <;> cases y.testBit i <;> cases p2.testBit i <;> simp
theorem votL_mono {ls : List Lbl} {ps : List Psn} {part a a' : Int} {x x' : Nat} (h : ∀ i, mayB ls ps i a x = true → mayB ls ps i a' x' = true) : ∀ k, (votL ls ps part a x k).length ≤ (votL ls ps part a' x' k).length := by
  intro k
  induction k with
  | zero => exact Nat.le_refl _
  | succ k ih =>
    simp only [votL, List.length_append]
    have : (if votB ls ps part a x k = true then [(k : Int)] else []).length ≤ (if votB ls ps part a' x' k = true then [(k : Int)] else []).length := by
      by_cases e : votB ls ps part a x k = true
      · have : votB ls ps part a' x' k = true := by
          unfold votB at e ⊢
          rw [Bool.and_eq_true] at e ⊢
          exact ⟨e.1, h _ e.2⟩
        rw [if_pos e, if_pos this]
        exact Nat.le_refl _
      · rw [if_neg e]
        exact Nat.zero_le _
    omega
/-- nobody is of a partition that there is not -/
theorem votL_none {ls : List Lbl} {ps : List Psn} {part a : Int} {x : Nat} (h0 : newC ls ps = 0) (hp : inR ls.length part = false) : ∀ k, k ≤ ps.length → votL ls ps part a x k = [] := by
  intro k
  induction k with
  | zero => intro _; rfl
  | succ k ih =>
    intro hk
    simp only [votL]
    rw [ih (by omega), List.nil_append, if_neg]
    intro e
    unfold votB at e
    rw [Bool.and_eq_true] at e
    have e1 : partAt ps (k : Int) = part := by simpa using e.1
    have h2 : partAt ps (k : Int) = ps[k]!.1 := by
      unfold partAt
      rw [if_pos (by simp [inR]; omega)]
      simp
    have := in_of_new h0 k (by omega)
    rw [← h2, e1, hp] at this
    cases this
end Go.Proofs.YtbbcicengfmhiaaDoor

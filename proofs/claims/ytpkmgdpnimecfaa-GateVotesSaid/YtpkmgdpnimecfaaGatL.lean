/- Plain law: votes for it, in whatever order, come to the same list. No program here. -/
import Derived.Test.YtpkmgdpnimecfaaGat2
namespace Go.Proofs.Ytpkmgdpnimecfaa

def insS (ys : List Int) (who : Int) : List Int := insL ys (posL ys who) who
theorem posL_cons (y : Int) (ys : List Int) (who : Int) : posL (y :: ys) who = if who < y then 0 else posL ys who + 1 := by
  unfold posL
  rw [List.findIdx?_cons]
  by_cases h : who < y
  · simp [h]
  · simp only [h, decide_false, Bool.false_eq_true, if_false]
    cases ys.findIdx? (fun k => decide (who < k)) with
    | none => rfl
    | some i => rfl
theorem insS_nil (who : Int) : insS [] who = [who] := rfl
theorem insS_cons (y : Int) (ys : List Int) (who : Int) : insS (y :: ys) who = if who < y then who :: y :: ys else y :: insS ys who := by
  unfold insS
  rw [posL_cons]
  by_cases h : who < y
  · simp [h, insL]
  · simp [h, insL]
theorem insS_small {ys : List Int} {who : Int} (h : ∀ y ∈ ys, who < y) : insS ys who = who :: ys := by
  cases ys with
  | nil => rfl
  | cons y ys => rw [insS_cons, if_pos (h y (by simp))]
theorem insS_filter (p : Int → Bool) (who : Int) (hp : p who = false) : ∀ l : List Int, l.Pairwise (· < ·) → who ∈ l → insS (l.filter p) who = l.filter (fun k => p k || k == who) := by
  intro l
  induction l with
  | nil => intro _ h; simp at h
  | cons k r ih =>
    intro hs hm
    rw [List.pairwise_cons] at hs
    obtain ⟨h1, h2⟩ := hs
    by_cases e : k = who
    · subst e
      rw [List.filter_cons, hp]
      simp only [Bool.false_eq_true, if_false]
      rw [insS_small (fun y hy => h1 y (List.mem_filter.1 hy).1)]
      rw [List.filter_cons]
      simp only [hp, beq_self_eq_true, Bool.or_true, if_true]
      congr 1
      apply List.filter_congr
      intro y hy
      have := h1 y hy
      have hne : (y == k) = false := by simp; omega
      rw [hne, Bool.or_false]
    · have hm' : who ∈ r := by
        rcases List.mem_cons.1 hm with h | h
        · exact absurd h.symm e
        · exact h
      have hlt := h1 who hm'
      have hke : (k == who) = false := by simpa using e
      rw [List.filter_cons, List.filter_cons, hke, Bool.or_false]
      by_cases hk : p k = true
      · rw [if_pos hk, if_pos hk, insS_cons, if_neg (by omega), ih h2 hm']
      · rw [if_neg hk, if_neg hk, ih h2 hm']
def all12 : List Int := [0, 1, 2, 3, 4, 5, 6, 7, 8, 9, 10, 11]
theorem all12_sorted : all12.Pairwise (· < ·) := by unfold all12; decide
theorem all12_mem (k : Int) : k ∈ all12 ↔ inR 12 k = true := by
  unfold all12 inR
  simp
  omega
def canon (p : Int → Bool) : List Int := all12.filter p
theorem vote_canon (p : Int → Bool) (who : Int) : voteL (canon p) who true = canon (fun k => p k || k == who) := by
  unfold voteL
  simp only [Bool.true_and]
  by_cases hin : inR 12 who = true
  · have hm := (all12_mem who).2 hin
    cases hp : p who with
    | true =>
      have hany : ((canon p).any fun y => who == y) = true := List.any_eq_true.2 ⟨who, List.mem_filter.2 ⟨hm, hp⟩, by simp⟩
      rw [hin, hany]
      simp only [Bool.not_true, Bool.and_false, Bool.false_eq_true, if_false]
      unfold canon
      apply List.filter_congr
      intro k _
      by_cases e : k = who
      · subst e; rw [hp]; rfl
      · rw [show (k == who) = false by simpa using e, Bool.or_false]
    | false =>
      have hany : ((canon p).any fun y => who == y) = false := by
        rw [List.any_eq_false]
        intro y hy
        have := (List.mem_filter.1 hy).2
        intro h
        have : who = y := by simpa using h
        subst this
        rw [hp] at this
        simp_all
      rw [hin, hany]
      simp only [Bool.not_false, Bool.and_true, if_true]
      exact insS_filter p who hp all12 all12_sorted hm
  · have hf : inR 12 who = false := by simpa using hin
    rw [hf]
    simp only [Bool.false_and, Bool.false_eq_true, if_false]
    unfold canon
    apply List.filter_congr
    intro k hk
    have : (k == who) = false := by
      cases h : (k == who) with
      | false => rfl
      | true =>
        have e : k = who := by simpa using h
        subst e
        exact absurd ((all12_mem k).1 hk) hin
    rw [this, Bool.or_false]
/-- the votes of a list, one behind the other -/
def VL (xs : List Int) : List Int := xs.foldl (fun ys who => voteL ys who true) []
theorem VL_canon (xs : List Int) : VL xs = canon (fun k => xs.contains k) := by
  have key : ∀ (xs : List Int) (p : Int → Bool), xs.foldl (fun ys who => voteL ys who true) (canon p) = canon (fun k => p k || xs.contains k) := by
    intro xs
    induction xs with
    | nil => intro p; simp
    | cons x r ih =>
      intro p
      rw [List.foldl_cons, vote_canon, ih]
      congr 1
      funext k
      rw [List.contains_cons, Bool.or_assoc]
  have h0 : ([] : List Int) = canon (fun _ => false) := by rfl
  unfold VL
  rw [h0, key]
  simp
theorem VL_rev (xs : List Int) : VL xs.reverse = VL xs := by
  rw [VL_canon, VL_canon]
  congr 1
  funext k
  rw [Bool.eq_iff_iff]
  simp
theorem VL_len (xs : List Int) : (VL xs).length ≤ 12 := by
  rw [VL_canon]
  exact List.length_filter_le _ _
theorem VL_take {xs : List Int} {k : Nat} (hk : k < xs.length) : VL (xs.take (k + 1)) = voteL (VL (xs.take k)) xs[k]! true := by
  unfold VL
  rw [List.take_succ_eq_append_getElem hk, getElem!_pos xs k hk, List.foldl_append]
  rfl
end Go.Proofs.Ytpkmgdpnimecfaa

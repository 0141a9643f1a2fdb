/- What comes behind what in a pipeline: plain. No program here. -/
import Derived.Test.YtbbcicengfmhiaaGreatDoorM1
namespace Go.Proofs.YtbbcicengfmhiaaGreatDoor

/-- depth first: who is met from i on -/
def dfsF (af : List (List Int)) : Nat → List Bool → Int → List Bool
  | 0, met, _ => met
  | f + 1, met, i => (af[i.toNat]!).foldl (fun m a => if m[a.toNat]! = true then m else dfsF af f (m.set a.toNat true) a) met
theorem foldl_len {α : Type} (g : List Bool → α → List Bool) (hg : ∀ m a, (g m a).length = m.length) : ∀ (l : List α) (m : List Bool), (l.foldl g m).length = m.length := by
  intro l
  induction l with
  | nil => intro m; rfl
  | cons a l ih => intro m; rw [List.foldl_cons, ih, hg]
theorem dfsF_len (af : List (List Int)) : ∀ (f : Nat) (met : List Bool) (i : Int), (dfsF af f met i).length = met.length := by
  intro f
  induction f with
  | zero => intro met i; rfl
  | succ f ih =>
    intro met i
    unfold dfsF
    refine foldl_len _ (fun m a => ?_) _ _
    split
    · rfl
    · rw [ih, List.length_set]
/-- how many are not met -/
def openN (m : List Bool) : Nat := m.countP (fun b => !b)
theorem openN_set {m : List Bool} {a : Nat} (ha : a < m.length) (h : m[a]! = false) : openN (m.set a true) + 1 = openN m := by
  unfold openN
  induction m generalizing a with
  | nil => simp at ha
  | cons b m ih =>
    cases a with
    | zero =>
      simp at h
      subst h
      simp
    | succ a =>
      simp only [List.set_cons_succ, List.countP_cons]
      have := ih (a := a) (by simpa using ha) (by simpa using h)
      omega
theorem openN_le_fold {α : Type} (g : List Bool → α → List Bool) (hg : ∀ m a, openN (g m a) ≤ openN m) : ∀ (l : List α) (m : List Bool), openN (l.foldl g m) ≤ openN m := by
  intro l
  induction l with
  | nil => intro m; exact Nat.le_refl _
  | cons a l ih => intro m; rw [List.foldl_cons]; exact Nat.le_trans (ih _) (hg _ _)
theorem openN_set_le (m : List Bool) (a : Nat) : openN (m.set a true) ≤ openN m := by
  by_cases ha : a < m.length
  · cases h : m[a]! with
    | false => have := openN_set ha h; omega
    | true =>
      have : m.set a true = m := by
        apply List.ext_getElem?
        intro i
        rw [List.getElem?_set]
        by_cases e : a = i
        · subst e
          rw [getElem!_pos m a ha] at h
          simp [ha, h]
        · simp [e]
      rw [this]
      exact Nat.le_refl _
  · rw [List.set_eq_of_length_le (by omega)]
    exact Nat.le_refl _
theorem dfsF_open (af : List (List Int)) : ∀ (f : Nat) (met : List Bool) (i : Int), openN (dfsF af f met i) ≤ openN met := by
  intro f
  induction f with
  | zero => intro met i; exact Nat.le_refl _
  | succ f ih =>
    intro met i
    unfold dfsF
    refine openN_le_fold _ (fun m a => ?_) _ _
    split
    · exact Nat.le_refl _
    · exact Nat.le_trans (ih _ _) (openN_set_le _ _)
/-- one round of the loop over those right ahead -/
def dfsStep (af : List (List Int)) (f : Nat) (m : List Bool) (a : Int) : List Bool := if m[a.toNat]! = true then m else dfsF af f (m.set a.toNat true) a
theorem dfsStep_len (af : List (List Int)) (f : Nat) (m : List Bool) (a : Int) : (dfsStep af f m a).length = m.length := by
  unfold dfsStep
  split
  · rfl
  · rw [dfsF_len, List.length_set]
theorem dfsStep_open (af : List (List Int)) (f : Nat) (m : List Bool) (a : Int) : openN (dfsStep af f m a) ≤ openN m := by
  unfold dfsStep
  split
  · exact Nat.le_refl _
  · exact Nat.le_trans (dfsF_open _ _ _ _) (openN_set_le _ _)
/-- behind k rounds -/
def dfsK (af : List (List Int)) (f : Nat) (l : List Int) (m : List Bool) (k : Nat) : List Bool := (l.take k).foldl (dfsStep af f) m
theorem dfsK_succ (af : List (List Int)) (f : Nat) (l : List Int) (m : List Bool) {k : Nat} (hk : k < l.length) : dfsK af f l m (k + 1) = dfsStep af f (dfsK af f l m k) l[k]! := by
  unfold dfsK
  rw [List.take_succ_eq_append_getElem hk, List.foldl_append, getElem!_pos l k hk]
  rfl
theorem dfsK_len (af : List (List Int)) (f : Nat) (l : List Int) (m : List Bool) (k : Nat) : (dfsK af f l m k).length = m.length := foldl_len _ (dfsStep_len af f) _ _
theorem dfsK_open (af : List (List Int)) (f : Nat) (l : List Int) (m : List Bool) (k : Nat) : openN (dfsK af f l m k) ≤ openN m := openN_le_fold _ (dfsStep_open af f) _ _
theorem dfsF_eq (af : List (List Int)) (f : Nat) (m : List Bool) (i : Int) : dfsF af (f + 1) m i = dfsK af f af[i.toNat]! m af[i.toNat]!.length := by
  unfold dfsK
  rw [List.take_length]
  rfl
/-- all that must be done ahead of i -/
def allF (af : List (List Int)) (i : Int) : List Bool := dfsF af (af.length + 1) (List.replicate af.length false) i
theorem allF_len (af : List (List Int)) (i : Int) : (allF af i).length = af.length := by
  unfold allF
  rw [dfsF_len, List.length_replicate]
theorem openN_rep (n : Nat) : openN (List.replicate n false) = n := by
  unfold openN
  rw [List.countP_replicate]
  simp
/-- the places that hold -/
def placesL (l : List Bool) : Nat → List Int
  | 0 => []
  | k + 1 => placesL l k ++ (if l[k]! = true then [(k : Int)] else [])
theorem placesL_len (l : List Bool) (k : Nat) : (placesL l k).length ≤ k := by
  induction k with
  | zero => simp [placesL]
  | succ k ih => simp only [placesL]; split <;> simp <;> omega
def roundB (af : List (List Int)) (i : Nat) : Bool := (allF af i)[i]!
def roundI (af : List (List Int)) : Int := idxI (roundB af) (List.range af.length)
theorem roundI_hit {af : List (List Int)} {k : Nat} (hk : k < af.length) (h : roundB af k = true) (hn : ∀ j, j < k → roundB af j = false) : roundI af = (k : Int) := by
  refine idxI_hit (by simpa using hk) ?_ ?_
  · rw [getElem!_pos _ _ (by simpa using hk)]; simpa using h
  · intro j hj
    rw [getElem!_pos _ _ (by simp; omega)]; simpa using hn j hj
theorem roundI_miss {af : List (List Int)} (hn : ∀ j, j < af.length → roundB af j = false) : roundI af = -1 := by
  refine idxI_miss ?_
  intro j hj
  simp at hj
  rw [getElem!_pos _ _ (by simpa using hj)]; simpa using hn j hj
theorem roundI_lt (af : List (List Int)) : -1 ≤ roundI af ∧ roundI af < af.length := by
  unfold roundI idxI
  cases h : (List.range af.length).findIdx? (roundB af) with
  | none => simp; omega
  | some i =>
    have := (List.findIdx?_eq_some_iff_getElem.1 h).1
    simp at this
    simp
    omega

/-- is a place done? -/
def isD (done : List Bool) (i : Int) : Bool := decide (i < (done.length : Int)) && done[i.toNat]!
def readyB (af : List (List Int)) (done : List Bool) (k : Nat) : Bool := !isD done k && !(af[k]!.any fun a => !isD done a)
def rdyL (af : List (List Int)) (done : List Bool) : Nat → List Int
  | 0 => []
  | k + 1 => rdyL af done k ++ (if readyB af done k = true then [(k : Int)] else [])
theorem rdyL_len (af : List (List Int)) (done : List Bool) (k : Nat) : (rdyL af done k).length ≤ k := by
  induction k with
  | zero => simp [rdyL]
  | succ k ih => simp only [rdyL]; split <;> simp <;> omega
theorem rdyL_mem {af : List (List Int)} {done : List Bool} {k : Nat} {x : Int} : x ∈ rdyL af done k ↔ ∃ j : Nat, x = j ∧ j < k ∧ readyB af done j = true := by
  induction k with
  | zero => simp [rdyL]
  | succ k ih =>
    simp only [rdyL, List.mem_append, ih]
    constructor
    · rintro (⟨j, h1, h2, h3⟩ | h)
      · exact ⟨j, h1, by omega, h3⟩
      · split at h
        · rename_i hh
          simp at h
          exact ⟨k, h, by omega, hh⟩
        · simp at h
    · rintro ⟨j, h1, h2, h3⟩
      by_cases e : j = k
      · subst e
        right
        rw [if_pos h3]
        simp [h1]
      · exact .inl ⟨j, h1, by omega, h3⟩
end Go.Proofs.YtbbcicengfmhiaaGreatDoor

/- Releases sorted and swapped, plain. No program here. -/
import Derived.Test.YtbbcicengfmhiaaDoorRel0
namespace Go.Proofs.YtbbcicengfmhiaaDoor

def insAt (x : Rel) (P : List Rel) (j : Nat) : List Rel := P.take j ++ x :: P.drop j
theorem insAt_len (x : Rel) (P : List Rel) (j : Nat) (hj : j ≤ P.length) : (insAt x P j).length = P.length + 1 := by
  simp [insAt]; omega
theorem insAt_get (x : Rel) (P : List Rel) (j k : Nat) (hj : j ≤ P.length) (hk : k ≤ P.length) : (insAt x P j)[k]! = if k < j then P[k]! else if k = j then x else P[k - 1]! := by
  have hl := insAt_len x P j hj
  rw [getElem!_pos _ k (by omega)]
  unfold insAt
  split
  · rw [List.getElem_append_left (by simp; omega), List.getElem_take, getElem!_pos P k (by omega)]
  · rw [List.getElem_append_right (by simp; omega)]
    split
    · rename_i h e
      subst e
      simp [Nat.min_eq_left hj]
    · rename_i h e
      have hm : (P.take j).length = j := by simp; omega
      have : k - (P.take j).length = (k - j - 1) + 1 := by omega
      simp only [this, List.getElem_cons_succ, List.getElem_drop]
      rw [getElem!_pos P (k - 1) (by omega)]
      congr 1
      omega
theorem get_ext {α : Type} [Inhabited α] {a b : List α} (hl : a.length = b.length) (h : ∀ k, k < a.length → a[k]! = b[k]!) : a = b := by
  refine List.ext_getElem hl fun k h1 h2 => ?_
  have := h k h1
  rwa [getElem!_pos a k h1, getElem!_pos b k h2] at this
theorem set_get {α : Type} [Inhabited α] (l : List α) (i k : Nat) (x : α) (hk : k < l.length) : (l.set i x)[k]! = if i = k then x else l[k]! := by
  rw [getElem!_pos _ k (by simpa using hk), List.getElem_set]
  split
  · rfl
  · rw [getElem!_pos l k hk]
theorem insAt_swap (x : Rel) (P R : List Rel) (j : Nat) (h0 : 0 < j) (hj : j ≤ P.length) : ((insAt x P j ++ R).set (j - 1) x).set j P[j - 1]! = insAt x P (j - 1) ++ R := by
  have hl := insAt_len x P j hj
  have hl2 := insAt_len x P (j - 1) (by omega)
  rw [List.set_append_left _ _ (by omega), List.set_append_left _ _ (by simp; omega)]
  congr 1
  refine get_ext (by simp; omega) fun k hk => ?_
  simp only [List.length_set] at hk
  rw [set_get _ _ _ _ (by simpa using hk), set_get _ _ _ _ hk, insAt_get _ _ _ _ hj (by omega), insAt_get _ _ _ _ (by omega) (by omega)]
  by_cases e1 : j = k
  · subst e1
    rw [if_pos rfl, if_neg (by omega), if_neg (by omega)]
  · rw [if_neg e1]
    by_cases e2 : j - 1 = k
    · rw [if_pos e2, if_neg (by omega), if_pos e2.symm]
    · rw [if_neg e2]
      by_cases e3 : k < j
      · rw [if_pos e3, if_pos (by omega)]
      · rw [if_neg e3, if_neg (by omega), if_neg (by omega), if_neg (by omega)]
theorem insAt_end (x : Rel) (P : List Rel) : insAt x P P.length = P ++ [x] := by simp [insAt]
/-- gone down to where it belongs, it is laid in, and all stays sorted -/
theorem insAt_insR {x : Rel} {P : List Rel} (hs : SortR P) {j : Nat} (hj : j ≤ P.length) (h1 : ∀ k, j ≤ k → k < P.length → lessR x P[k]! = true) (h2 : j = 0 ∨ lessR x P[j - 1]! = false) : insR x P = insAt x P j ∧ SortR (insR x P) := by
  have he := insR_down hs hj h1 h2
  refine ⟨he, ?_⟩
  rw [he]
  refine hs.ins hj h1 fun k hk => ?_
  rcases h2 with h2 | h2
  · omega
  · by_cases e : k = j - 1
    · rw [e]; exact h2
    · cases h3 : lessR x P[k]! with
      | false => rfl
      | true =>
        have := lessR_trans h3 (hs k (j - 1) (by omega) (by omega))
        rw [h2] at this
        cases this
/-- the first i laid in -/
def sortP (l : List Rel) (i : Nat) : List Rel := (l.take i).foldl (fun o x => insR x o) []
theorem sortP_succ {l : List Rel} {i : Nat} (hi : i < l.length) : sortP l (i + 1) = insR l[i]! (sortP l i) := by
  unfold sortP
  rw [List.take_succ_eq_append_getElem hi, List.foldl_append, getElem!_pos l i hi]
  rfl
theorem sortP_len (l : List Rel) : ∀ i, i ≤ l.length → (sortP l i).length = i := by
  intro i
  induction i with
  | zero => intro _; rfl
  | succ i ih =>
    intro h
    rw [sortP_succ (by omega), insR_len, ih (by omega)]
theorem sortP_one {l : List Rel} (h : 0 < l.length) : sortP l 1 = [l[0]!] := by
  rw [sortP_succ h]
  rfl
theorem SortR.one (x : Rel) : SortR [x] := fun i j hij hj => by simp at hj; omega
theorem SortR.nil : SortR [] := fun i j hij hj => by simp at hj
theorem sortP_all (l : List Rel) : sortP l l.length = l.foldl (fun o x => insR x o) [] := by simp [sortP]
theorem seenR_of (now : Int) (l : List Rel) : seenR now l = sortP (l.filter fun r => decide (r.1 < now)) (l.filter fun r => decide (r.1 < now)).length := by
  rw [sortP_all]
  rfl
/-- what the library's delete leaves: the first i kept -/
theorem filter_succ {p : Rel → Bool} {l : List Rel} {k : Nat} (hk : k < l.length) : (l.take (k + 1)).filter p = (l.take k).filter p ++ if p l[k]! = true then [l[k]!] else [] := by
  rw [List.take_succ_eq_append_getElem hk, List.filter_append, getElem!_pos l k hk]
  congr 1
  simp only [List.filter_cons, List.filter_nil]
theorem drop_cons {l : List Rel} {k : Nat} (hk : k < l.length) : l.drop k = l[k]! :: l.drop (k + 1) := by
  rw [List.drop_eq_getElem_cons hk, getElem!_pos l k hk]
/-- the order by its differences -/
def cmpI (x y : Int) : Int := if x < y then -1 else if y < x then 1 else 0
/-- the first that is not zero -/
def orI : List Int → Int
  | [] => 0
  | x :: r => if x ≠ 0 then x else orI r
def cmpR (a b : Rel) : Int := orI [cmpI a.1 b.1, cmpI a.2.1 b.2.1, cmpI a.2.2.1 b.2.2.1, cmpI a.2.2.2.1 b.2.2.2.1]
theorem cmpI_cases (x y : Int) : (x < y ∧ cmpI x y = -1) ∨ (y < x ∧ cmpI x y = 1) ∨ (x = y ∧ cmpI x y = 0) := by
  unfold cmpI
  split
  · exact .inl ⟨‹_›, rfl⟩
  · split
    · exact .inr (.inl ⟨‹_›, rfl⟩)
    · exact .inr (.inr ⟨by omega, rfl⟩)
theorem cmpR_less (a b : Rel) : decide (cmpR a b < 0) = lessR a b := by
  rw [Bool.eq_iff_iff, lessR_iff, decide_eq_true_iff]
  unfold cmpR
  rcases cmpI_cases a.1 b.1 with ⟨h1, e1⟩ | ⟨h1, e1⟩ | ⟨h1, e1⟩
  · simp [orI, e1]; omega
  · simp [orI, e1]; omega
  · rcases cmpI_cases a.2.1 b.2.1 with ⟨h2, e2⟩ | ⟨h2, e2⟩ | ⟨h2, e2⟩
    · simp [orI, e1, e2]; omega
    · simp [orI, e1, e2]; omega
    · rcases cmpI_cases a.2.2.1 b.2.2.1 with ⟨h3, e3⟩ | ⟨h3, e3⟩ | ⟨h3, e3⟩
      · simp [orI, e1, e2, e3]; omega
      · simp [orI, e1, e2, e3]; omega
      · rcases cmpI_cases a.2.2.2.1 b.2.2.2.1 with ⟨h4, e4⟩ | ⟨h4, e4⟩ | ⟨h4, e4⟩ <;> simp [orI, e1, e2, e3, e4] <;> omega
/-! five cells of a row are put -/
def set5 (cs : List Value) (o : Nat) (a b c d s : Value) : List Value := ((((cs.set o a).set (o + 1) b).set (o + 1 + 1) c).set (o + 1 + 1 + 1) d).set (o + 1 + 1 + 1 + 1) s
theorem flat_set (l : List Rel) (i : Nat) (x : Rel) (hi : i < l.length) (J : List Value) : set5 (l.flatMap encR ++ J) (i * 5) (.int .i64 x.1) (.int .i64 x.2.1) (.int .i64 x.2.2.1) (.int .i64 x.2.2.2.1) (.string x.2.2.2.2) = (l.set i x).flatMap encR ++ J := by
  induction l generalizing i with
  | nil => simp at hi
  | cons y l ih =>
    cases i with
    | zero => simp [set5, encR]
    | succ i =>
      have := ih i (by simpa using hi)
      have e : (i + 1) * 5 = i * 5 + 1 + 1 + 1 + 1 + 1 := by omega
      rw [e]
      simp only [set5, List.flatMap_cons, List.set_cons_succ, encR, List.cons_append, List.nil_append] at this ⊢
      rw [← this]
/-- their cells -/
theorem flat_cell (l : List Rel) (J : List Value) (i j : Nat) (hi : i < l.length) (hj : j < 5) : (l.flatMap encR ++ J)[i * 5 + j]? = (encR l[i]!)[j]? := by
  have hfl := flat_length (enc := encR) encR_len l
  rw [List.getElem?_append_left (by rw [show l.flatMap encR = flat encR l from rfl, hfl]; omega)]
  exact flat_get encR_len l i hi j hj
end Go.Proofs.YtbbcicengfmhiaaDoor

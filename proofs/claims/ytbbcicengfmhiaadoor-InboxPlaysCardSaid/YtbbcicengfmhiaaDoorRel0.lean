/- Releases, plain: what may be, what an inbox takes, in what order they are seen. No program here. -/
import Derived.Test.YtbbcicengfmhiaaDoorEnc
namespace Go.Proofs.YtbbcicengfmhiaaDoor

abbrev Rel := Int × Int × Int × Int × ByteArray
def encR (r : Rel) : List Value := [.int .i64 r.1, .int .i64 r.2.1, .int .i64 r.2.2.1, .int .i64 r.2.2.2.1, .string r.2.2.2.2]
theorem encR_len (r : Rel) : (encR r).length = 5 := rfl
def inU (n up : Int) : Bool := decide (0 ≤ n) && decide (n < up)
theorem inU_iff {n up : Int} : inU n up = true ↔ 0 ≤ n ∧ n < up := by simp [inU]
def rightR (r : Rel) : Bool := inU r.1 1001 && (inU r.2.1 4 && (inU r.2.2.1 16 && (inU r.2.2.2.1 8 && decide (r.2.2.2.2.size ≤ 32))))
def keyR (run task : Int) (r : Rel) : Bool := r.2.2.1 == run && r.2.2.2.1 == task
def hasR (l : List Rel) (run task : Int) : Bool := l.any (keyR run task)
def addR (l : List Rel) (r : Rel) : Int := if rightR r = false then 1 else if hasR l r.2.2.1 r.2.2.2.1 = true then 7 else if 12 ≤ l.length then 4 else 0
def putR (l : List Rel) (r : Rel) : List Rel := if addR l r = 0 then l ++ [r] else l
def accR (l : List Rel) : List Rel := l.foldl putR []
/-- each may be added behind those ahead of it -/
def OkR (l : List Rel) : Prop := ∀ k, k < l.length → addR (l.take k) l[k]! = 0
theorem addR_zero {l : List Rel} {r : Rel} : addR l r = 0 ↔ rightR r = true ∧ hasR l r.2.2.1 r.2.2.2.1 = false ∧ l.length < 12 := by
  unfold addR
  cases h1 : rightR r <;> cases h2 : hasR l r.2.2.1 r.2.2.2.1 <;> simp <;> omega
theorem OkR.nil : OkR [] := fun k hk => by simp at hk
theorem OkR.put {l : List Rel} (h : OkR l) (r : Rel) : OkR (putR l r) := by
  unfold putR
  split
  · rename_i h0
    intro k hk
    rw [List.length_append] at hk
    simp only [List.length_cons, List.length_nil] at hk
    by_cases hl : k < l.length
    · rw [List.take_append_of_le_length (by omega), getElem!_pos (l ++ [r]) k (by simp; omega), List.getElem_append_left hl, ← getElem!_pos l k hl]
      exact h k hl
    · obtain rfl : k = l.length := by omega
      rw [List.take_left, getElem!_pos (l ++ [r]) l.length (by simp), List.getElem_append_right (Nat.le_refl _)]
      simpa using h0
  · exact h
theorem accR_succ {l : List Rel} {k : Nat} (hk : k < l.length) : accR (l.take (k + 1)) = putR (accR (l.take k)) l[k]! := by
  rw [List.take_succ_eq_append_getElem hk, getElem!_pos l k hk, accR, List.foldl_append]
  rfl
theorem accR_ok (l : List Rel) : OkR (accR l) := by
  have : ∀ (l m : List Rel), OkR m → OkR (l.foldl putR m) := by
    intro l
    induction l with
    | nil => intro m h; exact h
    | cons x l ih => intro m h; exact ih _ (h.put x)
  exact this l [] OkR.nil
theorem OkR.len {l : List Rel} (h : OkR l) : l.length ≤ 12 := by
  rcases Nat.lt_or_ge 12 l.length with hl | hl
  · have := (addR_zero.1 (h 12 hl)).2.2
    rw [List.length_take] at this
    omega
  · exact hl
theorem OkR.right {l : List Rel} (h : OkR l) {k : Nat} (hk : k < l.length) : rightR l[k]! = true := (addR_zero.1 (h k hk)).1
/-- behind the first k the next is taken -/
theorem OkR.acc {l : List Rel} (h : OkR l) : ∀ k, k ≤ l.length → accR (l.take k) = l.take k := by
  intro k
  induction k with
  | zero => intro _; rfl
  | succ k ih =>
    intro hk
    rw [accR_succ (by omega), ih (by omega), putR, if_pos (h k (by omega)), getElem!_pos l k (by omega), List.take_succ_eq_append_getElem (by omega)]

/-! their order -/
def lessR (a b : Rel) : Bool :=
  if a.1 ≠ b.1 then decide (a.1 < b.1) else if a.2.1 ≠ b.2.1 then decide (a.2.1 < b.2.1) else if a.2.2.1 ≠ b.2.2.1 then decide (a.2.2.1 < b.2.2.1) else if a.2.2.2.1 ≠ b.2.2.2.1 then decide (a.2.2.2.1 < b.2.2.2.1) else false
theorem lessR_iff {a b : Rel} : lessR a b = true ↔ a.1 < b.1 ∨ (a.1 = b.1 ∧ (a.2.1 < b.2.1 ∨ (a.2.1 = b.2.1 ∧ (a.2.2.1 < b.2.2.1 ∨ (a.2.2.1 = b.2.2.1 ∧ a.2.2.2.1 < b.2.2.2.1))))) := by
  unfold lessR
  split
  · simp; omega
  · split
    · simp; omega
    · split
      · simp; omega
      · split <;> simp <;> omega
theorem lessR_trans {a b c : Rel} (h1 : lessR a b = true) (h2 : lessR c b = false) : lessR a c = true := by
  rw [lessR_iff] at h1 ⊢
  have h3 : ¬ lessR c b = true := by simp [h2]
  rw [lessR_iff] at h3
  omega
theorem lessR_asym {a b : Rel} (h : lessR a b = true) : lessR b a = false := by
  cases h2 : lessR b a with
  | false => rfl
  | true =>
    rw [lessR_iff] at h h2
    omega
/-- laid in ahead of the first that is greater -/
def insR (x : Rel) : List Rel → List Rel
  | [] => [x]
  | y :: r => if lessR x y = true then x :: y :: r else y :: insR x r
def seenR (now : Int) (l : List Rel) : List Rel := (l.filter fun r => decide (r.1 < now)).foldl (fun o x => insR x o) []
/-- no later one is less than one ahead of it -/
def SortR (l : List Rel) : Prop := ∀ i j, i < j → j < l.length → lessR l[j]! l[i]! = false
theorem insR_at (x : Rel) : ∀ (l : List Rel) (j : Nat), j ≤ l.length → (∀ k, k < j → lessR x l[k]! = false) → (∀ h : j < l.length, lessR x l[j]! = true) → insR x l = l.take j ++ x :: l.drop j := by
  intro l
  induction l with
  | nil => intro j hj _ _; simp at hj; subst hj; rfl
  | cons y r ih =>
    intro j hj h1 h2
    cases j with
    | zero =>
      have := h2 (by simp)
      simp at this
      simp [insR, this]
    | succ j =>
      have h0 := h1 0 (by omega)
      simp at h0
      rw [insR, if_neg (by simp [h0]), ih j (by simpa using hj) (fun k hk => by have := h1 (k + 1) (by omega); simpa using this) (fun h => by have := h2 (by simpa using h); simpa using this)]
      simp
theorem insR_len (x : Rel) (l : List Rel) : (insR x l).length = l.length + 1 := by
  induction l with
  | nil => rfl
  | cons y r ih => unfold insR; split <;> simp [ih]
/-- gone down from behind, past all that are greater, one comes to the same place -/
theorem insR_down {x : Rel} {l : List Rel} (hs : SortR l) {j : Nat} (hj : j ≤ l.length) (h1 : ∀ k, j ≤ k → k < l.length → lessR x l[k]! = true) (h2 : j = 0 ∨ lessR x l[j - 1]! = false) : insR x l = l.take j ++ x :: l.drop j := by
  refine insR_at x l j hj (fun k hk => ?_) (fun h => h1 j (Nat.le_refl _) h)
  rcases h2 with h2 | h2
  · omega
  · by_cases e : k = j - 1
    · rw [e]; exact h2
    · cases h3 : lessR x l[k]! with
      | false => rfl
      | true =>
        have := lessR_trans h3 (hs k (j - 1) (by omega) (by omega))
        rw [h2] at this
        cases this
theorem SortR.ins {x : Rel} {l : List Rel} (hs : SortR l) {j : Nat} (hj : j ≤ l.length) (h1 : ∀ k, j ≤ k → k < l.length → lessR x l[k]! = true) (h2 : ∀ k, k < j → lessR x l[k]! = false) : SortR (l.take j ++ x :: l.drop j) := by
  have hlen : (l.take j ++ x :: l.drop j).length = l.length + 1 := by simp; omega
  have hget : ∀ i, i < l.length + 1 → (l.take j ++ x :: l.drop j)[i]! = if i < j then l[i]! else if i = j then x else l[i - 1]! := by
    intro i hi
    rw [getElem!_pos _ i (by omega)]
    split
    · rw [List.getElem_append_left (by simp; omega), List.getElem_take, getElem!_pos l i (by omega)]
    · rw [List.getElem_append_right (by simp; omega)]
      split
      · rename_i h e
        subst e
        simp [Nat.min_eq_left hj]
      · rename_i h e
        have hm : (l.take j).length = j := by simp; omega
        have : i - (l.take j).length = (i - j - 1) + 1 := by omega
        simp only [this, List.getElem_cons_succ, List.getElem_drop]
        rw [getElem!_pos l (i - 1) (by omega)]
        congr 1
        omega
  intro a b hab hb
  rw [hlen] at hb
  rw [hget a (by omega), hget b hb]
  by_cases q1 : b < j
  · rw [if_pos q1, if_pos (show a < j by omega)]
    exact hs a b hab (by omega)
  · rw [if_neg q1]
    by_cases q2 : b = j
    · rw [if_pos q2, if_pos (show a < j by omega)]
      exact h2 a (by omega)
    · rw [if_neg q2]
      by_cases q3 : a < j
      · rw [if_pos q3]
        exact hs a (b - 1) (by omega) (by omega)
      · rw [if_neg q3]
        by_cases q4 : a = j
        · rw [if_pos q4]
          exact lessR_asym (h1 (b - 1) (by omega) (by omega))
        · rw [if_neg q4]
          exact hs (a - 1) (b - 1) (by omega) (by omega)
end Go.Proofs.YtbbcicengfmhiaaDoor

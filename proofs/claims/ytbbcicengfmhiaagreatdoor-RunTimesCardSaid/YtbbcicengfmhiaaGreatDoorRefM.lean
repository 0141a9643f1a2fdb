/- A matrix of bools as it lies: an outer row, and a block for each row. No function of the program here. -/
import Derived.Test.YtbbcicengfmhiaaGreatDoorApp3
import Derived.Test.YtbbcicengfmhiaaGreatDoorBlk
import Derived.Test.YtbbcicengfmhiaaGreatDoorRch0
import Derived.Test.YtbbcicengfmhiaaGreatDoorM7
namespace Go.Proofs.YtbbcicengfmhiaaGreatDoor
set_option maxRecDepth 100000
open Go.RowKit

def sv (n : Nat) (r : Nat × List Bool) : Value := .slice (some ⟨r.1, 0, none⟩) n n
structure MatAt (w : World) (base : Nat) (v : Value) (n : Nat) (rows : List (Nat × List Bool)) : Prop where
  own : w.ownsRow base 168 1 v rows.length (rows.map (sv n))
  row : ∀ j, j < rows.length → BlkIs w rows[j]!.1 (rows[j]!.2.map Value.bool) 4 ∧ rows[j]!.2.length = n ∧ base ≤ rows[j]!.1 ∧ v.ownBlock ≠ some rows[j]!.1
  dis : ∀ i j, i < rows.length → j < rows.length → i ≠ j → rows[i]!.1 ≠ rows[j]!.1
theorem MatAt.nil (w : World) (base n : Nat) : MatAt w base (.slice none 0 0) n [] := ⟨⟨by simp, .inl ⟨rfl, rfl⟩⟩, fun j hj => absurd hj (by simp), fun i j hi => absurd hi (by simp)⟩
section
variable {w w' : World} {base n : Nat} {v v' : Value} {rows : List (Nat × List Bool)}
theorem MatAt.below (h : MatAt w base v n rows) (hb : Below w.heap.size w w') : MatAt w' base v n rows :=
  ⟨owns_below h.own hb, fun j hj => ⟨(h.row j hj).1.below hb, (h.row j hj).2⟩, h.dis⟩
theorem MatAt.keptG {rb : Nat} (h : MatAt w base v n rows) (hk : KeptG rb w w') (h1 : v.ownBlock ≠ some rb) (h2 : ∀ j, j < rows.length → rows[j]!.1 ≠ rb) : MatAt w' base v n rows :=
  ⟨owns_keptI h.own (fun q hq => hk.2.1 q (fun e => h1 (by rw [hq, e]))), fun j hj => ⟨hk.blk (h.row j hj).1 (h2 j hj), (h.row j hj).2⟩, h.dis⟩
theorem MatAt.cellR (h : MatAt w base v n rows) {j : Nat} (hj : j < rows.length) : ∃ g c, v = .slice (some ⟨g, 0, none⟩) rows.length c ∧ w.cell? ⟨g, j, none⟩ = some (.slice (some ⟨rows[j]!.1, 0, none⟩) n n) := by
  rcases h.own.2 with ⟨_, h0⟩ | ⟨g, cap, cur, rfl, _⟩
  · omega
  · refine ⟨g, cap, rfl, ?_⟩
    have := h.own.cells (g := g) rfl j (sv n rows[j]!) (by rw [List.getElem?_map, List.getElem?_eq_getElem hj, getElem!_pos rows j hj]; rfl)
    rwa [Go.WideShapes.add_plain, Nat.zero_add] at this
theorem MatAt.cellR2 {g c n' : Nat} (h : MatAt w base (.slice (some ⟨g, 0, none⟩) n' c) n rows) {j : Nat} (hj : j < rows.length) : w.cell? ⟨g, j, none⟩ = some (.slice (some ⟨rows[j]!.1, 0, none⟩) n n) := by
  obtain ⟨g', c', hv, hc⟩ := h.cellR hj
  injection hv with e1 e2 e3
  injection e1 with e1
  injection e1 with e1
  rw [e1]
  exact hc
theorem MatAt.cellB (h : MatAt w base v n rows) {j k : Nat} (hj : j < rows.length) (hk : k < n) : w.cell? ⟨rows[j]!.1, k, none⟩ = some (.bool rows[j]!.2[k]!) ∧ w.frozen? ⟨rows[j]!.1, k, none⟩ = false := by
  obtain ⟨h1, h2, _⟩ := h.row j hj
  refine ⟨?_, h1.frozen k⟩
  rw [h1.cell k, List.getElem?_map, List.getElem?_eq_getElem (by rw [h2]; exact hk), getElem!_pos _ k (by rw [h2]; exact hk)]
  rfl
theorem rows_at (rows : List (Nat × List Bool)) {i : Nat} (r : Nat × List Bool) {j : Nat} (hj : j < rows.length) : (rows.set i r)[j]! = if i = j then r else rows[j]! := by
  rw [getElem!_pos _ j (by simpa using hj), List.getElem_set]
  split
  · rfl
  · rw [getElem!_pos rows j hj]
theorem MatAt.set (h : MatAt w base v n rows) {i k : Nat} (hi : i < rows.length) (b : Bool) : MatAt (w.setCell ⟨rows[i]!.1, k, none⟩ (.bool b)) base v n (rows.set i (rows[i]!.1, rows[i]!.2.set k b)) := by
  obtain ⟨hr1, hr2, hr3, hr4⟩ := h.row i hi
  have hblk : ∀ q, q ≠ rows[i]!.1 → (w.setCell ⟨rows[i]!.1, k, none⟩ (.bool b)).heap[q]? = w.heap[q]? := fun q hq => Below.heap_setCell _ _ _ _ hq
  have hfst : ∀ j, j < rows.length → (rows.set i (rows[i]!.1, rows[i]!.2.set k b))[j]!.1 = rows[j]!.1 := fun j hj => by
    rw [rows_at _ _ hj]
    split
    · rename_i e; rw [← e]
    · rfl
  refine ⟨?_, fun j hj => ?_, fun a c ha hc hne => ?_⟩
  · have hmap : (rows.set i (rows[i]!.1, rows[i]!.2.set k b)).map (sv n) = rows.map (sv n) := by
      refine List.ext_getElem (by simp) fun j h1 h2 => ?_
      have hj : j < rows.length := by simpa using h2
      have := hfst j hj
      rw [getElem!_pos _ j (by simpa using hj), getElem!_pos rows j hj] at this
      rw [List.getElem_map, List.getElem_map]
      unfold sv
      rw [this]
    rw [hmap, List.length_set]
    exact owns_keptI h.own (fun q hq => hblk q (fun e => hr4 (by rw [hq, e])))
  · have hj' : j < rows.length := by simpa using hj
    rw [rows_at _ _ hj']
    by_cases e : i = j
    · subst e
      rw [if_pos rfl]
      refine ⟨?_, by simpa using hr2, hr3, hr4⟩
      have := hr1.set (o := k) (.bool b)
      simpa [List.map_set] using this
    · rw [if_neg e]
      obtain ⟨h1, h2, h3, h4⟩ := h.row j hj'
      exact ⟨h1.of (hblk _ (h.dis j i hj' hi (Ne.symm e))), h2, h3, h4⟩
  · have ha' : a < rows.length := by simpa using ha
    have hc' : c < rows.length := by simpa using hc
    rw [hfst a ha', hfst c hc']
    exact h.dis a c ha' hc' hne
theorem MatAt.snoc (h : MatAt w base v n rows) (hz : base ≤ w.heap.size) {rb : Nat} {L : List Bool} (hr : BlkIs w rb (L.map Value.bool) 4) (hL : L.length = n) (hrb : base ≤ rb) (hne : v.ownBlock ≠ some rb) (hd : ∀ j, j < rows.length → rows[j]!.1 ≠ rb)
    (hg : w.grownBy w' v.ownBlock) (ho : w'.ownsRow base 168 1 v' (rows.length + 1) (rows.map (sv n) ++ [sv n (rb, L)])) (hv : v'.ownBlock = v.ownBlock ∨ v'.ownBlock = some w.heap.size) : MatAt w' base v' n (rows ++ [(rb, L)]) := by
  have hkeep : ∀ q, q < w.heap.size → v.ownBlock ≠ some q → w'.heap[q]? = w.heap[q]? ∧ v'.ownBlock ≠ some q := fun q hq hq2 => by
    refine ⟨hg.block q hq (fun e => hq2 e.symm), fun e => ?_⟩
    rcases hv with hv | hv
    · exact hq2 (hv.symm.trans e)
    · rw [hv] at e
      injection e with e
      omega
  have hl : (rows ++ [(rb, L)]).length = rows.length + 1 := by simp
  have hat : ∀ j, j < rows.length + 1 → (j < rows.length ∧ (rows ++ [(rb, L)])[j]! = rows[j]!) ∨ (j = rows.length ∧ (rows ++ [(rb, L)])[j]! = (rb, L)) := fun j hj => by
    by_cases e : j < rows.length
    · exact .inl ⟨e, by rw [getElem!_pos _ j (by rw [hl]; exact hj), getElem!_pos rows j e, List.getElem_append_left e]⟩
    · have : j = rows.length := by omega
      subst this
      exact .inr ⟨rfl, by rw [getElem!_pos _ _ (by rw [hl]; exact hj)]; simp⟩
  refine ⟨by rw [List.map_append, hl]; exact ho, fun j hj => ?_, fun a c ha hc hac => ?_⟩
  · rw [hl] at hj
    rcases hat j hj with ⟨hj', e⟩ | ⟨_, e⟩
    · rw [e]
      obtain ⟨h1, h2, h3, h4⟩ := h.row j hj'
      obtain ⟨k1, k2⟩ := hkeep _ h1.lt h4
      exact ⟨h1.of k1, h2, h3, k2⟩
    · rw [e]
      obtain ⟨k1, k2⟩ := hkeep rb hr.lt hne
      exact ⟨hr.of k1, hL, hrb, k2⟩
  · rw [hl] at ha hc
    rcases hat a ha with ⟨ha', e1⟩ | ⟨e0, e1⟩ <;> rcases hat c hc with ⟨hc', e2⟩ | ⟨e3, e2⟩ <;> rw [e1, e2]
    · exact h.dis a c ha' hc' hac
    · exact hd a ha'
    · exact fun e => hd c hc' e.symm
    · omega
end
/-- what a matrix says leads somewhere -/
def Snd (af : List (List Int)) (rows : List (Nat × List Bool)) : Prop := ∀ i, i < rows.length → ∀ x, rows[i]!.2[x]! = true → Way af i x
theorem setB_at (L : List Bool) (k x : Nat) (b : Bool) (h : (L.set k b)[x]! = true) : (x = k ∧ b = true) ∨ L[x]! = true := by
  simp only [List.getElem!_eq_getElem?_getD, List.getElem?_set] at h ⊢
  split at h
  · rename_i e
    split at h
    · exact .inl ⟨e.symm, by simpa using h⟩
    · cases h
  · exact .inr h
theorem Snd.set {af : List (List Int)} {rows : List (Nat × List Bool)} (h : Snd af rows) {i k : Nat} (hi : i < rows.length) (b : Bool) (hb : b = true → Way af i k) : Snd af (rows.set i (rows[i]!.1, rows[i]!.2.set k b)) := by
  intro j hj x hx
  have hj' : j < rows.length := by simpa using hj
  rw [rows_at _ _ hj'] at hx
  by_cases e : i = j
  · subst e
    rw [if_pos rfl] at hx
    rcases setB_at _ _ _ _ hx with ⟨rfl, hb'⟩ | hx
    · exact hb hb'
    · exact h i hj' x hx
  · rw [if_neg e] at hx
    exact h j hj' x hx
theorem Snd.snoc {af : List (List Int)} {rows : List (Nat × List Bool)} (h : Snd af rows) {rb : Nat} {L : List Bool} (hL : ∀ x, L[x]! = true → Way af rows.length x) : Snd af (rows ++ [(rb, L)]) := by
  intro j hj x hx
  have hj' : j < rows.length + 1 := by simpa using hj
  by_cases e : j < rows.length
  · rw [getElem!_pos (rows ++ [(rb, L)]) j hj, List.getElem_append_left e, ← getElem!_pos rows j e] at hx
    exact h j e x hx
  · have ej : j = rows.length := by omega
    subst ej
    rw [getElem!_pos (rows ++ [(rb, L)]) _ hj] at hx
    simp only [List.getElem_append_right (Nat.le_refl _), Nat.sub_self, List.getElem_cons_zero] at hx
    exact hL x hx
end Go.Proofs.YtbbcicengfmhiaaGreatDoor

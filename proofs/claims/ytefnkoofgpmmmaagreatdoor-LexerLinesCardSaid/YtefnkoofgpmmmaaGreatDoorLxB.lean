/- A row of rows of words, growing. No function of the program here. -/
import Derived.Test.YtefnkoofgpmmmaaGreatDoorSqW
import Derived.Test.YtefnkoofgpmmmaaGreatDoorGro
namespace Go.Proofs.YtefnkoofgpmmmaaGreatDoor
set_option maxRecDepth 100000
open Go.RowKit

/-- a word, and where it begins -/
abbrev WordV := ByteArray × Int
def encW (x : WordV) : List Value := [.string x.1, .int .i64 x.2]
theorem encW_len (x : WordV) : (encW x).length = 2 := rfl

theorem SlAt.grown {α : Type} [Inhabited α] {k : Nat} {enc : α → List Value} {w w' : World} {v : Value} {xs : List α} {row : Option Nat} (h : SlAt k enc w v xs) (hg : w.grownBy w' row) (hr : ∀ r, row = some r → ∃ o : Obj, w.heap[r]? = some o ∧ o.isCells = false) : SlAt k enc w' v xs := by
  obtain ⟨p, c, rfl, hn, hc⟩ := h
  refine ⟨p, c, rfl, hn, fun hl => ?_⟩
  obtain ⟨q, off, rfl, hlt, hcell⟩ := hc hl
  exact ⟨q, off, rfl, Nat.lt_of_lt_of_le hlt hg.size, fun j hj m u' hu => cell_kept (hcell j hj m u' hu) hg hr⟩
theorem owns_grown {w w' : World} {base : Nat} {e : TypeId} {size : Nat} {v : Value} {n : Nat} {xs : List Value} {row : Option Nat} (h : w.ownsRow base e size v n xs) (hg : w.grownBy w' row) (hrow : ∀ r, row = some r → ∃ o : Obj, w.heap[r]? = some o ∧ o.isCells = false) : w'.ownsRow base e size v n xs := by
  refine h.kept hg ?_
  rcases h.2 with ⟨rfl, _⟩ | ⟨g, cap, cur, rfl, _, hgb, _⟩
  · exact .inl rfl
  · refine .inr fun e' => ?_
    obtain ⟨o, ho, hc⟩ := hrow g (by simpa [Value.ownBlock] using e'.symm)
    rw [hgb] at ho; cases ho; cases hc

structure LnAt (T : TypeId) (base : Nat) (v : Value) (svs : List Value) (ls : List (List WordV)) (w : World) : Prop where
  z : base ≤ w.heap.size
  len : svs.length = ls.length
  own : w.ownsRow base T 1 v ls.length svs
  inn : ∀ j, j < ls.length → SlAt 2 encW w svs[j]! ls[j]! ∧ ∀ q, svs[j]!.ownBlock = some q → base ≤ q ∧ q < w.heap.size ∧ v.ownBlock ≠ some q
section
variable {T : TypeId} {base : Nat} {v v' : Value} {svs : List Value} {ls : List (List WordV)} {w w' : World}
theorem LnAt.start (z : base ≤ w.heap.size) : LnAt T base (.slice none 0 0) [] [] w := ⟨z, rfl, ⟨by simp, .inl ⟨rfl, rfl⟩⟩, fun j hj => absurd hj (by simp)⟩
theorem LnAt.of (h : LnAt T base v svs ls w) (hs : w.heap.size ≤ w'.heap.size) (hb : ∀ q, base ≤ q → q < w.heap.size → w'.heap[q]? = w.heap[q]?) : LnAt T base v svs ls w' :=
  ⟨Nat.le_trans h.z hs, h.len, owns_keptI h.own (fun q hq => hb q (owns_block h.own q hq) (owns_lt h.own hq)),
    fun j hj => ⟨(h.inn j hj).1.of_blk hs (fun q hq hlt => hb q ((h.inn j hj).2 q hq).1 hlt), fun q hq => ⟨((h.inn j hj).2 q hq).1, Nat.lt_of_lt_of_le ((h.inn j hj).2 q hq).2.1 hs, ((h.inn j hj).2 q hq).2.2⟩⟩⟩
theorem LnAt.below (h : LnAt T base v svs ls w) (hb : Below w.heap.size w w') : LnAt T base v svs ls w' := h.of hb.size (fun q _ hq => hb.block q hq)
theorem LnAt.setCell (h : LnAt T base v svs ls w) {q : Nat} (hq : q < base) (o : Nat) (u : Value) : LnAt T base v svs ls (w.setCell ⟨q, o, none⟩ u) :=
  h.of (by simp) (fun k hk _ => Below.heap_setCell _ _ _ _ (show k ≠ q by omega))
theorem LnAt.grown {row : Option Nat} (h : LnAt T base v svs ls w) (hg : w.grownBy w' row) (hr : ∀ r, row = some r → ∃ o : Obj, w.heap[r]? = some o ∧ o.isCells = false) : LnAt T base v svs ls w' :=
  ⟨Nat.le_trans h.z hg.size, h.len, owns_grown h.own hg hr,
    fun j hj => ⟨(h.inn j hj).1.grown hg hr, fun q hq => ⟨((h.inn j hj).2 q hq).1, Nat.lt_of_lt_of_le ((h.inn j hj).2 q hq).2.1 hg.size, ((h.inn j hj).2 q hq).2.2⟩⟩⟩
theorem LnAt.put (h : LnAt T base v svs ls w) (x : Value) (ws : List WordV) (hs : SlAt 2 encW w x ws) (hq : ∀ q, x.ownBlock = some q → base ≤ q ∧ q < w.heap.size ∧ v.ownBlock ≠ some q)
    (hg : w.grownBy w' v.ownBlock) (ho : w'.ownsRow base T 1 v' (ls.length + 1) (svs ++ [x])) (hv : v'.ownBlock = v.ownBlock ∨ v'.ownBlock = some w.heap.size) : LnAt T base v' (svs ++ [x]) (ls ++ [ws]) w' := by
  have hsub : ∀ (y : Value) (us : List WordV), SlAt 2 encW w y us → (∀ q, y.ownBlock = some q → base ≤ q ∧ q < w.heap.size ∧ v.ownBlock ≠ some q) →
      SlAt 2 encW w' y us ∧ ∀ q, y.ownBlock = some q → base ≤ q ∧ q < w'.heap.size ∧ v'.ownBlock ≠ some q := by
    intro y us hy hyq
    refine ⟨hy.of_blk hg.size (fun q hq hlt => hg.block q hlt (fun e => (hyq q hq).2.2 e.symm)), fun q hq => ?_⟩
    obtain ⟨e1, e2, e3⟩ := hyq q hq
    refine ⟨e1, Nat.lt_of_lt_of_le e2 hg.size, fun e => ?_⟩
    rcases hv with hv | hv
    · exact e3 (hv.symm.trans e)
    · rw [hv] at e
      injection e with e
      omega
  refine ⟨Nat.le_trans h.z hg.size, by simp [h.len], by rw [List.length_append, List.length_singleton]; exact ho, fun j hj => ?_⟩
  have hl : j < ls.length + 1 := by simpa using hj
  by_cases hlt : j < ls.length
  · have e1 : (svs ++ [x])[j]! = svs[j]! := by
      have := h.len
      rw [getElem!_pos (svs ++ [x]) j (by simp; omega), getElem!_pos svs j (by omega), List.getElem_append_left (by omega)]
    have e2 : (ls ++ [ws])[j]! = ls[j]! := by
      rw [getElem!_pos (ls ++ [ws]) j hj, getElem!_pos ls j hlt, List.getElem_append_left hlt]
    rw [e1, e2]
    exact hsub _ _ (h.inn j hlt).1 (h.inn j hlt).2
  · have e : j = ls.length := by omega
    subst e
    have e1 : (svs ++ [x])[ls.length]! = x := by
      rw [← h.len, getElem!_pos (svs ++ [x]) svs.length (by simp)]
      simp
    have e2 : (ls ++ [ws])[ls.length]! = ws := by
      rw [getElem!_pos (ls ++ [ws]) ls.length hj]
      simp
    rw [e1, e2]
    exact hsub _ _ hs hq
end
end Go.Proofs.YtefnkoofgpmmmaaGreatDoor

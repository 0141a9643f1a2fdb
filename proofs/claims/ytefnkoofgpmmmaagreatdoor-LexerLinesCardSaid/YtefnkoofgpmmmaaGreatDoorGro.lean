/- A row of structs, each with a slice of numbers of its own, that grows in a box while a reader reads. No function of the program here. -/
import Derived.Test.YtefnkoofgpmmmaaGreatDoorGaT
import Derived.Test.YtefnkoofgpmmmaaGreatDoorN4
import Derived.Test.YtefnkoofgpmmmaaGreatDoorBlk
namespace Go.Proofs.YtefnkoofgpmmmaaGreatDoor
set_option maxRecDepth 100000
open Go.RowKit

theorem SlAt.of_blk {α : Type} [Inhabited α] {k : Nat} {enc : α → List Value} {w w' : World} {v : Value} {xs : List α} (h : SlAt k enc w v xs) (hs : w.heap.size ≤ w'.heap.size) (hb : ∀ q, v.ownBlock = some q → q < w.heap.size → w'.heap[q]? = w.heap[q]?) : SlAt k enc w' v xs := by
  obtain ⟨p, c, rfl, hn, hc⟩ := h
  refine ⟨p, c, rfl, hn, fun hl => ?_⟩
  obtain ⟨q, off, rfl, hlt, hcell⟩ := hc hl
  exact ⟨q, off, rfl, Nat.lt_of_lt_of_le hlt hs, fun j hj m u' hu => (World.cell?_of_block (w := w) (hb q rfl hlt)).trans (hcell j hj m u' hu)⟩
theorem snoc_get {α : Type} [Inhabited α] (us : List α) (x : α) {j : Nat} (hj : j < (us ++ [x]).length) : (j < us.length ∧ (us ++ [x])[j]! = us[j]!) ∨ (j = us.length ∧ (us ++ [x])[j]! = x) := by
  have hl : j < us.length + 1 := by simpa using hj
  by_cases h : j < us.length
  · refine .inl ⟨h, ?_⟩
    rw [getElem!_pos (us ++ [x]) j hj, getElem!_pos us j h, List.getElem_append_left h]
  · have e : j = us.length := by omega
    subst e
    refine .inr ⟨rfl, ?_⟩
    rw [getElem!_pos (us ++ [x]) us.length hj]
    simp
/-- the row under way: its box at B (field f), what lay ahead stands as in w1 -/
structure GrAt {α : Type} [Inhabited α] (T kk : Nat) (enc : α → List Value) (sl : α → Value) (af : α → List Int) (w0 w1 : World) (b B f base k : Nat) (cs : List Value) (TB : TypeId) (v : Value) (st : List UInt8 × Bool) (us : List α) (w : World) : Prop where
  zb : b < w0.heap.size
  z0 : w0.heap.size ≤ B
  z1 : B < base
  z2 : base ≤ w.heap.size
  blk : BlkIs w B (cs.set f v) TB
  own : w.ownsRow base T kk v k (flat enc us)
  inn : ∀ j, j < us.length → SlAt 1 encI w (sl us[j]!) (af us[j]!) ∧ ∀ q, (sl us[j]!).ownBlock = some q → base ≤ q ∧ q < w.heap.size ∧ v.ownBlock ≠ some q
  old : ∀ q, q < base → q ≠ b → q ≠ B → w.heap[q]? = w1.heap[q]?
  rd : RdAt b st.1 st.2 w
  met : Met w
  kept : KeptB b w0 w
section
variable {α : Type} [Inhabited α] {T kk : Nat} {enc : α → List Value} {sl : α → Value} {af : α → List Int} {w0 w1 : World} {b B f base k : Nat} {cs : List Value} {TB : TypeId} {v v' : Value} {st st' : List UInt8 × Bool} {us : List α} {w w' : World}
theorem GrAt.start (zb : b < w0.heap.size) (z0 : w0.heap.size ≤ B) (z1 : B < w.heap.size) (blk : BlkIs w B (cs.set f (.slice none 0 0)) TB) (rd : RdAt b st.1 st.2 w) (met : Met w) (kept : KeptB b w0 w) :
    GrAt T kk enc sl af w0 w b B f w.heap.size 0 cs TB (.slice none 0 0) st [] w :=
  ⟨zb, z0, z1, Nat.le_refl _, blk, ⟨by simp [flat], .inl ⟨rfl, rfl⟩⟩, fun j hj => absurd hj (by simp), fun _ _ _ _ => rfl, rd, met, kept⟩
theorem GrAt.below (h : GrAt T kk enc sl af w0 w1 b B f base k cs TB v st us w) (hb : Below w.heap.size w w') : GrAt T kk enc sl af w0 w1 b B f base k cs TB v st us w' :=
  ⟨h.zb, h.z0, h.z1, Nat.le_trans h.z2 hb.size, h.blk.below hb, owns_below h.own hb,
    fun j hj => ⟨(h.inn j hj).1.below hb, fun q hq => ⟨((h.inn j hj).2 q hq).1, Nat.lt_of_lt_of_le ((h.inn j hj).2 q hq).2.1 hb.size, ((h.inn j hj).2 q hq).2.2⟩⟩,
    fun q h1 h2 h3 => (hb.block q (Nat.lt_of_lt_of_le h1 h.z2)).trans (h.old q h1 h2 h3), h.rd.below hb, h.met.below hb, h.kept.trans (KeptB.of (Nat.lt_of_lt_of_le h.zb h.kept.2.2) hb)⟩
theorem GrAt.ne (h : GrAt T kk enc sl af w0 w1 b B f base k cs TB v st us w) : b ≠ B ∧ b < B ∧ b < base := by
  have := h.zb
  have := h.z0
  have := h.z1
  omega
theorem GrAt.read (h : GrAt T kk enc sl af w0 w1 b B f base k cs TB v st us w) (h9 : 9 ≤ b) (hr : RdAt b st'.1 st'.2 w') (hk : KeptB b w w') : GrAt T kk enc sl af w0 w1 b B f base k cs TB v st' us w' := by
  obtain ⟨n1, n2, n3⟩ := h.ne
  exact ⟨h.zb, h.z0, h.z1, Nat.le_trans h.z2 hk.2.2, h.blk.of (hk.2.1 B h.blk.lt (Ne.symm n1)), owns_keptI h.own (fun q hq => hk.2.1 q (owns_lt h.own hq) (by have := owns_block h.own q hq; omega)),
    fun j hj => ⟨(h.inn j hj).1.keptB hk (fun e => by have := ((h.inn j hj).2 _ e).1; omega), fun q hq => ⟨((h.inn j hj).2 q hq).1, Nat.lt_of_lt_of_le ((h.inn j hj).2 q hq).2.1 hk.2.2, ((h.inn j hj).2 q hq).2.2⟩⟩,
    fun q h1 h2 h3 => (hk.2.1 q (Nat.lt_of_lt_of_le h1 h.z2) h2).trans (h.old q h1 h2 h3), hr, hk.met h.met h9, h.kept.trans hk⟩
theorem GrAt.put (h : GrAt T kk enc sl af w0 w1 b B f base k cs TB v st us w) (h9 : 9 ≤ b) (x : α) (hs : SlAt 1 encI w (sl x) (af x)) (hq : ∀ q, (sl x).ownBlock = some q → base ≤ q ∧ q < w.heap.size ∧ v.ownBlock ≠ some q)
    (hg : w.grownBy w' v.ownBlock) (ho : w'.ownsRow base T kk v' (k + 1) (flat enc (us ++ [x]))) (hv : v'.ownBlock = v.ownBlock ∨ v'.ownBlock = some w.heap.size) :
    GrAt T kk enc sl af w0 w1 b B f base (k + 1) cs TB v' st (us ++ [x]) (w'.setCell ⟨B, f, none⟩ v') := by
  obtain ⟨n1, n2, n3⟩ := h.ne
  have z1 := h.z1
  have z2 := h.z2
  have hsz := hg.size
  have hrow : ∀ q, v.ownBlock = some q → base ≤ q := fun q hq => owns_block h.own q hq
  have hb0 : ∀ B', B' ≤ b → Below B' w (w'.setCell ⟨B, f, none⟩ v') := fun B' hB' => ((Below.refl B' w).grown hg (by have := h.rd.1; omega) (fun q hq => by have := hrow q hq; omega)).setCell (p := ⟨B, f, none⟩) (by show B' ≤ B; omega) _
  have hbl : ∀ q, q < w.heap.size → v.ownBlock ≠ some q → q ≠ B → (w'.setCell ⟨B, f, none⟩ v').heap[q]? = w.heap[q]? := fun q h1 h2 h3 => by
    rw [Below.heap_setCell _ _ _ _ h3]
    exact hg.block q h1 (fun e => h2 e.symm)
  have hvb : ∀ q, q < base → v.ownBlock ≠ some q := fun q hq e => by have := hrow q e; omega
  have hB1 : BlkIs w' B (cs.set f v) TB := h.blk.of (hg.block B h.blk.lt (fun e => hvb B z1 e.symm))
  have hset : (w'.setCell ⟨B, f, none⟩ v').heap.size = w'.heap.size := by simp
  have hsub : ∀ y : α, SlAt 1 encI w (sl y) (af y) → (∀ q, (sl y).ownBlock = some q → base ≤ q ∧ q < w.heap.size ∧ v.ownBlock ≠ some q) →
      SlAt 1 encI (w'.setCell ⟨B, f, none⟩ v') (sl y) (af y) ∧ ∀ q, (sl y).ownBlock = some q → base ≤ q ∧ q < (w'.setCell ⟨B, f, none⟩ v').heap.size ∧ v'.ownBlock ≠ some q := by
    intro y hy hyq
    refine ⟨hy.of_blk (by rw [hset]; exact hsz) (fun q hq hlt => hbl q hlt (hyq q hq).2.2 (by have := (hyq q hq).1; omega)), fun q hq => ?_⟩
    obtain ⟨e1, e2, e3⟩ := hyq q hq
    refine ⟨e1, by rw [hset]; omega, fun e => ?_⟩
    rcases hv with hv | hv
    · exact e3 (hv.symm.trans e)
    · rw [hv] at e
      injection e with e
      omega
  refine ⟨h.zb, h.z0, h.z1, by rw [hset]; omega, ?_, owns_keptI ho (fun q hq => Below.heap_setCell _ _ _ _ (show q ≠ B by have := owns_block ho q hq; omega)), fun j hj => ?_,
    fun q h1 h2 h3 => (hbl q (by omega) (hvb q h1) h3).trans (h.old q h1 h2 h3), h.rd.of_block (by rw [hset]; exact hsz) (hbl b h.rd.1 (hvb b n3) n1), h.met.belowB (hb0 b (Nat.le_refl _)) h9,
    ⟨fun B' hB' => (h.kept.1 B' hB').trans (hb0 B' hB'), fun q h1 h2 => (hbl q (by have := h.kept.2.2; omega) (hvb q (by have := h.z0; omega)) (by have := h.z0; omega)).trans (h.kept.2.1 q h1 h2), by have := h.kept.2.2; rw [hset]; omega⟩⟩
  · have := hB1.set (o := f) v'
    rwa [List.set_set] at this
  · rcases snoc_get us x hj with ⟨hlt, e⟩ | ⟨_, e⟩
    · rw [e]
      exact hsub _ (h.inn j hlt).1 (h.inn j hlt).2
    · rw [e]
      exact hsub _ hs hq
end
end Go.Proofs.YtefnkoofgpmmmaaGreatDoor

/- Encodings that many texts share. No program here. -/
import Derived.Test.YtbbcicengfmhiaaDoorSl
namespace Go.Proofs.YtbbcicengfmhiaaDoor
def encI (n : Int) : List Value := [.int .i64 n]
def okI (n : Int) : Prop := -9223372036854775808 ≤ n ∧ n ≤ 9223372036854775807
def encL (l : Int × Nat) : List Value := [.int .i64 l.1, .int .u16 (l.2 : Int)]
def encP (p : Int × Int × Nat) : List Value := [.int .i64 p.1, .int .i64 p.2.1, .int .u16 (p.2.2 : Int)]
theorem cell_lt {w : World} {b o : Nat} {v : Value} (h : w.cell? ⟨b, o, none⟩ = some v) : b < w.heap.size := by
  unfold World.cell? at h
  cases hh : w.heap[b]? with
  | none => simp [hh] at h
  | some x => exact (Array.getElem?_eq_some_iff.1 hh).1
theorem cells_of {w : World} {b o : Nat} {v : Value} (h : w.cell? ⟨b, o, none⟩ = some v) : ∃ c t z, w.heap[b]? = some (.cells c t z) := by
  unfold World.cell? at h
  cases hh : w.heap[b]? with
  | none => simp [hh] at h
  | some x =>
    cases x with
    | cells c t z => exact ⟨_, _, _, rfl⟩
    | _ => simp [hh] at h
/-- what turns no block of cells -/
def KeepC (w w' : World) : Prop := w.heap.size ≤ w'.heap.size ∧ ∀ (q : Nat) (c : Array Value) (t : TypeId) (z : Nat × Nat), w.heap[q]? = some (Obj.cells c t z) → w'.heap[q]? = w.heap[q]?
theorem KeepC.cell {w w' : World} (h : KeepC w w') {b o : Nat} {v : Value} (hc : w.cell? ⟨b, o, none⟩ = some v) : w'.cell? ⟨b, o, none⟩ = some v := by
  obtain ⟨c, t, z, hb⟩ := cells_of hc
  exact (World.cell?_of_block (h.2 _ _ _ _ hb)).trans hc
theorem SlAt.keepC {α : Type} [Inhabited α] {k : Nat} {enc : α → List Value} {w w' : World} {v : Value} {xs : List α} (h : SlAt k enc w v xs) (hk : KeepC w w') : SlAt k enc w' v xs := by
  obtain ⟨p, c, hv, hn, hc⟩ := h
  refine ⟨p, c, hv, hn, fun hl => ?_⟩
  obtain ⟨b, off, hp, hlt, hcell⟩ := hc hl
  exact ⟨b, off, hp, Nat.lt_of_lt_of_le hlt hk.1, fun j hj i u hu => hk.cell (hcell j hj i u hu)⟩
theorem KeepC.map {w w' : World} {bm : Nat} {es : Array MapEntry} {ck : Nat} (hm : w.heap[bm]? = some (.map es ck)) (hg : w.grownBy w' (some bm)) : KeepC w w' := by
  refine ⟨hg.size, fun q c t z hq => hg.block q (Array.getElem?_eq_some_iff.1 hq).1 (fun e => ?_)⟩
  cases e
  rw [hm] at hq
  cases hq
abbrev Lbl := Int × Nat
abbrev Psn := Int × Int × Nat
end Go.Proofs.YtbbcicengfmhiaaDoor

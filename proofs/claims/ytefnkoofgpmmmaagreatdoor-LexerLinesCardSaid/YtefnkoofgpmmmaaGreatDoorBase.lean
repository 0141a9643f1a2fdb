/- Small laws on worlds that many walks use. No program here. -/
import Derived.WalkKit
import Derived.WalkSpells
import Derived.WalkLawsBesides
import Derived.Lib.Hide
import Derived.IntWalk
namespace Go.Proofs.YtefnkoofgpmmmaaGreatDoor
open Go.RowKit
theorem bcell {W w1 : World} (hb : Below W.heap.size W w1) : (∀ b o, b < W.heap.size → w1.cell? ⟨b, o, none⟩ = W.cell? ⟨b, o, none⟩) ∧ (∀ b o, b < W.heap.size → w1.frozen? ⟨b, o, none⟩ = W.frozen? ⟨b, o, none⟩) :=
  ⟨fun b o h => hb.cell (p := ⟨b, o, none⟩) h, fun b o h => hb.frozen (p := ⟨b, o, none⟩) h⟩
theorem below1 (w : World) (a : Obj) : Below w.heap.size w (w.alloc a) := (Below.refl _ _).alloc (Nat.le_refl _) _
theorem below2 (w : World) (a b : Obj) : Below w.heap.size w ((w.alloc a).alloc b) := (below1 w a).alloc (by simp) _
theorem below3 (w : World) (a b c : Obj) : Below w.heap.size w (((w.alloc a).alloc b).alloc c) := (below2 w a b).alloc (by simp; omega) _
theorem below_set6 {B : Nat} {w w1 : World} {p : Nat} (h : Below B w w1) (hp : B ≤ p) (a b c d e f : Value) :
    Below B w ((((((w1.setCell ⟨p, 0, none⟩ a).setCell ⟨p, 1, none⟩ b).setCell ⟨p, 2, none⟩ c).setCell ⟨p, 3, none⟩ d).setCell ⟨p, 4, none⟩ e).setCell ⟨p, 5, none⟩ f) :=
  (((((h.setCell hp a).setCell hp b).setCell hp c).setCell hp d).setCell hp e).setCell hp f
theorem below4 (w : World) (a b c d : Obj) : Below w.heap.size w ((((w.alloc a).alloc b).alloc c).alloc d) := (below3 w a b c).alloc (by simp; omega) _

theorem stay {W w1 w2 : World} (h : (∀ b o, b < W.heap.size → w1.cell? ⟨b, o, none⟩ = W.cell? ⟨b, o, none⟩) ∧ Below W.heap.size W w1) (hb : Below w1.heap.size w1 w2) :
    (∀ b o, b < W.heap.size → w2.cell? ⟨b, o, none⟩ = W.cell? ⟨b, o, none⟩) ∧ Below W.heap.size W w2 :=
  ⟨fun b o hl => (hb.cell (p := ⟨b, o, none⟩) (Nat.lt_of_lt_of_le hl h.2.size)).trans (h.1 b o hl), h.2.trans (hb.mono h.2.size)⟩
theorem stay0 (W : World) : (∀ b o, b < W.heap.size → W.drew.cell? ⟨b, o, none⟩ = W.cell? ⟨b, o, none⟩) ∧ Below W.heap.size W W.drew := ⟨fun _ _ _ => rfl, (Below.refl _ _).drew⟩

theorem belowA {B : Nat} {w w1 w2 : World} {o : Obj} (h : Below B w w1) (hB : B ≤ w1.heap.size) (hb : Below (w1.alloc o).heap.size (w1.alloc o) w2) : Below B w w2 :=
  (h.alloc hB o).trans (hb.mono (by simp; omega))
theorem sizeA {w1 w2 : World} {o : Obj} (hb : Below (w1.alloc o).heap.size (w1.alloc o) w2) : w1.heap.size < w2.heap.size := by
  have := hb.size
  simp at this
  omega

theorem stayEnd {B : Nat} {w W w1 : World} (hW : Below B w W) (hB : B ≤ W.heap.size) (h : (∀ b o, b < W.heap.size → w1.cell? ⟨b, o, none⟩ = W.cell? ⟨b, o, none⟩) ∧ Below W.heap.size W w1) : Below B w w1 :=
  hW.trans (h.2.mono hB)
theorem umod (x : Int) (m : Int) (hm : 0 < m) : ∃ n, (0 ≤ n ∧ n < m) ∧ (IntKind.u64.wrap x).tmod m = n := by
  have h0 : 0 ≤ IntKind.u64.wrap x := by simp [IntKind.wrap, IntKind.signed, IntKind.bits]; omega
  refine ⟨_, ⟨?_, ?_⟩, rfl⟩
  · rw [Int.tmod_eq_emod_of_nonneg h0]; exact Int.emod_nonneg _ (by omega)
  · rw [Int.tmod_eq_emod_of_nonneg h0]; exact Int.emod_lt_of_pos _ hm

end Go.Proofs.YtefnkoofgpmmmaaGreatDoor

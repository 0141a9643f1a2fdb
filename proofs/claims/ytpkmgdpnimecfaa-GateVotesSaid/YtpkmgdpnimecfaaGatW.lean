/- What lies about in GateVotes: the boxes, the map, the slices. No condition. -/
import Derived.Test.YtpkmgdpnimecfaaGatI
import Derived.Test.YtpkmgdpnimecfaaTk
namespace Go.Proofs.Ytpkmgdpnimecfaa
open Go.ChangeShapes Go.WideShapes Go.ChangeAt Go.RowKit

abbrev eI (n : Int) : Value := .int .i64 n
abbrev eB (b : Bool) : Value := .bool b
abbrev Cst := Int × Bool
def encC (c : Cst) : List Value := [.int .i64 c.1, .bool c.2]
theorem not_map {w : World} {b o : Nat} {v : Value} {es : Array MapEntry} {c : Nat} (h : w.cell? ⟨b, o, none⟩ = some v) (hm : w.heap[b]? = some (.map es c)) : False := by
  unfold World.cell? at h
  simp [hm] at h
theorem SlAt.grown {α : Type} [Inhabited α] {k : Nat} (hk0 : 0 < k) {enc : α → List Value} (hk : ∀ x, (enc x).length = k) {w w' : World} {v : Value} {xs : List α} {bm : Nat} {m : List (Int × Bool)} (h : SlAt k enc w v xs) (hm : MapIs w bm eI eB m) (hg : w.grownBy w' (some bm)) :
    SlAt k enc w' v xs := by
  obtain ⟨p, c, hv, hn, hc⟩ := h
  obtain ⟨es, ck, hmm, _⟩ := hm
  refine ⟨p, c, hv, hn, fun hl => ?_⟩
  obtain ⟨b, off, hp, hlt, hcell⟩ := hc hl
  have hne : b ≠ bm := by
    rintro rfl
    have h0 := hcell 0 hl 0 _ (List.getElem?_eq_getElem (by rw [hk]; exact hk0))
    exact not_map h0 hmm
  exact ⟨b, off, hp, Nat.lt_of_lt_of_le hlt hg.size, fun j hj i u hu => (World.cell?_of_block (w := w) (hg.block _ hlt (by simpa using hne))).trans (hcell j hj i u hu)⟩
theorem zeroBB (w : World) : (zeroValue 4).run Try.prog w = .ok (.bool false) w := by kernel_rfl
theorem keyIB : KeyOf Try.prog 3 eI := keyOf_i64 Try.underlying3

/-- the gate's box and the map of the call's own, and the document's votes -/
def VAt (w wr : World) (b5 bm : Nat) (v : Value) (no : Bool) (xs : List Int) (m : List (Int × Bool)) (vy : Value) : Prop :=
  Below w.heap.size w wr ∧ Bx b5 v no xs wr ∧ (wr.frozen? ⟨b5, 0, none⟩ = false ∧ wr.frozen? ⟨b5, 1, none⟩ = false) ∧ MapIs wr bm eI eB m ∧ w.heap.size ≤ b5 ∧ w.heap.size ≤ bm ∧ b5 ≠ bm ∧ SlAt 1 encI wr vy xs ∧ ∀ k, (v.ownBlock = some k ∨ vy.ownBlock = some k) → k ≠ b5
theorem VAt.next {w wr w2 : World} {b5 bm : Nat} {v vy : Value} {no : Bool} {xs : List Int} {m : List (Int × Bool)} (h : VAt w wr b5 bm v no xs m vy) (hb : Below wr.heap.size wr w2) : VAt w w2 b5 bm v no xs m vy := by
  obtain ⟨h1, h2, ⟨q0, q1⟩, h4, h5, h6, h7, h8, h9⟩ := h
  exact ⟨h1.trans (hb.mono h1.size), h2.below hb, ⟨(hb.frozen (p := ⟨b5, 0, none⟩) h2.1).trans q0, (hb.frozen (p := ⟨b5, 1, none⟩) h2.1).trans q1⟩, h4.below hb h4.lt, h5, h6, h7, h8.below hb, h9⟩
theorem Bx.grown {b bm : Nat} {v : Value} {no : Bool} {xs : List Int} {w w' : World} {m : List (Int × Bool)} (h : Bx b v no xs w) (hm : MapIs w bm eI eB m) (hg : w.grownBy w' (some bm)) : Bx b v no xs w' ∧ w'.heap[b]? = w.heap[b]? := by
  obtain ⟨h1, h2, h3, h4⟩ := h
  have hne : b ≠ bm := by
    rintro rfl
    obtain ⟨es, ck, hmm, _⟩ := hm
    exact not_map h2 hmm
  have hbl := hg.block _ h1 (by simpa using hne)
  exact ⟨⟨Nat.lt_of_lt_of_le h1 hg.size, (World.cell?_of_block (w := w) hbl).trans h2, (World.cell?_of_block (w := w) hbl).trans h3, SlAt.grown (k := 1) (enc := encI) (by decide) (fun _ => rfl) h4 hm hg⟩, hbl⟩
/-- a round under way: the vote's own box, the gate's answer, the document's -/
def RAt (w wr : World) (b5 b10 b11 bm : Nat) (v : Value) (no : Bool) (xs : List Int) (m : List (Int × Bool)) (vy : Value) (who : Int) (yes : Bool) (v' : Value) (no' : Bool) (ys : List Int) (vz : Value) : Prop :=
  VAt w wr b5 bm v no xs m vy ∧ (b10 < wr.heap.size ∧ wr.cell? ⟨b10, 0, none⟩ = some (.int .i64 who) ∧ wr.cell? ⟨b10, 1, none⟩ = some (.bool yes)) ∧ Bx b11 v' no' ys wr ∧ SlAt 1 encI wr vz ys ∧ ∀ k, (v'.ownBlock = some k ∨ vz.ownBlock = some k) → k ≠ b5
theorem RAt.next {w wr w2 : World} {b5 b10 b11 bm : Nat} {v vy v' vz : Value} {no no' yes : Bool} {xs ys : List Int} {m : List (Int × Bool)} {who : Int} (h : RAt w wr b5 b10 b11 bm v no xs m vy who yes v' no' ys vz) (hb : Below wr.heap.size wr w2) : RAt w w2 b5 b10 b11 bm v no xs m vy who yes v' no' ys vz := by
  obtain ⟨h1, ⟨c0, c1, c2⟩, h3, h4, h5⟩ := h
  exact ⟨h1.next hb, ⟨Nat.lt_of_lt_of_le c0 hb.size, (hb.cell (p := ⟨b10, 0, none⟩) c0).trans c1, (hb.cell (p := ⟨b10, 1, none⟩) c0).trans c2⟩, h3.below hb, h4.below hb, h5⟩
theorem RAt.store {w wr w2 : World} {b5 b10 b11 bm : Nat} {v vy v' vz : Value} {no no' yes : Bool} {xs ys : List Int} {m m' : List (Int × Bool)} {who : Int} (h : RAt w wr b5 b10 b11 bm v no xs m vy who yes v' no' ys vz) (hM : MapIs w2 bm eI eB m') (hg : wr.grownBy w2 (some bm)) : RAt w w2 b5 b10 b11 bm v no xs m' vy who yes v' no' ys vz := by
  obtain ⟨⟨h1, h2, ⟨q0, q1⟩, h4, h5, h6, h7, h8, h9⟩, ⟨c0, c1, c2⟩, k3, k4, k5⟩ := h
  obtain ⟨g2, e2⟩ := h2.grown h4 hg
  have hne : b10 ≠ bm := by
    rintro rfl
    obtain ⟨es, ck, hmm, _⟩ := h4
    exact not_map c1 hmm
  have hbl := hg.block _ c0 (by simpa using hne)
  exact ⟨⟨h1.grown hg h1.size (fun j hj => by cases hj; exact h6), g2, ⟨(World.frozen?_of_block (w := wr) e2).trans q0, (World.frozen?_of_block (w := wr) e2).trans q1⟩, hM, h5, h6, h7, SlAt.grown (k := 1) (enc := encI) (by decide) (fun _ => rfl) h8 h4 hg, h9⟩,
    ⟨Nat.lt_of_lt_of_le c0 hg.size, (World.cell?_of_block (w := wr) hbl).trans c1, (World.cell?_of_block (w := wr) hbl).trans c2⟩, (k3.grown h4 hg).1, SlAt.grown (k := 1) (enc := encI) (by decide) (fun _ => rfl) k4 h4 hg, k5⟩
theorem RAt.set {w wr : World} {b5 b10 b11 bm : Nat} {v vy v' vz : Value} {no no' yes : Bool} {xs ys : List Int} {m : List (Int × Bool)} {who : Int} (h : RAt w wr b5 b10 b11 bm v no xs m vy who yes v' no' ys vz) :
    VAt w ((wr.setCell ⟨b5, 0, none⟩ v').setCell ⟨b5, 1, none⟩ (.bool no')) b5 bm v' no' ys m vz := by
  obtain ⟨⟨h1, ⟨z0, z1, z2, _⟩, ⟨q0, q1⟩, h4, h5, h6, h7, h8, h9⟩, _, ⟨_, _, _, k3⟩, k4, k5⟩ := h
  have n1 : v'.ownBlock ≠ some b5 := fun e => k5 _ (.inl e) rfl
  have n2 : vz.ownBlock ≠ some b5 := fun e => k5 _ (.inr e) rfl
  exact ⟨(h1.setCell (p := ⟨b5, 0, none⟩) h5 _).setCell (p := ⟨b5, 1, none⟩) h5 _, ⟨by simpa using z0, by go_simp, by go_simp, (k3.set _ _ n1).set _ _ n1⟩, ⟨by go_simp, by go_simp⟩,
    h4.kept (by rw [Below.heap_setCell _ _ _ _ h7.symm, Below.heap_setCell _ _ _ _ h7.symm]), h5, h6, h7, (k4.set _ _ n2).set _ _ n2, k5⟩
end Go.Proofs.Ytpkmgdpnimecfaa

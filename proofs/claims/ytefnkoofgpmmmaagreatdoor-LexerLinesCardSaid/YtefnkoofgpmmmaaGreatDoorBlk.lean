/- Blocks known whole, ranges in them, rows of bytes. No program here. -/
import Derived.Test.YtefnkoofgpmmmaaGreatDoorN1
import Derived.Deep.MidRow
import Derived.Lib.SmallJoins
import Derived.Laws.CopyOwn
import Derived.Lib.LazyBuf
import Derived.Laws.IdiomStrings
import Derived.Deep.WholeRow
namespace Go.Proofs.YtefnkoofgpmmmaaGreatDoor
open Go.RowKit

/-- a block of cells known whole -/
def BlkIs (w : World) (b : Nat) (cs : List Value) (T : TypeId) : Prop := w.heap[b]? = some (.cells cs.toArray T (0, 0))
theorem BlkIs.lt {w : World} {b : Nat} {cs : List Value} {T : TypeId} (h : BlkIs w b cs T) : b < w.heap.size := (Array.getElem?_eq_some_iff.1 h).1
theorem BlkIs.below {w w' : World} {b : Nat} {cs : List Value} {T : TypeId} (h : BlkIs w b cs T) (hb : Below w.heap.size w w') : BlkIs w' b cs T := (hb.block b h.lt).trans h
theorem BlkIs.of {w w' : World} {b : Nat} {cs : List Value} {T : TypeId} (h : BlkIs w b cs T) (he : w'.heap[b]? = w.heap[b]?) : BlkIs w' b cs T := he.trans h
theorem BlkIs.cell {w : World} {b : Nat} {cs : List Value} {T : TypeId} (h : BlkIs w b cs T) (o : Nat) : w.cell? ⟨b, o, none⟩ = cs[o]? := by
  rw [cell_of_row w b o cs.toArray T (0, 0) h]
  simp
theorem BlkIs.frozen {w : World} {b : Nat} {cs : List Value} {T : TypeId} (h : BlkIs w b cs T) (o : Nat) : w.frozen? ⟨b, o, none⟩ = false := by
  have hb : w.heap[b]? = some (.cells cs.toArray T (0, 0)) := h
  simp [World.frozen?, hb]
theorem BlkIs.there {w : World} {b : Nat} {cs : List Value} {T : TypeId} (h : BlkIs w b cs T) {o n : Nat} (hn : o + n ≤ cs.length) : w.there b o n := fun j hj => by
  refine ⟨?_, h.frozen _⟩
  rw [h.cell, List.getElem?_eq_getElem (by omega)]
  rfl
theorem BlkIs.range {w : World} {b : Nat} {cs vs : List Value} {T : TypeId} {o : Nat} (h : BlkIs w b cs T) (hv : ∀ j v, vs[j]? = some v → cs[o + j]? = some v) : w.rangeAt b o vs := fun j v hj => by
  rw [h.cell]
  exact hv j v hj
theorem BlkIs.whole {w : World} {b : Nat} {cs : List Value} {T : TypeId} (h : BlkIs w b cs T) : w.rangeAt b 0 cs := h.range (fun j v hj => by rwa [Nat.zero_add])
theorem BlkIs.alloc (w : World) (cs : List Value) (T : TypeId) : BlkIs (w.alloc (.cells cs.toArray T)) w.heap.size cs T := (MapKept.heap_alloc w _).1
theorem BlkIs.set {w : World} {b o : Nat} {cs : List Value} {T : TypeId} (h : BlkIs w b cs T) (v : Value) : BlkIs (w.setCell ⟨b, o, none⟩ v) b (cs.set o v) T := by
  unfold BlkIs
  rw [Joins.block_setCell h]
  simp
theorem splice_len {α : Type} {L cs : List α} {o : Nat} (h : o + cs.length ≤ L.length) : (splice L o cs).length = L.length := by
  unfold splice
  simp only [List.length_append, List.length_take, List.length_drop]
  omega
theorem splice_set {α : Type} (v : α) (vs L : List α) (o : Nat) (h : o + (v :: vs).length ≤ L.length) : splice (L.set o v) (o + 1) vs = splice L o (v :: vs) := by
  have hl : o + 1 + vs.length ≤ L.length := by rw [List.length_cons] at h; omega
  unfold splice
  rw [List.take_set, List.take_succ_eq_append_getElem (by omega : o < L.length), List.set_append_right _ _ (by simp; omega)]
  have e1 : o - (L.take o).length = 0 := by simp; omega
  rw [e1, List.set_cons_zero, List.append_assoc, List.drop_set_of_lt (by omega), List.length_cons, List.cons_append, List.nil_append, List.cons_append]
  rw [show o + 1 + vs.length = o + (vs.length + 1) by omega]
theorem BlkIs.sets {b : Nat} {T : TypeId} : ∀ (vs : List Value) (o : Nat) (w : World) (cs : List Value), BlkIs w b cs T → o + vs.length ≤ cs.length → BlkIs (w.setCells b o vs) b (splice cs o vs) T
  | [], o, w, cs, h, _ => by
    have : splice cs o ([] : List Value) = cs := by simp [splice]
    rw [this]
    exact h
  | v :: vs, o, w, cs, h, hl => by
    rw [← splice_set v vs cs o hl]
    rw [World.setCells]
    refine BlkIs.sets vs (o + 1) _ _ (h.set v) ?_
    rw [List.length_set]
    rw [List.length_cons] at hl
    omega
theorem setCells_size (b : Nat) : ∀ (vs : List Value) (o : Nat) (w : World), (w.setCells b o vs).heap.size = w.heap.size
  | [], _, _ => rfl
  | v :: vs, o, w => by
    rw [World.setCells, setCells_size b vs (o + 1)]
    simp
theorem setCells_other {b q : Nat} (hne : q ≠ b) : ∀ (vs : List Value) (o : Nat) (w : World), (w.setCells b o vs).heap[q]? = w.heap[q]?
  | [], _, _ => rfl
  | v :: vs, o, w => by
    rw [World.setCells, setCells_other hne vs (o + 1)]
    exact Below.heap_setCell _ _ _ _ hne
theorem below_sets {B b : Nat} (hB : B ≤ b) {a : World} : ∀ (vs : List Value) (o : Nat) (w : World), Below B a w → Below B a (w.setCells b o vs)
  | [], _, _, h => h
  | v :: vs, o, w, h => below_sets hB vs (o + 1) _ (h.setCell (p := ⟨b, o, none⟩) hB v)
/-- bytes as cells -/
def bcs (l : List UInt8) : List Value := l.map fun c => Value.int .u8 (c.toNat : Int)
theorem bcs_len (l : List UInt8) : (bcs l).length = l.length := by simp [bcs]
theorem bcs_one (l : List UInt8) : ∀ v ∈ bcs l, v.oneCell' = true := by
  intro v hv
  simp only [bcs, List.mem_map] at hv
  obtain ⟨c, _, rfl⟩ := hv
  rfl
theorem bcs_oneA (l : List UInt8) : (bcs l).toArray.all (·.oneCell') = true := all_oneCell_toArray (bcs_one l)
theorem bcs_get {l : List UInt8} {j : Nat} (hj : j < l.length) : (bcs l)[j]? = some (.int .u8 ((l[j]!).toNat : Int)) := by
  simp [bcs, hj, getElem!_pos l j hj]
theorem bcs_append (a b : List UInt8) : bcs (a ++ b) = bcs a ++ bcs b := by simp [bcs]
theorem bcs_take (a : List UInt8) (k : Nat) : (bcs a).take k = bcs (a.take k) := by simp [bcs]
theorem bcs_drop (a : List UInt8) (k : Nat) : (bcs a).drop k = bcs (a.drop k) := by simp [bcs]
theorem bcs_splice (l : List UInt8) (o : Nat) (c : List UInt8) : splice (bcs l) o (bcs c) = bcs (splice l o c) := by simp [splice, bcs_append, bcs_take, bcs_drop, bcs_len]
/-- what turns one block alone -/
def KeptG (g : Nat) (w w' : World) : Prop := (∀ B, B ≤ g → Below B w w') ∧ (∀ q, q ≠ g → w'.heap[q]? = w.heap[q]?) ∧ w'.heap.size = w.heap.size
theorem KeptG.refl (g : Nat) (w : World) : KeptG g w w := ⟨fun B _ => Below.refl B _, fun _ _ => rfl, rfl⟩
theorem KeptG.trans {g : Nat} {w w1 w2 : World} (h : KeptG g w w1) (k : KeptG g w1 w2) : KeptG g w w2 :=
  ⟨fun B hB => (h.1 B hB).trans (k.1 B hB), fun q h1 => (k.2.1 q h1).trans (h.2.1 q h1), k.2.2.trans h.2.2⟩
theorem KeptG.cell {g : Nat} {w w' : World} (h : KeptG g w w') {q o : Nat} (hne : q ≠ g) : w'.cell? ⟨q, o, none⟩ = w.cell? ⟨q, o, none⟩ := World.cell?_of_block (w := w) (a := ⟨q, o, none⟩) (h.2.1 q hne)
theorem KeptG.blk {g q : Nat} {w w' : World} {cs : List Value} {T : TypeId} (h : KeptG g w w') (hb : BlkIs w q cs T) (hne : q ≠ g) : BlkIs w' q cs T := hb.of (h.2.1 q hne)
theorem KeptG.set (g i : Nat) (w : World) (v : Value) : KeptG g w (w.setCell ⟨g, i, none⟩ v) :=
  ⟨fun B hB => (Below.refl B w).setCell (p := ⟨g, i, none⟩) hB _, fun q h => Below.heap_setCell _ _ _ _ h, by simp⟩
theorem KeptG.sets (g i : Nat) (w : World) (vs : List Value) : KeptG g w (w.setCells g i vs) :=
  ⟨fun B hB => below_sets hB vs i w (Below.refl B w), fun q h => setCells_other h vs i w, setCells_size g vs i w⟩
theorem KeptG.drew (g : Nat) (w : World) : KeptG g w w.drew := ⟨fun B _ => (Below.refl B w).drew, fun _ _ => rfl, rfl⟩
theorem KeptG.below {g : Nat} {w0 w w' : World} {B : Nat} (h : Below B w0 w) (k : KeptG g w w') (hB : B ≤ g) : Below B w0 w' := h.trans (k.1 B hB)
/-- a string is copied over -/
theorem wpList_copy_string {P : Program} {w : World} {ops : Array Oper} {rest : List Oper} {o : Oper} {a : Act} {Q : Exit → Act → World → Prop} (hgd : o.guard = none) (d s : Operand) (dT sT : TypeId)
    (ho : o.op = .call { callee := .builtin .copy, args := #[d, s], argTypes := #[dT, sT] }) (elem : TypeId) (hu : P.underlying dT = some (.slice elem)) (hz : ∀ w, (Go.sizeOf elem).run P w = .ok 1 w)
    (b off dLen dCap : Nat) (hd : a.eval d = .slice (some ⟨b, off, none⟩) dLen dCap) (l : List UInt8) (hs : a.eval s = .string ⟨l.toArray⟩) (hle : l.length ≤ dLen) (ht : w.there b off l.length)
    (h : wpList P ops Q rest (a.put o.dst (goInt l.length)) (w.setCells b off (bcs l))) : wpList P ops Q (o :: rest) a w := by
  refine wpList_plain hgd fun _ hK => ?_
  have hrun := Go.run_copy_string (P := P) w dT sT o.type elem b off dLen dCap ⟨l.toArray⟩ hu hz hle (fun j hj => (ht j hj).1) (fun j hj => (ht j hj).2)
  unfold Oper.wp execOp
  simp only [ho, resolve, invoke, builtin, Sem.run_bind, Sem.run_pure, Result.andThen_ok, List.map_toArray, List.map_cons, List.map_nil, hd, hs, hrun]
  exact hK _ _ h
/-- bytes are copied from row to row -/
theorem wpList_copy_rows {P : Program} {w : World} {ops : Array Oper} {rest : List Oper} {o : Oper} {a : Act} {Q : Exit → Act → World → Prop} (hgd : o.guard = none) (d s : Operand) (dT sT : TypeId)
    (ho : o.op = .call { callee := .builtin .copy, args := #[d, s], argTypes := #[dT, sT] }) (elem : TypeId) (hu : P.underlying dT = some (.slice elem)) (hsz : (P.info? elem).map (·.size) = some 1)
    (g off dLen dCap q qo sLen sCap : Nat) (hd : a.eval d = .slice (some ⟨g, off, none⟩) dLen dCap) (hs : a.eval s = .slice (some ⟨q, qo, none⟩) sLen sCap) (L c : List UInt8) (T : TypeId) (hg : BlkIs w g (bcs L) T)
    (hn : c.length = Nat.min sLen dLen) (hsrc : w.rangeAt q qo (bcs c)) (hfit : off + c.length ≤ L.length)
    (h : ∀ w', BlkIs w' g (bcs (splice L off c)) T → KeptG g w w' → wpList P ops Q rest (a.put o.dst (goInt c.length)) w') : wpList P ops Q (o :: rest) a w := by
  by_cases h0 : c.length = 0
  · obtain rfl : c = [] := List.eq_nil_of_length_eq_zero h0
    refine wpList_copy_nothing hgd d s dT sT ho elem hu hsz _ _ dLen dCap sLen sCap hd hs (by simpa using hn.symm) ?_
    exact h w (by simpa [splice] using hg) (KeptG.refl _ _)
  · refine wpList_copy_own hgd d s dT sT ho elem hu hsz g off dLen dCap ⟨q, qo, none⟩ sLen sCap hd hs (bcs L).toArray T hg (bcs c) (by rw [bcs_len]; exact hn) (fun j v hv => by rw [Addr.add_mid]; exact hsrc j v hv) (by simpa [bcs_len] using hfit) (bcs_one c) ?_
    rw [bcs_len]
    refine h _ ?_ ⟨fun B hB => below_setRow (Below.refl B w) hB _, fun q' hq' => setRow_other w g q' _ hq', by simp [World.setRow]⟩
    rw [← bcs_splice]
    have := setRow_heap w g (bcs L).toArray (splice (bcs L) off (bcs c)).toArray T _ hg
    simpa [BlkIs, splice, bcs_len] using this
/-- a value of its own size into the block that was made last -/
theorem wpList_store_new {P : Program} {ops : Array Oper} {rest : List Oper} {op : Oper} {a : Act} {Q : Exit → Act → World → Prop} (hgd : op.guard = none) (ty : TypeId) (x y : Operand) (ho : op.op = .store ty x y)
    (w0 : World) (c c' : Array Value) (hx : a.eval x = .pointer (some ⟨w0.heap.size, 0, none⟩)) (hy : a.eval y = .agg c') (hi : (P.info? ty).map (·.size) = some c'.size) (hc : c.size = c'.size) (h1 : c'.all (·.oneCell') = true)
    (h : wpList P ops Q rest (a.put op.dst undef) (w0.alloc (.cells c' ty))) : wpList P ops Q (op :: rest) a (w0.alloc (.cells c ty)) := by
  refine wpList_plain hgd fun _ hK => ?_
  unfold Oper.wp execOp
  simp only [ho, hx, hy, run_storeAt_new w0 ty c c' hi hc h1, Sem.run_bind, Result.andThen_ok, Sem.run_pure]
  exact hK _ _ h
/-- a row of bytes as a string -/
theorem run_bytes {P : Program} {w : World} {b o k cap : Nat} {src dst e : TypeId} {L l : List UInt8} {T : TypeId} (hs : P.underlying src = some (.slice e)) (he : P.underlying e = some (.int .u8)) (hd : P.underlying dst = some .string)
    (h : BlkIs w b (bcs L) T) (hk : k = l.length) (hl : ∀ j, j < l.length → L[o + j]? = l[j]?) :
    (convert src dst (.slice (some ⟨b, o, none⟩) k cap)).run P w = .ok (.string ⟨l.toArray⟩) w := by
  subst hk
  refine run_convert_bytes_back (P := P) w src dst e ⟨b, o, none⟩ cap l hs he hd (fun j hj => ?_)
  rw [Addr.add_mid, h.cell]
  have := hl j hj
  rw [List.getElem?_eq_getElem hj] at this
  simp [bcs, this]
end Go.Proofs.YtefnkoofgpmmmaaGreatDoor

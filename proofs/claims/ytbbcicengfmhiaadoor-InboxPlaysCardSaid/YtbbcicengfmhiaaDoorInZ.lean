/- What adds to one row leaves the other alone. No program here but a type's number. -/
import Derived.Test.YtbbcicengfmhiaaDoorInU
import Derived.Test.YtbbcicengfmhiaaDoorInP
import Derived.Test.YtbbcicengfmhiaaDoorAppN
namespace Go.Proofs.YtbbcicengfmhiaaDoor
set_option maxRecDepth 100000
open Go.RowKit

/-- what turns a row's block alone -/
def KeptV (base : Nat) (v : Value) (w w' : World) : Prop := (∀ B, B ≤ base → Below B w w') ∧ (∀ q, q < w.heap.size → v.ownBlock ≠ some q → w'.heap[q]? = w.heap[q]?) ∧ w.heap.size ≤ w'.heap.size
theorem owns_lt {w : World} {base : Nat} {e : TypeId} {size : Nat} {v : Value} {n : Nat} {xs : List Value} (h : w.ownsRow base e size v n xs) : ∀ q, v.ownBlock = some q → q < w.heap.size := by
  intro q hq
  rcases h.2 with ⟨rfl, _⟩ | ⟨g, cap, cur, rfl, _, hg, _⟩
  · simp [Value.ownBlock] at hq
  · simp [Value.ownBlock] at hq
    subst hq
    exact (Array.getElem?_eq_some_iff.1 hg).1
theorem wpList_appRN {X : World} {ops : Array Oper} {rest : List Oper} {o : Oper} {a : Act} {Q : Exit → Act → World → Prop} (hgd : o.guard = none) (s x : Operand) (ho : o.op = .call { callee := .builtin .append, args := #[s, x], argTypes := #[71, 71] })
    (base : Nat) (v : Value) (l : List Rel) (r : Rel) (hs : a.eval s = v) (hown : OwnR X base v l) (hx : a.eval x = .slice (some ⟨X.heap.size, 0, none⟩) 1 1) (hl : l.length ≤ 1000) (hbase : base ≤ X.heap.size)
    (h : ∀ v' w', Hid (OwnR w' base v' (snocR l r)) → Hid (KeptV base v X w') → Hid (v'.ownBlock = v.ownBlock ∨ ∀ q, v'.ownBlock = some q → X.heap.size ≤ q) → wpList Tryd.prog ops Q rest (a.put o.dst v') w') : wpList Tryd.prog ops Q (o :: rest) a (X.alloc (.cells (encR r).toArray 75)) := by
  obtain ⟨i0, z, hi, hz0, hz1, hz2, hzs⟩ := info_cloneR
  have hb := below1 X (.cells (encR r).toArray 75)
  refine wpList_append_ownN hgd s x 71 ho base 75 i0 z 5 48 Tryd.underlying71 hi hz0 hz1 hz2 hzs (by decide) v l.length (l.flatMap encR) hs (owns_below hown hb) ⟨X.heap.size, 0, none⟩ 1 1 (encR r) hx (by rw [encR_len]) ?_ (by simp [encR, Value.oneCell']) (by unfold maxLen; omega) (by omega) (Nat.le_trans hbase hb.size) ?_
  · intro j u hj
    rw [Go.WideShapes.add_plain, Nat.zero_add]
    exact (BlkIs.alloc X (encR r) 75).cell j |>.trans hj
  · intro v' w' ho' hg hw
    refine h v' w' (Lib.hid (by unfold OwnR snocR; rw [List.length_append, List.flatMap_append]; simpa using ho')) (Lib.hid ⟨fun B hB => ((hb.mono (by omega)).grown hg (by have := hb.size; omega) (fun k hk => by have := owns_block hown k hk; omega)), fun q hq hne => (hg.block q (Nat.lt_of_lt_of_le hq hb.size) (fun e => hne e.symm)).trans (hb.block q hq), Nat.le_trans hb.size hg.size⟩) (Lib.hid ?_)
    rcases hw with e | e
    · exact .inl e
    · exact .inr fun q hq => Nat.le_trans hb.size (e q hq)
theorem IbAt.keptV {b base : Nat} {cv v : Value} {l : List Rel} {w w' : World} (h : IbAt b cv l w) (hk : KeptV base v w w') (h1 : v.ownBlock ≠ some b) (h2 : ∀ q, cv.ownBlock = some q → v.ownBlock ≠ some q) : IbAt b cv l w' :=
  ⟨h.1.of (hk.2.1 b h.1.lt h1), owns_kept h.2 (fun k hkk => hk.2.1 k (owns_lt h.2 k hkk) (h2 k hkk))⟩
theorem OwnR.keptI {b base : Nat} {cv v : Value} {l : List Rel} {w w' : World} (h : OwnR w base v l) (hk : KeptI b cv w w') (hb : b < base) (h2 : ∀ q, cv.ownBlock = some q → v.ownBlock ≠ some q) : OwnR w' base v l :=
  owns_kept h (fun k hkk => hk.2.1 k (owns_lt h k hkk) (by have := owns_block h k hkk; omega) (fun e => h2 k e hkk))
theorem OwnR.below {base : Nat} {v : Value} {l : List Rel} {w w' : World} (h : OwnR w base v l) (hb : Below w.heap.size w w') : OwnR w' base v l := owns_below h hb
theorem OwnR.sl {base : Nat} {v : Value} {l : List Rel} {w : World} (h : OwnR w base v l) : SlAt 5 encR w v l := SlAt.of_owns (enc := encR) (k := 5) encR_len h
/-- the two rows of the statement, one beside the other -/
def TwoAt (b : Nat) (cv v : Value) (l : List Rel) (w : World) : Prop := IbAt b cv l w ∧ OwnR w (b + 1) v l ∧ ∀ q, cv.ownBlock = some q → v.ownBlock ≠ some q
theorem TwoAt.below {b : Nat} {cv v : Value} {l : List Rel} {w w' : World} (h : TwoAt b cv v l w) (hb : Below w.heap.size w w') : TwoAt b cv v l w' := ⟨h.1.below hb, h.2.1.below hb, h.2.2⟩
end Go.Proofs.YtbbcicengfmhiaaDoor

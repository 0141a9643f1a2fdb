/- The document's reading of a text, byte by byte; how its lines lie in memory. No function of the program here. -/
import Derived.Test.YtefnkoofgpmmmaaGreatDoorN5
namespace Go.Proofs.YtefnkoofgpmmmaaGreatDoor
set_option maxRecDepth 100000
open Go.RowKit

structure StR where
  out : List (List WordV)
  line : List WordV
  wt : ByteArray
  wa : Int
def StR.init : StR := ⟨[], [], ⟨#[]⟩, 0⟩
def wordC (c : UInt8) : Bool := decide (32 < c.toNat) && decide (c.toNat < 127)
def StR.pushW (st : StR) : StR := if st.wt.size = 0 then st else { st with line := st.line ++ [(st.wt, st.wa)], wt := ⟨#[]⟩, wa := 0 }
def StR.pushL (st : StR) : StR := if st.line = [] then st else { st with out := st.out ++ [st.line], line := [] }
def StR.addC (st : StR) (i : Nat) (t : ByteArray) : StR := { st with wt := st.wt ++ t, wa := if st.wt.size = 0 then (i : Int) else st.wa }
def stepR (s : ByteArray) (st : StR) (i : Nat) (c : UInt8) : Option StR :=
  if wordC c = true then some (st.addC i (s.extract i (i + 1)))
  else if c.toNat = 10 then some st.pushW.pushL
  else if c.toNat = 32 then some st.pushW
  else none
def cAt (s : ByteArray) (i : Nat) : UInt8 := if h : i < s.size then s[i] else 10
def runR (s : ByteArray) : Nat → Option StR
  | 0 => some StR.init
  | k + 1 => (runR s k).bind (fun st => stepR s st k (cAt s k))
/-- what the document's Lines hands back -/
def refErr (s : ByteArray) : Int × Int := if 600 < s.size then (16, 600) else match (List.range (s.size + 1)).find? (fun k => (runR s (k + 1)).isNone) with
  | some k => (3, (k : Int))
  | none => (0, 0)
def refLn (s : ByteArray) : List (List WordV) := if 600 < s.size then [] else match runR s (s.size + 1) with
  | some st => st.out
  | none => []
theorem runR_none {s : ByteArray} {k : Nat} (h : runR s k = none) : ∀ m, k ≤ m → runR s m = none := by
  intro m hm
  induction m with
  | zero => have : k = 0 := by omega
            subst this; exact h
  | succ m ih =>
    by_cases e : k = m + 1
    · subst e; exact h
    · rw [runR, ih (by omega)]; rfl
theorem ref_bad {s : ByteArray} (h6 : s.size ≤ 600) {k : Nat} (hk : k ≤ s.size) {st : StR} (h1 : runR s k = some st) (h2 : stepR s st k (cAt s k) = none) : refErr s = (3, (k : Int)) ∧ refLn s = [] := by
  have h3 : runR s (k + 1) = none := by rw [runR, h1]; exact h2
  have h4 : (List.range (s.size + 1)).find? (fun k => (runR s (k + 1)).isNone) = some k := by
    rw [List.find?_eq_some_iff_append]
    refine ⟨by rw [h3]; rfl, List.range k, (List.range (s.size - k)).map (· + (k + 1)), ?_, ?_⟩
    · have e : s.size + 1 = k + (1 + (s.size - k)) := by omega
      rw [e, List.range_add, List.range_add]
      simp [Nat.add_comm, Nat.add_left_comm]
    · intro a ha
      have hlt := List.mem_range.1 ha
      cases hr : runR s (a + 1) with
      | none => rw [runR_none hr k (by omega)] at h1; cases h1
      | some x => rfl
  unfold refErr refLn
  rw [if_neg (by omega), if_neg (by omega), h4, runR_none h3 (s.size + 1) (by omega)]
  exact ⟨rfl, rfl⟩
theorem ref_fine {s : ByteArray} (h6 : s.size ≤ 600) {st : StR} (h1 : runR s (s.size + 1) = some st) : refErr s = (0, 0) ∧ refLn s = st.out := by
  have h4 : (List.range (s.size + 1)).find? (fun k => (runR s (k + 1)).isNone) = none := by
    rw [List.find?_eq_none]
    intro a ha
    have hlt := List.mem_range.1 ha
    cases hr : runR s (a + 1) with
    | none => rw [runR_none hr (s.size + 1) (by omega)] at h1; cases h1
    | some x => simp
  unfold refErr refLn
  rw [if_neg (by omega), if_neg (by omega), h4, h1]
  exact ⟨rfl, rfl⟩
theorem ref_long {s : ByteArray} (h6 : 600 < s.size) : refErr s = (16, 600) ∧ refLn s = [] := by
  unfold refErr refLn
  rw [if_pos h6, if_pos h6]
  exact ⟨rfl, rfl⟩

theorem owns_type {w : World} {base base' : Nat} {e e' : TypeId} {size size' n n' : Nat} {v v' : Value} {xs xs' : List Value} (h : w.ownsRow base e size v n xs) (h' : w.ownsRow base' e' size' v' n' xs') (hne : e ≠ e') {q : Nat} (hq : v.ownBlock = some q) : v'.ownBlock ≠ some q := by
  intro hq'
  rcases h.2 with ⟨rfl, _⟩ | ⟨g, cap, cur, rfl, _, hg, _⟩
  · cases hq
  · rcases h'.2 with ⟨rfl, _⟩ | ⟨g', cap', cur', rfl, _, hg', _⟩
    · cases hq'
    · obtain rfl : g = q := by simpa [Value.ownBlock] using hq
      obtain rfl : g' = g := by simpa [Value.ownBlock] using hq'
      rw [hg] at hg'
      simp at hg'
      exact hne hg'.2
/-- the document's state, as it lies -/
structure R7 (w : World) (bw base : Nat) (T1 T2 : TypeId) (v5 v6 : Value) (svs : List Value) (st : StR) (W : World) : Prop where
  ln : LnAt T1 base v5 svs st.out W
  own : W.ownsRow base T2 2 v6 st.line.length (flat encW st.line)
  dis : ∀ j, j < st.out.length → ∀ q, svs[j]!.ownBlock = some q → v6.ownBlock ≠ some q
  box : BlkIs W bw [.string st.wt, .int .i64 st.wa] T2
  blw : Below w.heap.size w W
  b1 : w.heap.size ≤ bw
  b2 : bw < base
section
variable {w W W' : World} {bw base : Nat} {T1 T2 : TypeId} {v5 v6 v' : Value} {svs : List Value} {st : StR}
/-- the word's box is written -/
theorem R7.setw (h : R7 w bw base T1 T2 v5 v6 svs st W) (t : ByteArray) (a : Int) {W' : World} (hs : W'.heap.size = W.heap.size) (hb : ∀ q, q ≠ bw → W'.heap[q]? = W.heap[q]?) (hbx : BlkIs W' bw [.string t, .int .i64 a] T2) (hbl : Below w.heap.size w W') :
    R7 w bw base T1 T2 v5 v6 svs { st with wt := t, wa := a } W' := by
  have h2 := h.b2
  exact ⟨h.ln.of (Nat.le_of_eq hs.symm) (fun q hq _ => hb q (by omega)), owns_keptI h.own (fun q hq => hb q (by have := owns_block h.own q hq; omega)), h.dis, hbx, hbl, h.b1, h.b2⟩
theorem R7.below (h : R7 w bw base T1 T2 v5 v6 svs st W) (hb : Below W.heap.size W W') : R7 w bw base T1 T2 v5 v6 svs st W' :=
  ⟨h.ln.below hb, owns_below h.own hb, h.dis, h.box.below hb, h.blw.trans (hb.mono h.blw.size), h.b1, h.b2⟩
/-- a word is put behind the line -/
theorem R7.word (h : R7 w bw base T1 T2 v5 v6 svs st W) (hne : T1 ≠ T2) (hg : W.grownBy W' v6.ownBlock) (ho : W'.ownsRow base T2 2 v' (st.line.length + 1) (flat encW st.line ++ [.string st.wt, .int .i64 st.wa])) (hv : v'.ownBlock = v6.ownBlock ∨ v'.ownBlock = some W.heap.size) :
    R7 w bw base T1 T2 v5 v' svs { st with line := st.line ++ [(st.wt, st.wa)] } W' := by
  have h1 := h.b1
  have h2 := h.b2
  have h56 : ∀ q, v5.ownBlock = some q → v6.ownBlock ≠ some q := fun q hq => owns_type h.ln.own h.own hne hq
  refine ⟨⟨Nat.le_trans h.ln.z hg.size, h.ln.len, owns_keptI h.ln.own (fun q hq => hg.block q (owns_lt h.ln.own hq) (fun e => h56 q hq e.symm)), fun j hj => ⟨(h.ln.inn j hj).1.of_blk hg.size (fun q hq hlt => hg.block q hlt (fun e => h.dis j hj q hq e.symm)), fun q hq => ⟨((h.ln.inn j hj).2 q hq).1, Nat.lt_of_lt_of_le ((h.ln.inn j hj).2 q hq).2.1 hg.size, ((h.ln.inn j hj).2 q hq).2.2⟩⟩⟩, ?_, ?_, ?_, ?_, h1, h2⟩
  · have : flat encW (st.line ++ [(st.wt, st.wa)]) = flat encW st.line ++ [.string st.wt, .int .i64 st.wa] := by simp [flat, encW]
    show W'.ownsRow base T2 2 v' (st.line ++ [(st.wt, st.wa)]).length _
    rw [this, List.length_append, List.length_singleton]
    exact ho
  · intro j hj q hq
    rcases hv with hv | hv
    · rw [hv]; exact h.dis j hj q hq
    · rw [hv]
      intro e
      injection e with e
      have := ((h.ln.inn j hj).2 q hq).2.1
      omega
  · exact h.box.of (hg.block bw h.box.lt (fun e => by have := owns_block h.own bw e.symm; omega))
  · exact h.blw.grown hg h.blw.size (fun q hq => by have := owns_block h.own q hq; omega)
/-- the line is put behind the lines -/
theorem R7.line (h : R7 w bw base T1 T2 v5 v6 svs st W) (hne : T1 ≠ T2) (hg : W.grownBy W' v5.ownBlock) (ho : W'.ownsRow base T1 1 v' (st.out.length + 1) (svs ++ [v6])) (hv : v'.ownBlock = v5.ownBlock ∨ v'.ownBlock = some W.heap.size) :
    R7 w bw base T1 T2 v' (.slice none 0 0) (svs ++ [v6]) { st with out := st.out ++ [st.line], line := [] } W' := by
  have h1 := h.b1
  have h2 := h.b2
  have hz := h.ln.z
  refine ⟨LnAt.put h.ln v6 st.line (SlAt.of_owns encW_len h.own) (fun q hq => ⟨owns_block h.own q hq, owns_lt h.own hq, fun e => owns_type h.ln.own h.own hne e hq⟩) hg ho hv, ⟨by simp [flat], .inl ⟨rfl, rfl⟩⟩, fun j _ q _ e => (by cases e), ?_, ?_, h1, h2⟩
  · exact h.box.of (hg.block bw h.box.lt (fun e => by have := owns_block h.ln.own bw e.symm; omega))
  · exact h.blw.grown hg h.blw.size (fun q hq => by have := owns_block h.ln.own q hq; omega)
theorem R7.start (hb : Below w.heap.size w W) (hx : BlkIs W w.heap.size [.string ⟨#[]⟩, .int .i64 0] T2) (hz : base = W.heap.size) : R7 w w.heap.size base T1 T2 (.slice none 0 0) (.slice none 0 0) [] StR.init W :=
  ⟨LnAt.start (by omega), ⟨by simp [flat, StR.init], .inl ⟨rfl, rfl⟩⟩, fun j hj => absurd hj (by simp [StR.init]), hx, hb, Nat.le_refl _, by have := hx.lt; omega⟩
end
end Go.Proofs.YtefnkoofgpmmmaaGreatDoor

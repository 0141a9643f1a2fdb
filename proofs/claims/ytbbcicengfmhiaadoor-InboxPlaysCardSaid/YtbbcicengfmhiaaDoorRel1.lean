/- Releases as texts, plain: what is written is read as it was. Of the program: the readers' answers alone. -/
import Derived.Test.YtbbcicengfmhiaaDoorRel0
import Derived.Test.YtbbcicengfmhiaaDoorCod4
namespace Go.Proofs.YtbbcicengfmhiaaDoor

theorem okI_s {n : Int} (h0 : -1000000 ≤ n) (h1 : n ≤ 1000000) : okI n := ⟨by omega, by omega⟩
def relL (r : Rel) : List UInt8 := numsL [r.1, r.2.1, r.2.2.1, r.2.2.2.1] ++ textL r.2.2.2.2.data.toList
def printL (r : Rel) : List UInt8 := if rightR r = true then relL r else []
def restI (l : List Rel) (k : Nat) : List UInt8 := (l.drop k).flatMap fun r => textL (printL r)
def inbL (l : List Rel) : List UInt8 := numL (l.length : Int) ++ restI l 0
def rdS (st : List UInt8 × Bool) (hi : Int) : Int × (List UInt8 × Bool) := rdStep st.1 st.2 0 hi
def rdX (st : List UInt8 × Bool) (most : Int) : List UInt8 × (List UInt8 × Bool) := rdText st.1 st.2 most
def noR : Rel := (0, 0, 0, 0, ⟨#[]⟩)
def fiveR (s : List UInt8) : Rel × (List UInt8 × Bool) :=
  let r1 := rdS (s, false) 1000
  let r2 := rdS r1.2 3
  let r3 := rdS r2.2 15
  let r4 := rdS r3.2 7
  let r5 := rdX r4.2 32
  ((r1.1, r2.1, r3.1, r4.1, ⟨r5.1.toArray⟩), r5.2)
def readR (s : List UInt8) : Rel × Bool := if (!(fiveR s).2.2 && (fiveR s).2.1.isEmpty) = true then ((fiveR s).1, true) else (noR, false)
theorem rdS_bad (s : List UInt8) (hi : Int) : rdS (s, true) hi = (0, (s, true)) := rfl
theorem rdX_bad (s : List UInt8) (m : Int) : rdX (s, true) m = ([], (s, true)) := by simp [rdX, rdText, rdStep]
theorem rdS_num {n hi : Int} (hn : okI n) (h1 : 0 ≤ n) (h2 : n ≤ hi) (rest : List UInt8) : rdS (numL n ++ rest, false) hi = (n, (rest, false)) := by
  show rdStep (numL n ++ rest) false 0 hi = _
  refine rdStep_some ?_
  have := rdInt_num (n := n) (lo := 0) (hi := hi) rest hn.1 hn.2
  rw [if_pos ⟨h1, h2⟩] at this
  unfold numL
  simpa using this
theorem rdX_text {s : List UInt8} {m : Int} (hs : s.length ≤ 1000000) (hm : (s.length : Int) ≤ m) (rest : List UInt8) : rdX (textL s ++ rest, false) m = (s, (rest, false)) := by
  have h := rdS_num (n := (s.length : Int)) (hi := m) (okI_s (by omega) (by omega)) (by omega) hm (s ++ rest)
  unfold rdX rdText textL
  unfold rdS at h
  simp only at h ⊢
  rw [List.append_assoc, h]
  simp only [Bool.false_eq_true, if_false]
  rw [if_neg (by simp; omega)]
  simp
theorem rightR_iff {r : Rel} : rightR r = true ↔ (0 ≤ r.1 ∧ r.1 < 1001) ∧ (0 ≤ r.2.1 ∧ r.2.1 < 4) ∧ (0 ≤ r.2.2.1 ∧ r.2.2.1 < 16) ∧ (0 ≤ r.2.2.2.1 ∧ r.2.2.2.1 < 8) ∧ r.2.2.2.2.size ≤ 32 := by
  unfold rightR
  simp only [Bool.and_eq_true, inU_iff, decide_eq_true_eq]
theorem size_toList (s : ByteArray) : s.data.toList.length = s.size := by rw [Array.length_toList]; rfl
theorem readR_rel {r : Rel} (h : rightR r = true) : readR (relL r) = (r, true) := by
  obtain ⟨h1, h2, h3, h4, h5⟩ := rightR_iff.1 h
  obtain ⟨a, b, c, d, s⟩ := r
  have hs := size_toList s
  dsimp only at h1 h2 h3 h4 h5
  have e1 := rdS_num (n := a) (hi := 1000) (okI_s (by omega) (by omega)) (by omega) (by omega) (numL b ++ (numL c ++ (numL d ++ (textL s.data.toList ++ []))))
  have e2 := rdS_num (n := b) (hi := 3) (okI_s (by omega) (by omega)) (by omega) (by omega) (numL c ++ (numL d ++ (textL s.data.toList ++ [])))
  have e3 := rdS_num (n := c) (hi := 15) (okI_s (by omega) (by omega)) (by omega) (by omega) (numL d ++ (textL s.data.toList ++ []))
  have e4 := rdS_num (n := d) (hi := 7) (okI_s (by omega) (by omega)) (by omega) (by omega) (textL s.data.toList ++ [])
  have e5 := rdX_text (s := s.data.toList) (m := 32) (by omega) (by omega) []
  have hL : relL (a, b, c, d, s) = numL a ++ (numL b ++ (numL c ++ (numL d ++ (textL s.data.toList ++ [])))) := by simp [relL, numsL]
  have hf : fiveR (relL (a, b, c, d, s)) = ((a, b, c, d, s), ([], false)) := by
    rw [hL]
    simp only [fiveR, e1, e2, e3, e4, e5]
  simp only [readR, hf]
  rfl
theorem readR_nil : readR [] = (noR, false) := by
  have e1 : rdS ([], false) 1000 = (0, ([], true)) := by
    show rdStep [] false 0 1000 = _
    exact rdStep_none (rdInt_miss [] (fun c hc => by simp at hc))
  have hf : fiveR [] = (noR, ([], true)) := by
    simp only [fiveR, e1, rdS_bad, rdX_bad]
    rfl
  simp only [readR, hf]
  rfl
theorem readR_print (r : Rel) : readR (printL r) = if rightR r = true then (r, true) else (noR, false) := by
  unfold printL
  split
  · rename_i h; exact readR_rel h
  · exact readR_nil
theorem numsL4_len {a b c d : Int} (ha : okI a) (hb : okI b) (hc : okI c) (hd : okI d) : (numsL [a, b, c, d]).length ≤ 88 := by
  have h1 := numL_len ha
  have h2 := numL_len hb
  have h3 := numL_len hc
  have h4 := numL_len hd
  simp only [numsL, List.flatMap_cons, List.flatMap_nil, List.append_nil, List.length_append]
  omega
theorem textL_len {s : List UInt8} (h : s.length ≤ 1000000) : (textL s).length ≤ s.length + 22 := by
  have := numL_len (n := (s.length : Int)) (okI_s (by omega) (by omega))
  simp only [textL, List.length_append]
  omega
theorem printL_len (r : Rel) : (printL r).length ≤ 142 := by
  unfold printL
  split
  · rename_i h
    obtain ⟨h1, h2, h3, h4, h5⟩ := rightR_iff.1 h
    have a1 := numsL4_len (a := r.1) (b := r.2.1) (c := r.2.2.1) (d := r.2.2.2.1) (okI_s (by omega) (by omega)) (okI_s (by omega) (by omega)) (okI_s (by omega) (by omega)) (okI_s (by omega) (by omega))
    have a2 := textL_len (s := r.2.2.2.2.data.toList) (by have := size_toList r.2.2.2.2; omega)
    have a3 := size_toList r.2.2.2.2
    simp only [relL, List.length_append]
    omega
  · simp
theorem restI_succ {l : List Rel} {k : Nat} (hk : k < l.length) : restI l k = textL (printL l[k]!) ++ restI l (k + 1) := by
  unfold restI
  rw [List.drop_eq_getElem_cons hk, List.flatMap_cons, getElem!_pos l k hk]
theorem restI_end {l : List Rel} : restI l l.length = [] := by simp [restI]
theorem restI_len (l : List Rel) : ∀ k, (restI l k).length ≤ l.length * 164 := by
  intro k
  have : ∀ m : List Rel, (m.flatMap fun r => textL (printL r)).length ≤ m.length * 164 := by
    intro m
    induction m with
    | nil => simp
    | cons x m ih =>
      have h1 := printL_len x
      have h2 := textL_len (s := printL x) (by omega)
      simp only [List.flatMap_cons, List.length_append, List.length_cons]
      omega
  have h := this (l.drop k)
  rw [List.length_drop] at h
  unfold restI
  omega
/-- the first k written -/
def inbP (l : List Rel) (k : Nat) : List UInt8 := numL (l.length : Int) ++ (l.take k).flatMap fun r => textL (printL r)
theorem inbP_zero (l : List Rel) : inbP l 0 = numL (l.length : Int) := by simp [inbP]
theorem inbP_end (l : List Rel) : inbP l l.length = inbL l := by simp [inbP, inbL, restI]
theorem inbP_succ {l : List Rel} {k : Nat} (hk : k < l.length) : inbP l (k + 1) = inbP l k ++ textL (printL l[k]!) := by
  unfold inbP
  rw [List.take_succ_eq_append_getElem hk, getElem!_pos l k hk, List.flatMap_append, List.append_assoc]
  simp
theorem inbP_len {l : List Rel} (hl : l.length ≤ 1000000) : ∀ k, k ≤ l.length → (inbP l k).length ≤ 22 + k * 164 := by
  intro k
  induction k with
  | zero =>
    intro _
    rw [inbP_zero]
    have := numL_len (n := (l.length : Int)) (okI_s (by omega) (by omega))
    omega
  | succ k ih =>
    intro hk
    have h0 := ih (by omega)
    have h1 := printL_len l[k]!
    have h2 := textL_len (s := printL l[k]!) (by omega)
    rw [inbP_succ (by omega), List.length_append]
    omega
theorem printL_of {r : Rel} (h : rightR r = true) : printL r = relL r := by rw [printL, if_pos h]
end Go.Proofs.YtbbcicengfmhiaaDoor

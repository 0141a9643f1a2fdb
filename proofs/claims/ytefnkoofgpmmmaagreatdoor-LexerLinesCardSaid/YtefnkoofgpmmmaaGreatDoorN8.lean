/- The document's lines are the program's. No program here. A line's words lie in the text where they say. No program here. -/
import Derived.Test.YtefnkoofgpmmmaaGreatDoorLxR
namespace Go.Proofs.YtefnkoofgpmmmaaGreatDoor
set_option maxRecDepth 100000

def mkB (l : List UInt8) : ByteArray := ⟨l.toArray⟩
theorem mkB_size (l : List UInt8) : (mkB l).size = l.length := by simp [mkB, ByteArray.size]
theorem mkB_app (a b : List UInt8) : mkB a ++ mkB b = mkB (a ++ b) := by
  apply ByteArray.ext
  simp [mkB, ByteArray.data_append]
def stepL (st : StR) (i : Nat) (c : UInt8) : Option StR :=
  if wordC c = true then some (st.addC i (mkB [c]))
  else if c.toNat = 10 then some st.pushW.pushL
  else if c.toNat = 32 then some st.pushW
  else none
def goL : StR → Nat → List UInt8 → Option StR
  | st, _, [] => some st
  | st, i, c :: r => (stepL st i c).bind (fun st' => goL st' (i + 1) r)
theorem goL_snoc (c : UInt8) : ∀ (l : List UInt8) (st : StR) (i : Nat), goL st i (l ++ [c]) = (goL st i l).bind (fun st' => stepL st' (i + l.length) c)
  | [], st, i => by
    simp only [List.nil_append, goL, List.length_nil, Nat.add_zero, Option.bind_some]
    cases stepL st i c <;> rfl
  | d :: l, st, i => by
    simp only [List.cons_append, goL, List.length_cons]
    cases stepL st i d with
    | none => rfl
    | some st' =>
      simp only [Option.bind_some]
      rw [goL_snoc c l st' (i + 1)]
      have : i + 1 + l.length = i + (l.length + 1) := by omega
      rw [this]
theorem step_eq {s : ByteArray} {st : StR} {i : Nat} (hi : i ≤ s.size) : stepR s st i (cAt s i) = stepL st i (cAt s i) := by
  by_cases h : i < s.size
  · have e : s.extract i (i + 1) = mkB [cAt s i] := by
      have hc : cAt s i = s[i] := by unfold cAt; rw [dif_pos h]
      rw [hc]
      apply ByteArray.ext
      apply Array.ext
      · simp [mkB, ByteArray.data_extract]
        omega
      · intro j h1 h2
        simp [mkB] at h2
        subst h2
        simp [mkB, ByteArray.data_extract]
        rfl
    unfold stepR stepL
    rw [e]
  · have hc : cAt s i = 10 := by unfold cAt; rw [dif_neg h]
    rw [hc]
    rfl
theorem run_go (s : ByteArray) : ∀ k, k ≤ s.size + 1 → runR s k = goL StR.init 0 ((s.data.toList ++ [10]).take k)
  | 0, _ => rfl
  | k + 1, hk => by
    have hl : (s.data.toList ++ [10]).length = s.size + 1 := by simp
    have hc : (s.data.toList ++ [10])[k]'(by omega) = cAt s k := by
      unfold cAt
      by_cases h : k < s.size
      · rw [dif_pos h, List.getElem_append_left (by simpa using h)]
        rfl
      · rw [dif_neg h, List.getElem_append_right (by simp; omega)]
        simp
    rw [List.take_succ_eq_append_getElem (by omega), goL_snoc, ← run_go s k (by omega), hc, runR]
    have hlen : 0 + ((s.data.toList ++ [10]).take k).length = k := by rw [List.length_take]; omega
    rw [hlen]
    cases runR s k with
    | none => rfl
    | some st => exact step_eq (by omega)
/-- the words of a line's rest, a word being under way -/
def addW (wt : ByteArray) (wa : Int) (i : Nat) : List (List UInt8) → List WordV
  | [] => []
  | q :: qs => (if wt.size + q.length = 0 then [] else [(wt ++ mkB q, if wt.size = 0 then (i : Int) else wa)]) ++ wds ((i : Int) + q.length + 1) (qs.map mkB)
def restL (line : List WordV) (wt : ByteArray) (wa : Int) (i : Nat) : List (List UInt8) → List (List WordV)
  | [] => []
  | p :: ps => (if line ++ addW wt wa i (pcs 32 p) = [] then [] else [line ++ addW wt wa i (pcs 32 p)]) ++ lnsL ((i : Int) + p.length + 1) (ps.map mkB)
theorem empty_app (b : ByteArray) (wt : ByteArray) (h : wt.size = 0) : wt ++ b = b := by
  have : wt = ⟨#[]⟩ := by
    apply ByteArray.ext
    exact Array.eq_empty_of_size_eq_zero h
  rw [this]
  apply ByteArray.ext
  simp [ByteArray.data_append]
theorem addW_empty {wt : ByteArray} (h : wt.size = 0) (wa : Int) (i : Nat) : ∀ qs : List (List UInt8), addW wt wa i qs = wds i (qs.map mkB)
  | [] => rfl
  | q :: qs => by
    rw [addW, List.map_cons, wds, mkB_size, h, Nat.zero_add, if_pos rfl, empty_app _ _ h]
theorem wordsL_mk (a : Int) (p : List UInt8) : wordsL a (mkB p) = wds a ((pcs 32 p).map mkB) := rfl
theorem restL_empty {wt : ByteArray} (h : wt.size = 0) (wa : Int) (i : Nat) : ∀ ps : List (List UInt8), restL [] wt wa i ps = lnsL i (ps.map mkB)
  | [] => rfl
  | p :: ps => by
    rw [restL, List.map_cons, lnsL, List.nil_append, addW_empty h, wordsL_mk, mkB_size]
theorem pushW_nil {st : StR} (h : st.wt.size = 0) : st.pushW = st := by unfold StR.pushW; rw [if_pos h]
theorem pushW_size (st : StR) : st.pushW.wt.size = 0 := by
  unfold StR.pushW
  split
  · assumption
  · rfl
theorem pushW_line (st : StR) (i : Nat) : st.pushW.line = st.line ++ addW st.wt st.wa i [[]] ∧ st.pushW.out = st.out := by
  unfold StR.pushW
  by_cases h : st.wt.size = 0
  · rw [if_pos h, addW]
    simp [h, wds]
  · rw [if_neg h, addW]
    have e : st.wt ++ mkB [] = st.wt := by apply ByteArray.ext; simp [mkB, ByteArray.data_append]
    simp [h, wds, e]
theorem pushL_props (st : StR) : st.pushL.line = [] ∧ st.pushL.wt = st.wt ∧ st.pushL.out = st.out ++ (if st.line = [] then [] else [st.line]) := by
  unfold StR.pushL
  by_cases h : st.line = []
  · rw [if_pos h]; simp [h]
  · rw [if_neg h]; simp [h]
theorem pcs_ne (c b : UInt8) (l : List UInt8) (h : ¬ (b = c)) : ∃ p ps, pcs c l = p :: ps ∧ pcs c (b :: l) = (b :: p) :: ps := by
  have h1 := (pcs_len c l).1
  cases hp : pcs c l with
  | nil => exact absurd hp h1
  | cons p ps => exact ⟨p, ps, rfl, by rw [pcs, if_neg h, hp]⟩
theorem restL_push {st : StR} {i : Nat} (p : List UInt8) (ps : List (List UInt8)) (c : UInt8) :
    st.pushW.out ++ restL st.pushW.line st.pushW.wt st.pushW.wa (i + 1) (p :: ps) = st.out ++ ((if st.line ++ addW st.wt st.wa i ([] :: pcs 32 p) = [] then [] else [st.line ++ addW st.wt st.wa i ([] :: pcs 32 p)]) ++ lnsL ((i : Int) + ((c :: p).length : Nat) + 1) (ps.map mkB)) := by
  obtain ⟨h1, h2⟩ := pushW_line st i
  have h3 : st.pushW.line ++ addW st.pushW.wt st.pushW.wa (i + 1) (pcs 32 p) = st.line ++ addW st.wt st.wa i ([] :: pcs 32 p) := by
    rw [h1, addW_empty (pushW_size st), addW, addW, List.append_assoc]
    simp [wds]
  rw [h2, restL, h3]
  have e : ((i + 1 : Nat) : Int) + (p.length : Int) + 1 = (i : Int) + ((c :: p).length : Nat) + 1 := by simp; omega
  rw [e]
theorem goL_out : ∀ (r : List UInt8) (st : StR) (i : Nat), (∀ c ∈ r, badC c = false) → ∃ st', goL st i (r ++ [10]) = some st' ∧ st'.out = st.out ++ restL st.line st.wt st.wa i (pcs 10 r)
  | [], st, i, _ => by
    refine ⟨st.pushW.pushL, rfl, ?_⟩
    obtain ⟨_, _, h3⟩ := pushL_props st.pushW
    obtain ⟨h1, h2⟩ := pushW_line st i
    rw [h3, h2, h1]
    show _ = st.out ++ restL st.line st.wt st.wa i [[]]
    rw [restL]
    simp [lnsL, pcs]
  | c :: r, st, i, h => by
    have hb := h c List.mem_cons_self
    have hr : ∀ d ∈ r, badC d = false := fun d hd => h d (List.mem_cons_of_mem _ hd)
    by_cases h10 : c.toNat = 10
    · have hc : c = 10 := UInt8.toNat_inj.1 (by rw [h10]; rfl)
      subst hc
      obtain ⟨st', g1, g2⟩ := goL_out r st.pushW.pushL (i + 1) hr
      refine ⟨st', g1, ?_⟩
      obtain ⟨p1, p2, p3⟩ := pushL_props st.pushW
      obtain ⟨h1, h2⟩ := pushW_line st i
      have hz : st.pushW.pushL.wt.size = 0 := by rw [p2]; exact pushW_size st
      rw [g2, p3, p1, restL_empty hz, h2, h1]
      show _ = st.out ++ restL st.line st.wt st.wa i (pcs 10 (10 :: r))
      have e : pcs 10 (10 :: r) = [] :: pcs 10 r := by rw [pcs, if_pos rfl]
      rw [e, restL, List.append_assoc]
      simp [pcs]
    · have hne : ¬ (c = 10) := fun e => h10 (by rw [e]; rfl)
      obtain ⟨p, ps, e1, e2⟩ := pcs_ne 10 c r hne
      by_cases h32 : c.toNat = 32
      · have hc : c = 32 := UInt8.toNat_inj.1 (by rw [h32]; rfl)
        subst hc
        obtain ⟨st', g1, g2⟩ := goL_out r st.pushW (i + 1) hr
        refine ⟨st', g1, ?_⟩
        rw [g2, e1, e2, restL_push p ps 32, restL]
        have e3 : pcs 32 (32 :: p) = [] :: pcs 32 p := by rw [pcs, if_pos rfl]
        rw [e3]
      · have hw : wordC c = true := by
          unfold badC at hb
          unfold wordC
          rw [decide_eq_false hne] at hb
          simp at hb ⊢
          omega
        obtain ⟨st', g1, g2⟩ := goL_out r (st.addC i (mkB [c])) (i + 1) hr
        have hs : stepL st i c = some (st.addC i (mkB [c])) := by unfold stepL; rw [if_pos hw]
        refine ⟨st', by rw [List.cons_append, goL, hs]; exact g1, ?_⟩
        have hne2 : ¬ (c = 32) := fun e => h32 (by rw [e]; rfl)
        obtain ⟨q, qs, e3, e4⟩ := pcs_ne 32 c p hne2
        rw [g2, e1, e2, restL, restL, e4, e3]
        have e5 : addW (st.addC i (mkB [c])).wt (st.addC i (mkB [c])).wa (i + 1) (q :: qs) = addW st.wt st.wa i ((c :: q) :: qs) := by
          have hz : (st.wt ++ mkB [c]).size = st.wt.size + 1 := by rw [ByteArray.size_append, mkB_size]; rfl
          rw [addW, addW]
          show (if (st.wt ++ mkB [c]).size + q.length = 0 then [] else [((st.wt ++ mkB [c]) ++ mkB q, if (st.wt ++ mkB [c]).size = 0 then ((i + 1 : Nat) : Int) else (if st.wt.size = 0 then (i : Int) else st.wa))]) ++ _ = _
          rw [hz, if_neg (show ¬ (st.wt.size + 1 + q.length = 0) by omega), if_neg (show ¬ (st.wt.size + 1 = 0) by omega), if_neg (show ¬ (st.wt.size + (c :: q).length = 0) by rw [List.length_cons]; omega), ByteArray.append_assoc, mkB_app]
          have e6 : ((i + 1 : Nat) : Int) + (q.length : Int) + 1 = (i : Int) + ((c :: q).length : Nat) + 1 := by simp; omega
          rw [e6]
          rfl
        have e7 : (st.addC i (mkB [c])).line = st.line := rfl
        have e8 : (st.addC i (mkB [c])).out = st.out := rfl
        have e9 : ((i + 1 : Nat) : Int) + (p.length : Int) + 1 = (i : Int) + ((c :: p).length : Nat) + 1 := by simp; omega
        rw [e5, e7, e8, e9]
theorem goL_some : ∀ (r : List UInt8) (st : StR) (i : Nat), (∀ c ∈ r, badC c = false) → ∃ st', goL st i r = some st'
  | [], st, i, _ => ⟨st, rfl⟩
  | c :: r, st, i, h => by
    have hb := h c List.mem_cons_self
    have hr : ∀ d ∈ r, badC d = false := fun d hd => h d (List.mem_cons_of_mem _ hd)
    have hs : ∃ st1, stepL st i c = some st1 := by
      unfold stepL
      by_cases h1 : wordC c = true
      · rw [if_pos h1]; exact ⟨_, rfl⟩
      · rw [if_neg h1]
        by_cases h2 : c.toNat = 10
        · rw [if_pos h2]; exact ⟨_, rfl⟩
        · rw [if_neg h2]
          by_cases h3 : c.toNat = 32
          · rw [if_pos h3]; exact ⟨_, rfl⟩
          · exfalso
            have hne : ¬ (c = 10) := fun e => h2 (by rw [e]; rfl)
            unfold badC at hb
            unfold wordC at h1
            rw [decide_eq_false hne] at hb
            simp at hb h1
            omega
    obtain ⟨st1, hs1⟩ := hs
    obtain ⟨st', h'⟩ := goL_some r st1 (i + 1) hr
    exact ⟨st', by rw [goL, hs1]; exact h'⟩
theorem step_bad {s : ByteArray} {st : StR} {i : Nat} {c : UInt8} (h : badC c = true) : stepR s st i c = none := by
  unfold badC at h
  have h1 : ¬ (c.toNat = 10) := fun e => by
    have : c = 10 := UInt8.toNat_inj.1 (by rw [e]; rfl)
    subst this
    cases h
  have h2 : ¬ (wordC c = true) := by
    unfold wordC
    simp at h ⊢
    omega
  have h3 : ¬ (c.toNat = 32) := by
    simp at h
    omega
  unfold stepR
  rw [if_neg h2, if_neg h1, if_neg h3]
theorem ref_long_eq {s : ByteArray} (h : 600 < s.size) : lexErr s = some (600, 16) ∧ refErr s = (16, 600) ∧ refLn s = [] ∧ lexLn s = [] := ⟨(lexErr_long h).1, (ref_long h).1, (ref_long h).2, (lexErr_long h).2⟩
theorem ref_bad_eq {s : ByteArray} (h : s.size ≤ 600) {k : Nat} (hk : badIx s = some k) : lexErr s = some ((k : Int), 3) ∧ refErr s = (3, (k : Int)) ∧ refLn s = [] ∧ lexLn s = [] := by
  have h0 := hk
  unfold badIx at hk
  rw [List.findIdx?_eq_some_iff_getElem] at hk
  obtain ⟨hlt, h1, h2⟩ := hk
  have hlt' : k < s.size := by simpa using hlt
  have hc : cAt s k = s[k] := by unfold cAt; rw [dif_pos hlt']
  have hg : ∃ st, runR s k = some st := by
    rw [run_go s k (by omega)]
    have e : (s.data.toList ++ [10]).take k = s.data.toList.take k := by rw [List.take_append_of_le_length (by simp; omega)]
    rw [e]
    refine goL_some _ _ _ (fun c hcm => ?_)
    obtain ⟨j, hj, rfl⟩ := List.getElem_of_mem hcm
    have hjk : j < k := by have := hj; rw [List.length_take] at this; omega
    have := h2 j hjk
    rw [List.getElem_take]
    simpa using this
  obtain ⟨st, hst⟩ := hg
  obtain ⟨r1, r2⟩ := ref_bad h (by omega) hst (step_bad (by rw [hc]; exact h1))
  exact ⟨(lexErr_bad h h0).1, r1, r2, (lexErr_bad h h0).2⟩
theorem ref_fine_eq {s : ByteArray} (h : s.size ≤ 600) (hk : badIx s = none) : lexErr s = none ∧ refErr s = (0, 0) ∧ refLn s = lexLn s := by
  have h0 := hk
  unfold badIx at hk
  rw [List.findIdx?_eq_none_iff] at hk
  obtain ⟨st, g1, g2⟩ := goL_out s.data.toList StR.init 0 (fun c hc => hk c hc)
  have hrun : runR s (s.size + 1) = some st := by
    rw [run_go s _ (Nat.le_refl _), List.take_of_length_le (by simp)]
    exact g1
  obtain ⟨r1, r2⟩ := ref_fine h hrun
  obtain ⟨e1, e2⟩ := lexErr_fine h h0
  refine ⟨e1, r1, ?_⟩
  rw [r2, e2, g2]
  show ([] : List (List WordV)) ++ restL [] ⟨#[]⟩ 0 0 (pcs 10 s.data.toList) = _
  rw [List.nil_append, restL_empty rfl]
  rfl
end Go.Proofs.YtefnkoofgpmmmaaGreatDoor

namespace Go.Proofs.YtefnkoofgpmmmaaGreatDoor
set_option maxRecDepth 100000

def Lies (T : List UInt8) (x : WordV) : Prop := ∃ (k : Nat) (t : List UInt8), x.2 = k ∧ T.drop k = x.1.data.toList ++ t ∧ x.1.size ≠ 0
theorem split_at (c : UInt8) (l : List UInt8) : (c ∉ l ∧ pcs c l = [l]) ∨ ∃ u v, l = u ++ c :: v ∧ pcs c l = u :: pcs c v := by
  by_cases h : c ∈ l
  · obtain ⟨u, v, e, hu⟩ := List.eq_append_cons_of_mem h
    exact .inr ⟨u, v, e, by rw [e, pcs_some c u v hu]⟩
  · exact .inl ⟨h, pcs_none c l h⟩
theorem wds_lies (T : List UInt8) : ∀ (n : Nat) (l : List UInt8) (a : Nat) (t : List UInt8), l.length ≤ n → T.drop a = l ++ t → ∀ x ∈ wds a ((pcs 32 l).map mkB), Lies T x := by
  intro n
  induction n with
  | zero =>
    intro l a t hn h x hx
    obtain rfl : l = [] := List.eq_nil_of_length_eq_zero (by omega)
    simp [pcs, wds, mkB_size] at hx
  | succ n ih =>
    intro l a t hn h x hx
    rcases split_at 32 l with ⟨_, e⟩ | ⟨u, v, rfl, e⟩
    · rw [e] at hx
      simp only [List.map_cons, List.map_nil, wds, List.append_nil] at hx
      split at hx
      · cases hx
      · rename_i hne
        rw [List.mem_singleton.1 hx]
        exact ⟨a, t, rfl, h, hne⟩
    · rw [e, List.map_cons, wds, List.mem_append] at hx
      rcases hx with hx | hx
      · split at hx
        · cases hx
        · rename_i hne
          rw [List.mem_singleton.1 hx]
          exact ⟨a, 32 :: v ++ t, rfl, by rw [h]; simp [mkB], hne⟩
      · have e2 : ((a : Int) + (mkB u).size + 1) = ((a + u.length + 1 : Nat) : Int) := by rw [mkB_size]; omega
        rw [e2] at hx
        refine ih v (a + u.length + 1) t (by simp at hn; omega) ?_ x hx
        have : T.drop (a + u.length + 1) = (T.drop a).drop (u.length + 1) := by rw [List.drop_drop]; congr 1
        rw [this, h]
        simp [List.append_assoc]
theorem lns_lies (T : List UInt8) : ∀ (n : Nat) (l : List UInt8) (a : Nat), l.length ≤ n → T.drop a = l → ∀ L ∈ lnsL a ((pcs 10 l).map mkB), ∀ x ∈ L, Lies T x := by
  intro n
  induction n with
  | zero =>
    intro l a hn h L hL x hx
    obtain rfl : l = [] := List.eq_nil_of_length_eq_zero (by omega)
    simp [pcs, lnsL, mkB, wordsL, pcsB, wds, ByteArray.size] at hL
  | succ n ih =>
    intro l a hn h L hL x hx
    have hw : ∀ (u : List UInt8) (t : List UInt8), T.drop a = u ++ t → ∀ x ∈ wordsL a (mkB u), Lies T x := fun u t hu x hx => wds_lies T u.length u a t (Nat.le_refl _) hu x hx
    rcases split_at 10 l with ⟨_, e⟩ | ⟨u, v, rfl, e⟩
    · rw [e] at hL
      simp only [List.map_cons, List.map_nil, lnsL, List.append_nil] at hL
      split at hL
      · cases hL
      · rw [List.mem_singleton.1 hL] at hx
        exact hw l [] (by rw [List.append_nil]; exact h) x hx
    · rw [e, List.map_cons, lnsL, List.mem_append] at hL
      rcases hL with hL | hL
      · split at hL
        · cases hL
        · rw [List.mem_singleton.1 hL] at hx
          exact hw u (10 :: v) h x hx
      · have e2 : ((a : Int) + (mkB u).size + 1) = ((a + u.length + 1 : Nat) : Int) := by rw [mkB_size]; omega
        rw [e2] at hL
        refine ih v (a + u.length + 1) (by simp at hn; omega) ?_ L hL x hx
        have : T.drop (a + u.length + 1) = (T.drop a).drop (u.length + 1) := by rw [List.drop_drop]; congr 1
        rw [this, h]
        simp
/-- a word of the lines lies in the text where it says -/
theorem lex_lies {s : ByteArray} {L : List WordV} (hL : L ∈ lexLn s) {x : WordV} (hx : x ∈ L) : ∃ k : Nat, x.2 = k ∧ k + x.1.size ≤ s.size ∧ s.extract k (k + x.1.size) = x.1 := by
  unfold lexLn at hL
  split at hL
  · obtain ⟨k, t, e1, e2, e3⟩ := lns_lies s.data.toList s.data.toList.length s.data.toList 0 (Nat.le_refl _) rfl L hL x hx
    have hl : x.1.data.toList.length = x.1.size := by simp
    have hs : s.data.toList.length = s.size := by simp
    have h3 := congrArg List.length e2
    rw [List.length_drop, List.length_append, hl, hs] at h3
    refine ⟨k, e1, ?_, ?_⟩
    · omega
    · apply ByteArray.ext
      apply Array.toList_inj.1
      simp only [ByteArray.data_extract, Array.toList_extract, List.extract_eq_take_drop]
      rw [e2]
      rw [show k + x.1.size - k = x.1.size by omega, ← hl]
      simp
  · cases hL
end Go.Proofs.YtefnkoofgpmmmaaGreatDoor

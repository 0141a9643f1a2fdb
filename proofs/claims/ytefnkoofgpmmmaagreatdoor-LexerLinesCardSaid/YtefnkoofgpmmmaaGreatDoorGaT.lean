/- gate.Read. Conditions: sizes. -/
import Derived.Test.YtefnkoofgpmmmaaGreatDoorGaR
import Derived.Test.YtefnkoofgpmmmaaGreatDoorN3
import Derived.Test.YtefnkoofgpmmmaaGreatDoorTk
import Derived.RegionTactic
import Derived.ChangeAlike
import Derived.BigRegion
namespace Go.Proofs.YtefnkoofgpmmmaaGreatDoor
set_option maxRecDepth 100000
open Go.RowKit

/-- k numbers of 0..11 read -/
def rdN : Nat → List UInt8 × Bool → List Int × (List UInt8 × Bool)
  | 0, st => ([], st)
  | k + 1, st => ((rdN k st).1 ++ [(rdStep (rdN k st).2.1 (rdN k st).2.2 0 11).1], (rdStep (rdN k st).2.1 (rdN k st).2.2 0 11).2)
theorem rdN_len (k : Nat) (st : List UInt8 × Bool) : (rdN k st).1.length = k := by
  induction k with
  | zero => rfl
  | succ k ih => simp [rdN, ih]
theorem rdStep_le (s : List UInt8) (bad : Bool) (lo hi : Int) : (rdStep s bad lo hi).2.1.length ≤ s.length := by
  cases hb : (rdStep s bad lo hi).2.2 with
  | false => exact (rdStep_bounds hb).2.2
  | true =>
    unfold rdStep at hb ⊢
    split
    · simp
    · rename_i h
      split
      · rename_i n r hr
        rw [if_neg h] at hb
        simp [hr] at hb
      · simp
theorem rdN_le (k : Nat) (st : List UInt8 × Bool) : (rdN k st).2.1.length ≤ st.1.length := by
  induction k with
  | zero => exact Nat.le_refl _
  | succ k ih => exact Nat.le_trans (rdStep_le _ _ _ _) ih
theorem rdStep_01 (s : List UInt8) (bad : Bool) (hi : Int) (h : 0 ≤ hi) : 0 ≤ (rdStep s bad 0 hi).1 ∧ (rdStep s bad 0 hi).1 ≤ hi := by
  cases hb : (rdStep s bad 0 hi).2.2 with
  | false => exact ⟨(rdStep_bounds hb).1, (rdStep_bounds hb).2.1⟩
  | true =>
    unfold rdStep at hb ⊢
    split
    · exact ⟨by simp, by simpa using h⟩
    · rename_i h0
      split
      · rename_i n r hr
        rw [if_neg h0] at hb
        simp [hr] at hb
      · exact ⟨by simp, by simpa using h⟩
/-- what gate.Read gives: the votes, no, and the reader's rest -/
def gateRd (st : List UInt8 × Bool) : List Int × Bool × (List UInt8 × Bool) :=
  let c := rdStep st.1 st.2 0 12
  let l := rdN c.1.toNat c.2
  let f := rdStep l.2.1 l.2.2 0 1
  if f.2.2 = false ∧ rightG l.1 = true then (l.1, f.1 == 1, f.2) else ([], false, (f.2.1, true))
def GatePost (b : Nat) (x : List Int × Bool × (List UInt8 × Bool)) (w : World) (e : Ending) (w' : World) : Prop :=
  ∃ v, e = .returned (.agg #[v, .bool x.2.1]) ∧ SlAt 1 encI w' v x.1 ∧ RdAt b x.2.2.1 x.2.2.2 w' ∧ KeptB b w w' ∧ ∀ q, v.ownBlock = some q → w.heap.size ≤ q ∧ q < w'.heap.size
theorem RdAt.of_block {b : Nat} {s : List UInt8} {bad : Bool} {w w' : World} (h : RdAt b s bad w) (hs : w.heap.size ≤ w'.heap.size) (he : w'.heap[b]? = w.heap[b]?) : RdAt b s bad w' := by
  obtain ⟨h0, ⟨h1, h2⟩, h3, h4⟩ := h
  exact ⟨Nat.lt_of_lt_of_le h0 hs, ⟨(World.cell?_of_block (w := w) (a := ⟨b, 0, none⟩) he).trans h1, (World.cell?_of_block (w := w) (a := ⟨b, 1, none⟩) he).trans h2⟩, (World.frozen?_of_block (w := w) (a := ⟨b, 0, none⟩) he).trans h3, (World.frozen?_of_block (w := w) (a := ⟨b, 1, none⟩) he).trans h4⟩
/-- a read under way: the box of the votes at B, their row behind base -/
def GtAt (w0 : World) (b B base k : Nat) (v : Value) (st : List UInt8 × Bool) (l : List Int) (w : World) : Prop :=
  (B < base ∧ base ≤ w.heap.size) ∧ w.heap[B]? = some (.cells #[v, .bool false] 221 (0, 0)) ∧ w.ownsRow base 3 1 v k (flat encI l) ∧ RdAt b st.1 st.2 w ∧ Met w ∧ KeptB b w0 w
theorem GtAt.below {w0 w w' : World} {b B base k : Nat} {v : Value} {st : List UInt8 × Bool} {l : List Int} (h : GtAt w0 b B base k v st l w) (h0 : b < w0.heap.size) (hb : Below w.heap.size w w') : GtAt w0 b B base k v st l w' := by
  obtain ⟨⟨z1, z2⟩, h1, h2, h3, h4, h5⟩ := h
  exact ⟨⟨z1, Nat.le_trans z2 hb.size⟩, (hb.block B (by omega)).trans h1, owns_below h2 hb, h3.below hb, h4.below hb, h5.trans (KeptB.of (Nat.lt_of_lt_of_le h0 h5.2.2) hb)⟩
theorem GtAt.read {w0 w w' : World} {b B base k : Nat} {v : Value} {st st' : List UInt8 × Bool} {l : List Int} (h : GtAt w0 b B base k v st l w) (h9 : 9 ≤ b) (hbB : b < B) (hr : RdAt b st'.1 st'.2 w') (hk : KeptB b w w') : GtAt w0 b B base k v st' l w' := by
  obtain ⟨⟨z1, z2⟩, h1, h2, h3, h4, h5⟩ := h
  refine ⟨⟨z1, Nat.le_trans z2 hk.2.2⟩, (hk.2.1 B (by omega) (by omega)).trans h1, owns_keptI h2 (fun q hq => hk.2.1 q (owns_lt h2 hq) ?_), hr, hk.met h4 h9, h5.trans hk⟩
  have := owns_block h2 q hq
  omega
theorem GtAt.put {w0 w w' : World} {b B base k : Nat} {v v' : Value} {st : List UInt8 × Bool} {l l' : List Int} (h : GtAt w0 b B base k v st l w) (h9 : 9 ≤ b) (hbB : b < w0.heap.size) (hB : w0.heap.size ≤ B) (hg : w.grownBy w' v.ownBlock) (ho : w'.ownsRow base 3 1 v' (k + 1) (flat encI l')) :
    GtAt w0 b B base (k + 1) v' st l' (w'.setCell ⟨B, 0, none⟩ v') := by
  obtain ⟨⟨z1, z2⟩, h1, h2, h3, h4, h5⟩ := h
  have hrow : ∀ q, v.ownBlock = some q → base ≤ q := fun q hq => owns_block h2 q hq
  have hb0 : ∀ B', B' ≤ b → Below B' w (w'.setCell ⟨B, 0, none⟩ v') := fun B' hB' => ((Below.refl B' w).grown hg (by have := h3.1; omega) (fun q hq => by have := hrow q hq; omega)).setCell (p := ⟨B, 0, none⟩) (by show B' ≤ B; omega) _
  have hbl : ∀ q, q < w.heap.size → q < base → q ≠ B → (w'.setCell ⟨B, 0, none⟩ v').heap[q]? = w.heap[q]? := fun q h1 h2 h3 => by
    rw [Below.heap_setCell _ _ _ _ h3]
    exact hg.block q h1 (fun e => by have := hrow q e.symm; omega)
  have hB1 : w'.heap[B]? = some (.cells #[v, .bool false] 221 (0, 0)) := (hg.block B (by omega) (fun e => by have := hrow B e.symm; omega)).trans h1
  have hsz := hg.size
  refine ⟨⟨z1, by simp; omega⟩, by rw [Joins.block_setCell hB1]; rfl, owns_keptI ho (fun q hq => Below.heap_setCell _ _ _ _ (show q ≠ B by have := owns_block ho q hq; omega)), h3.of_block (by simp; omega) (hbl b h3.1 (by omega) (by omega)), h4.belowB (hb0 b (Nat.le_refl _)) h9, ⟨fun B' hB' => (h5.1 B' hB').trans (hb0 B' hB'), fun q h1 h2 => (hbl q (by have := h5.2.2; omega) (by omega) (by omega)).trans (h5.2.1 q h1 h2), by have := h5.2.2; simp; omega⟩⟩
theorem rdStep_never (s : List UInt8) (bad : Bool) : rdStep s bad 1 0 = (0, s, true) := by
  cases bad with
  | true => rfl
  | false =>
    cases h : rdInt s 1 0 with
    | none => exact rdStep_none h
    | some v =>
      obtain ⟨n, r⟩ := v
      have hb := rdStep_bounds (s := s) (bad := false) (lo := 1) (hi := 0) (by rw [rdStep_some h])
      omega
theorem RdAt.setO {b B : Nat} {s : List UInt8} {bad : Bool} {w : World} (h : RdAt b s bad w) (hne : b ≠ B) (i : Nat) (v : Value) : RdAt b s bad (w.setCell ⟨B, i, none⟩ v) :=
  h.of_block (by simp) (Below.heap_setCell _ _ _ _ hne)
theorem KeptB.setO {b B : Nat} {w0 w : World} (h : KeptB b w0 w) (hb : b < w0.heap.size) (hB : w0.heap.size ≤ B) (i : Nat) (v : Value) : KeptB b w0 (w.setCell ⟨B, i, none⟩ v) :=
  ⟨fun B' hB' => (h.1 B' hB').trans ((Below.refl B' w).setCell (p := ⟨B, i, none⟩) (by show B' ≤ B; omega) _), fun q h1 h2 => (Below.heap_setCell _ _ _ _ (show q ≠ B by omega)).trans (h.2.1 q h1 h2), by simpa using h.2.2⟩
theorem SlAt.keptB {α : Type} [Inhabited α] {k : Nat} {enc : α → List Value} {b : Nat} {w w' : World} {v : Value} {xs : List α} (h : SlAt k enc w v xs) (hk : KeptB b w w') (hne : v.ownBlock ≠ some b) : SlAt k enc w' v xs := by
  obtain ⟨p, c, rfl, hn, hc⟩ := h
  refine ⟨p, c, rfl, hn, fun hl => ?_⟩
  obtain ⟨q, off, rfl, hlt, hcell⟩ := hc hl
  have hb : q ≠ b := fun e => hne (by simp [Value.ownBlock, e])
  exact ⟨q, off, rfl, Nat.lt_of_lt_of_le hlt hk.2.2, fun j hj m u' hu => (World.cell?_of_block (w := w) (hk.2.1 q hlt hb)).trans (hcell j hj m u' hu)⟩
/-- the votes read, in their box -/
def Gt2 (w0 : World) (b B : Nat) (v : Value) (no : Bool) (st : List UInt8 × Bool) (l : List Int) (w : World) : Prop :=
  w.heap[B]? = some (.cells #[v, .bool no] 221 (0, 0)) ∧ SlAt 1 encI w v l ∧ RdAt b st.1 st.2 w ∧ Met w ∧ KeptB b w0 w ∧ ∀ q, v.ownBlock = some q → B < q ∧ q < w.heap.size
theorem Gt2.below {w0 w w' : World} {b B : Nat} {v : Value} {no : Bool} {st : List UInt8 × Bool} {l : List Int} (h : Gt2 w0 b B v no st l w) (h0 : b < w0.heap.size) (hb : Below w.heap.size w w') : Gt2 w0 b B v no st l w' := by
  obtain ⟨h1, h2, h3, h4, h5, h6⟩ := h
  exact ⟨(hb.block B (Array.getElem?_eq_some_iff.1 h1).1).trans h1, h2.below hb, h3.below hb, h4.below hb, h5.trans (KeptB.of (Nat.lt_of_lt_of_le h0 h5.2.2) hb), fun q hq => ⟨(h6 q hq).1, Nat.lt_of_lt_of_le (h6 q hq).2 hb.size⟩⟩
theorem Gt2.read {w0 w w' : World} {b B : Nat} {v : Value} {no : Bool} {st st' : List UInt8 × Bool} {l : List Int} (h : Gt2 w0 b B v no st l w) (h9 : 9 ≤ b) (hbB : b < B) (hr : RdAt b st'.1 st'.2 w') (hk : KeptB b w w') : Gt2 w0 b B v no st' l w' := by
  obtain ⟨h1, h2, h3, h4, h5, h6⟩ := h
  exact ⟨(hk.2.1 B (Array.getElem?_eq_some_iff.1 h1).1 (by omega)).trans h1, h2.keptB hk (fun e => by have := h6 _ e; omega), hr, hk.met h4 h9, h5.trans hk, fun q hq => ⟨(h6 q hq).1, Nat.lt_of_lt_of_le (h6 q hq).2 hk.2.2⟩⟩
theorem GtAt.flag {w0 w : World} {b B base k : Nat} {v : Value} {st : List UInt8 × Bool} {l : List Int} (h : GtAt w0 b B base k v st l w) (hl : l.length = k) (h9 : 9 ≤ b) (hb : b < w0.heap.size) (hB : w0.heap.size ≤ B) (no : Bool) : Gt2 w0 b B v no st l (w.setCell ⟨B, 1, none⟩ (.bool no)) := by
  obtain ⟨⟨z1, z2⟩, h1, h2, h3, h4, h5⟩ := h
  subst hl
  have hrow : ∀ q, v.ownBlock = some q → B < q ∧ q < w.heap.size := fun q hq => by have := owns_block h2 q hq; have := owns_lt h2 hq; omega
  exact ⟨by rw [Joins.block_setCell h1]; rfl, (SlAt.of_owns (enc := encI) (fun _ => rfl) h2).set _ _ (fun e => by have := hrow _ e; omega), h3.setO (by omega) _ _, h4.belowB ((Below.refl b w).setCell (p := ⟨B, 1, none⟩) (by show b ≤ B; omega) _) h9, h5.setO hb hB _ _, fun q hq => ⟨(hrow q hq).1, by have := (hrow q hq).2; simp; omega⟩⟩
theorem results_cellG {fn : Func} {p : Tmp} {ty : TypeId} (h : fn.results = #[.cell p ty]) (tmps : Array Value) (P : Program) (w : World) :
    (results fn tmps).run P w = ((asAddr (tmps.getD p undef)).run P w).andThen fun a w₁ => (loadVar ty a).run P w₁ := by
  simp only [results, h]
  simp [Sem.run_bind, Result.andThen]
set_option maxHeartbeats 4000000 in
theorem gateRead (b : Nat) (s : List UInt8) (bad : Bool) (w : World) (h : RdAt b s bad w) (hM : Met w) (h9 : 9 ≤ b) (hs : s.length < 4294967281) :
    Calls Tryz.prog 119 #[.pointer (some ⟨b, 0, none⟩)] w (GatePost b (gateRd (s, bad)) w) := by
  obtain ⟨i0, hi, hz0, hz1, hz2⟩ := info_int
  have bz := h.1
  have K1 := Lib.hid (fun W (h : RdAt b s bad W) (hM : Met W) => readerInt b s bad 0 12 W h hM h9 hs)
  obtain ⟨c, hc⟩ : ∃ c, c = rdStep s bad 0 12 := ⟨_, rfl⟩
  have HC := Lib.hid hc
  have hc1 := rdStep_01 s bad 12 (by decide)
  rw [← hc] at hc1
  have hc2 := rdStep_le s bad 0 12
  rw [← hc] at hc2
  unfold IntPost at K1
  rw [← hc] at K1
  obtain ⟨n, s1, b1⟩ := c
  dsimp only at hc1 hc2 K1
  obtain ⟨m, rfl⟩ := Int.eq_ofNat_of_zero_le hc1.1
  have hb0 := below1 w (.cells #[.slice none 0 0, .bool false] 221)
  have HR := Lib.hid (h.below hb0)
  have HM := Lib.hid (hM.below hb0)
  have HK := Lib.hid (KeptB.of bz hb0)
  have HX := Lib.hid (MapKept.heap_alloc w (.cells #[.slice none 0 0, .bool false] 221)).1
  have hne : w.heap.size ≠ b := by omega
  clear h hM hb0 hc
  go_enter Tryz.func119, Tryz.ntmps119
  go_wp2_with fail
  generalize w.alloc (.cells #[.slice none 0 0, .bool false] 221) = W0 at HR HM HK HX ⊢
  refine (K1.out W0 HR.out HM.out).mono ?_
  rintro e w1 ⟨rfl, hr, hk⟩
  have hx1 := (hk.2.1 w.heap.size (Array.getElem?_eq_some_iff.1 HX.out).1 hne).trans HX.out
  have HM1 := Lib.hid (hk.met HM.out h9)
  have HK1 := Lib.hid (HK.out.trans hk)
  have HR1 := Lib.hid hr
  have HX1 := Lib.hid hx1
  clear hk hr hx1 HR HM HK HX K1
  go_wp2_with fail
  obtain ⟨B, hBe⟩ : ∃ B, B = w.heap.size := ⟨_, rfl⟩
  obtain ⟨base, hba⟩ : ∃ x, x = w1.heap.size := ⟨_, rfl⟩
  have hBw : w.heap.size ≤ B := by omega
  have hbB : b < B := by omega
  have hG0 : GtAt w b B base 0 (.slice none 0 0) (rdN 0 (s1, b1)).2 (rdN 0 (s1, b1)).1 w1 := by
    have hlt := (Array.getElem?_eq_some_iff.1 HX1.out).1
    exact ⟨⟨by omega, by omega⟩, by rw [hBe]; exact HX1.out, ⟨by simp [rdN, flat], .inl ⟨rfl, rfl⟩⟩, HR1.out, HM1.out, HK1.out⟩
  have HG0 := Lib.hid hG0
  rw [← hBe]
  clear hG0 HR1 HM1 HK1 HX1 hBe hba
  go_loopw [5] (fun t wr => ∃ k : Nat, k ≤ m ∧ t = .int .i64 k ∧ ∃ v, GtAt w b B base k v (rdN k (s1, b1)).2 (rdN k (s1, b1)).1 wr) (fun t _ => m - (intOf t).toNat)
  case atStart => exact ⟨0, by omega, rfl, _, HG0.out⟩
  case round =>
    obtain ⟨k, hk, rfl, v, hg⟩ := hrel
    have HG := Lib.hid hg
    clear hg HG0
    by_cases hlt : k < m
    · have hltz : (k : Int) < (m : Int) := by omega
      have hlen := rdN_le k (s1, b1)
      have hE : rdN (k + 1) (s1, b1) = ((rdN k (s1, b1)).1 ++ [(rdStep (rdN k (s1, b1)).2.1 (rdN k (s1, b1)).2.2 0 11).1], (rdStep (rdN k (s1, b1)).2.1 (rdN k (s1, b1)).2.2 0 11).2) := rfl
      have hll := rdN_len k (s1, b1)
      obtain ⟨R, hR⟩ : ∃ R, R = rdN k (s1, b1) := ⟨_, rfl⟩
      rw [← hR] at HG hlen hE hll
      obtain ⟨l, sk, bk⟩ := R
      dsimp only at HG hlen hE hll
      have hKC := fun W (h : RdAt b sk bk W) (hM : Met W) => readerInt b sk bk 0 11 W h hM h9 (by omega)
      unfold IntPost at hKC
      obtain ⟨r, hr⟩ : ∃ r, r = rdStep sk bk 0 11 := ⟨_, rfl⟩
      rw [← hr] at hKC hE
      obtain ⟨x, s', b'⟩ := r
      dsimp only at hKC hE
      have HE := Lib.hid hE
      have KC := Lib.hid hKC
      clear hE hKC hr hR
      have c0 : wr.cell? ⟨B, 0, none⟩ = some v := by rw [Lib.cell_of_heap HG.out.2.1]; rfl
      go_wp2_with fail
      refine wp_region_held_drew (S := fun _ => True) (by kernel_rfl) trivial (fun hH0 => ?_)
      try dsimp only [List.size_toArray, List.length_cons, List.length_nil]
      have HG := Lib.hid (HG.out.below bz (Below.refl _ _).drew)
      have c0 : wr.drew.cell? ⟨B, 0, none⟩ = some v := c0
      generalize wr.drew = v0 at HG c0 ⊢
      refine takeL (i := 0) rfl (v := ?vg1) (by kernel_rfl) (by kernel_rfl) (by kernel_rfl) (fun _ _ _ h => h) (Or.inl ⟨by rfl, fun _w _hSw => ?hyg1⟩) (by assumption) ?restg1
      case hyg1 =>
        (try dsimp only at _hSw)
        go_simp
        try with_reducible rfl
      try simp only [Act.put, List.setIfInBounds_toArray, List.set_cons_zero, List.set_cons_succ]
      refine takeL (i := 2) rfl (v := ?vg2) (by kernel_rfl) (by kernel_rfl) (by kernel_rfl) (fun _ _ _ h => h) (Or.inl ⟨by rfl, fun _w _hSw => ?hyg2⟩) (by assumption) ?restg2
      case hyg2 =>
        (try dsimp only at _hSw)
        go_simp
        try with_reducible rfl
      try simp only [Act.put, List.setIfInBounds_toArray, List.set_cons_zero, List.set_cons_succ]
      refine wpAnyH_ready (rs := [1, 3]) (by kernel_rfl) (by simp) (readyL rfl (fun K1 hK => ?_) (readyL rfl (fun K1 hK => ?_) AllReadyH.nil))
      ·
        go_simp
        refine hK.out _ _ trivial (fun _ => ?_)
        clear hK K1
        try simp only [Act.put, List.setIfInBounds_toArray, List.set_cons_zero, List.set_cons_succ]
        refine wpAnyH_ready (rs := [3]) (by kernel_rfl) (by simp) (readyL rfl (fun K1 hK => ?_) AllReadyH.nil)
        go_simp
        have hrd0 := HG.out.2.2.2.1
        have hmt0 := HG.out.2.2.2.2.1
        with_reducible refine (KC.out _ hrd0 hmt0).mono ?_
        rintro e v1 ⟨rfl, hr1, hk1⟩
        try dsimp only
        refine hK.out _ _ trivial (fun _ => ?_)
        have HG := Lib.hid (GtAt.read (st' := (s', b')) HG.out h9 hbB hr1 hk1)
        clear hK K1 hr1 hk1 hrd0 hmt0
        have c0 : v1.cell? ⟨B, 0, none⟩ = some v := by rw [Lib.cell_of_heap HG.out.2.1]; rfl
        try simp only [Act.put, List.setIfInBounds_toArray, List.set_cons_zero, List.set_cons_succ]
        refine wpAnyH_ready (rs := [4]) (by kernel_rfl) (by simp) (readyL rfl (fun K1 hK => ?_) AllReadyH.nil)
        go_simp
        refine hK.out _ _ trivial (fun _ => ?_)
        have HG := Lib.hid (HG.out.below bz (below1 _ (.cells #[.int .i64 x] 3)))
        have cx : (v1.alloc (.cells #[.int .i64 x] 3)).cell? ⟨v1.heap.size, 0, none⟩ = some (.int .i64 x) := by go_simp
        have c0 : (v1.alloc (.cells #[.int .i64 x] 3)).cell? ⟨B, 0, none⟩ = some v := by rw [Lib.cell_of_heap HG.out.2.1]; rfl
        clear hK K1
        generalize v1.alloc (.cells #[.int .i64 x] 3) = v2 at HG cx c0 ⊢
        generalize v1.heap.size = bx at cx ⊢
        try simp only [Act.put, List.setIfInBounds_toArray, List.set_cons_zero, List.set_cons_succ]
        refine wpAnyH_ready (rs := [5]) (by kernel_rfl) (by simp) (readyL rfl (fun K1 hK => ?_) AllReadyH.nil)
        rw [if_pos (by kernel_rfl)]
        refine wp_append_own _ (.tmp 8) (.tmp 11) 53 rfl base 3 i0 (.int .i64 0) 1 8 Tryz.underlying53 hi hz0 hz1 hz2 rfl (by decide) v k (flat encI l) rfl HG.out.2.2.1 ⟨bx, 0, none⟩ 1 1 [.int .i64 x] rfl rfl ?_ ?_ ?_ ?_ HG.out.1.2 ?_
        · rintro jj u hj
          match jj, hj with
          | 0, hj => simp at hj; subst hj; rw [Go.WideShapes.add_plain]; exact cx
        · simp [Value.oneCell']
        · unfold maxLen; omega
        · omega
        intro v' w3 hown3 hgrow _
        obtain ⟨pv, nv, cv, rfl⟩ : ∃ p n c, v' = Value.slice p n c := by
          rcases hown3.2 with ⟨e, _⟩ | ⟨g, cap, cur, e, _⟩
          · exact ⟨_, _, _, e⟩
          · exact ⟨_, _, _, e⟩
        refine hK.out _ _ trivial (fun _ => ?_)
        have HP := Lib.hid (GtAt.put (l' := l ++ [x]) HG.out h9 bz hBw hgrow (by simpa [flat, encI] using hown3))
        have cf : w3.cell? ⟨B, 0, none⟩ = some v := by
          have hB1 : w3.heap[B]? = _ := (hgrow.block B (by have := HG.out.1; omega) (fun e => by have := owns_block HG.out.2.2.1 B e.symm; have := HG.out.1; omega)).trans HG.out.2.1
          rw [Lib.cell_of_heap hB1]; rfl
        have cfz : w3.frozen? ⟨B, 0, none⟩ = false := by
          have hB1 : w3.heap[B]? = _ := (hgrow.block B (by have := HG.out.1; omega) (fun e => by have := owns_block HG.out.2.2.1 B e.symm; have := HG.out.1; omega)).trans HG.out.2.1
          exact Lib.frozen_of_heap hB1 0
        clear hK K1 hown3 hgrow c0 cx
        try simp only [Act.put, List.setIfInBounds_toArray, List.set_cons_zero, List.set_cons_succ]
        refine takeL (i := 6) rfl (v := ?vg3) (by kernel_rfl) (by kernel_rfl) (by kernel_rfl) (fun _ _ _ h => h) (Or.inl ⟨by rfl, fun _w _hSw => ?hyg3⟩) (by assumption) ?restg3
        case hyg3 =>
          (try dsimp only at _hSw)
          go_simp
          try with_reducible rfl
        try simp only [Act.put, List.setIfInBounds_toArray, List.set_cons_zero, List.set_cons_succ]
        refine wpAnyH_ready (rs := [7]) (by kernel_rfl) (by simp) (readyL rfl (fun K1 hK => ?_) AllReadyH.nil)
        go_simp
        refine hK.out _ _ trivial (fun _ => ?_)
        clear hK K1 cf cfz
        try simp only [Act.put, List.setIfInBounds_toArray, List.set_cons_zero, List.set_cons_succ]
        refine wpAnyH_done (by kernel_rfl) ?_ _
        go_wp2
        go_roundw
        case rel =>
          have hR : rdN (k + 1) (s1, b1) = (l ++ [x], (s', b')) := HE.out
          first | exact ⟨k + 1, by omega, by go_num, _, by rw [hR]; exact HP.out⟩ | trace_state
        case measure => simp [intOf] <;> omega
      ·
        go_simp
        have hrd0 := HG.out.2.2.2.1
        have hmt0 := HG.out.2.2.2.2.1
        with_reducible refine (KC.out _ hrd0 hmt0).mono ?_
        rintro e v1 ⟨rfl, hr1, hk1⟩
        try dsimp only
        refine hK.out _ _ trivial (fun _ => ?_)
        have HG := Lib.hid (GtAt.read (st' := (s', b')) HG.out h9 hbB hr1 hk1)
        clear hK K1 hr1 hk1 hrd0 hmt0
        have c0 : v1.cell? ⟨B, 0, none⟩ = some v := by rw [Lib.cell_of_heap HG.out.2.1]; rfl
        try simp only [Act.put, List.setIfInBounds_toArray, List.set_cons_zero, List.set_cons_succ]
        refine wpAnyH_ready (rs := [1, 4]) (by kernel_rfl) (by simp) (readyL rfl (fun K1 hK => ?_) (readyL rfl (fun K1 hK => ?_) AllReadyH.nil))
        ·
          go_simp
          refine hK.out _ _ trivial (fun _ => ?_)
          clear hK K1
          try simp only [Act.put, List.setIfInBounds_toArray, List.set_cons_zero, List.set_cons_succ]
          refine wpAnyH_ready (rs := [4]) (by kernel_rfl) (by simp) (readyL rfl (fun K1 hK => ?_) AllReadyH.nil)
          go_simp
          refine hK.out _ _ trivial (fun _ => ?_)
          have HG := Lib.hid (HG.out.below bz (below1 _ (.cells #[.int .i64 x] 3)))
          have cx : (v1.alloc (.cells #[.int .i64 x] 3)).cell? ⟨v1.heap.size, 0, none⟩ = some (.int .i64 x) := by go_simp
          have c0 : (v1.alloc (.cells #[.int .i64 x] 3)).cell? ⟨B, 0, none⟩ = some v := by rw [Lib.cell_of_heap HG.out.2.1]; rfl
          clear hK K1
          generalize v1.alloc (.cells #[.int .i64 x] 3) = v2 at HG cx c0 ⊢
          generalize v1.heap.size = bx at cx ⊢
          try simp only [Act.put, List.setIfInBounds_toArray, List.set_cons_zero, List.set_cons_succ]
          refine wpAnyH_ready (rs := [5]) (by kernel_rfl) (by simp) (readyL rfl (fun K1 hK => ?_) AllReadyH.nil)
          rw [if_pos (by kernel_rfl)]
          refine wp_append_own _ (.tmp 8) (.tmp 11) 53 rfl base 3 i0 (.int .i64 0) 1 8 Tryz.underlying53 hi hz0 hz1 hz2 rfl (by decide) v k (flat encI l) rfl HG.out.2.2.1 ⟨bx, 0, none⟩ 1 1 [.int .i64 x] rfl rfl ?_ ?_ ?_ ?_ HG.out.1.2 ?_
          · rintro jj u hj
            match jj, hj with
            | 0, hj => simp at hj; subst hj; rw [Go.WideShapes.add_plain]; exact cx
          · simp [Value.oneCell']
          · unfold maxLen; omega
          · omega
          intro v' w3 hown3 hgrow _
          obtain ⟨pv, nv, cv, rfl⟩ : ∃ p n c, v' = Value.slice p n c := by
            rcases hown3.2 with ⟨e, _⟩ | ⟨g, cap, cur, e, _⟩
            · exact ⟨_, _, _, e⟩
            · exact ⟨_, _, _, e⟩
          refine hK.out _ _ trivial (fun _ => ?_)
          have HP := Lib.hid (GtAt.put (l' := l ++ [x]) HG.out h9 bz hBw hgrow (by simpa [flat, encI] using hown3))
          have cf : w3.cell? ⟨B, 0, none⟩ = some v := by
            have hB1 : w3.heap[B]? = _ := (hgrow.block B (by have := HG.out.1; omega) (fun e => by have := owns_block HG.out.2.2.1 B e.symm; have := HG.out.1; omega)).trans HG.out.2.1
            rw [Lib.cell_of_heap hB1]; rfl
          have cfz : w3.frozen? ⟨B, 0, none⟩ = false := by
            have hB1 : w3.heap[B]? = _ := (hgrow.block B (by have := HG.out.1; omega) (fun e => by have := owns_block HG.out.2.2.1 B e.symm; have := HG.out.1; omega)).trans HG.out.2.1
            exact Lib.frozen_of_heap hB1 0
          clear hK K1 hown3 hgrow c0 cx
          try simp only [Act.put, List.setIfInBounds_toArray, List.set_cons_zero, List.set_cons_succ]
          refine takeL (i := 6) rfl (v := ?vg4) (by kernel_rfl) (by kernel_rfl) (by kernel_rfl) (fun _ _ _ h => h) (Or.inl ⟨by rfl, fun _w _hSw => ?hyg4⟩) (by assumption) ?restg4
          case hyg4 =>
            (try dsimp only at _hSw)
            go_simp
            try with_reducible rfl
          try simp only [Act.put, List.setIfInBounds_toArray, List.set_cons_zero, List.set_cons_succ]
          refine wpAnyH_ready (rs := [7]) (by kernel_rfl) (by simp) (readyL rfl (fun K1 hK => ?_) AllReadyH.nil)
          go_simp
          refine hK.out _ _ trivial (fun _ => ?_)
          clear hK K1 cf cfz
          try simp only [Act.put, List.setIfInBounds_toArray, List.set_cons_zero, List.set_cons_succ]
          refine wpAnyH_done (by kernel_rfl) ?_ _
          go_wp2
          go_roundw
          case rel =>
            have hR : rdN (k + 1) (s1, b1) = (l ++ [x], (s', b')) := HE.out
            first | exact ⟨k + 1, by omega, by go_num, _, by rw [hR]; exact HP.out⟩ | trace_state
          case measure => simp [intOf] <;> omega
        ·
          go_simp
          refine hK.out _ _ trivial (fun _ => ?_)
          have HG := Lib.hid (HG.out.below bz (below1 _ (.cells #[.int .i64 x] 3)))
          have cx : (v1.alloc (.cells #[.int .i64 x] 3)).cell? ⟨v1.heap.size, 0, none⟩ = some (.int .i64 x) := by go_simp
          have c0 : (v1.alloc (.cells #[.int .i64 x] 3)).cell? ⟨B, 0, none⟩ = some v := by rw [Lib.cell_of_heap HG.out.2.1]; rfl
          clear hK K1
          generalize v1.alloc (.cells #[.int .i64 x] 3) = v2 at HG cx c0 ⊢
          generalize v1.heap.size = bx at cx ⊢
          try simp only [Act.put, List.setIfInBounds_toArray, List.set_cons_zero, List.set_cons_succ]
          refine wpAnyH_ready (rs := [1]) (by kernel_rfl) (by simp) (readyL rfl (fun K1 hK => ?_) AllReadyH.nil)
          go_simp
          refine hK.out _ _ trivial (fun _ => ?_)
          clear hK K1
          try simp only [Act.put, List.setIfInBounds_toArray, List.set_cons_zero, List.set_cons_succ]
          refine wpAnyH_ready (rs := [5]) (by kernel_rfl) (by simp) (readyL rfl (fun K1 hK => ?_) AllReadyH.nil)
          rw [if_pos (by kernel_rfl)]
          refine wp_append_own _ (.tmp 8) (.tmp 11) 53 rfl base 3 i0 (.int .i64 0) 1 8 Tryz.underlying53 hi hz0 hz1 hz2 rfl (by decide) v k (flat encI l) rfl HG.out.2.2.1 ⟨bx, 0, none⟩ 1 1 [.int .i64 x] rfl rfl ?_ ?_ ?_ ?_ HG.out.1.2 ?_
          · rintro jj u hj
            match jj, hj with
            | 0, hj => simp at hj; subst hj; rw [Go.WideShapes.add_plain]; exact cx
          · simp [Value.oneCell']
          · unfold maxLen; omega
          · omega
          intro v' w3 hown3 hgrow _
          obtain ⟨pv, nv, cv, rfl⟩ : ∃ p n c, v' = Value.slice p n c := by
            rcases hown3.2 with ⟨e, _⟩ | ⟨g, cap, cur, e, _⟩
            · exact ⟨_, _, _, e⟩
            · exact ⟨_, _, _, e⟩
          refine hK.out _ _ trivial (fun _ => ?_)
          have HP := Lib.hid (GtAt.put (l' := l ++ [x]) HG.out h9 bz hBw hgrow (by simpa [flat, encI] using hown3))
          have cf : w3.cell? ⟨B, 0, none⟩ = some v := by
            have hB1 : w3.heap[B]? = _ := (hgrow.block B (by have := HG.out.1; omega) (fun e => by have := owns_block HG.out.2.2.1 B e.symm; have := HG.out.1; omega)).trans HG.out.2.1
            rw [Lib.cell_of_heap hB1]; rfl
          have cfz : w3.frozen? ⟨B, 0, none⟩ = false := by
            have hB1 : w3.heap[B]? = _ := (hgrow.block B (by have := HG.out.1; omega) (fun e => by have := owns_block HG.out.2.2.1 B e.symm; have := HG.out.1; omega)).trans HG.out.2.1
            exact Lib.frozen_of_heap hB1 0
          clear hK K1 hown3 hgrow c0 cx
          try simp only [Act.put, List.setIfInBounds_toArray, List.set_cons_zero, List.set_cons_succ]
          refine takeL (i := 6) rfl (v := ?vg5) (by kernel_rfl) (by kernel_rfl) (by kernel_rfl) (fun _ _ _ h => h) (Or.inl ⟨by rfl, fun _w _hSw => ?hyg5⟩) (by assumption) ?restg5
          case hyg5 =>
            (try dsimp only at _hSw)
            go_simp
            try with_reducible rfl
          try simp only [Act.put, List.setIfInBounds_toArray, List.set_cons_zero, List.set_cons_succ]
          refine wpAnyH_ready (rs := [7]) (by kernel_rfl) (by simp) (readyL rfl (fun K1 hK => ?_) AllReadyH.nil)
          go_simp
          refine hK.out _ _ trivial (fun _ => ?_)
          clear hK K1 cf cfz
          try simp only [Act.put, List.setIfInBounds_toArray, List.set_cons_zero, List.set_cons_succ]
          refine wpAnyH_done (by kernel_rfl) ?_ _
          go_wp2
          go_roundw
          case rel =>
            have hR : rdN (k + 1) (s1, b1) = (l ++ [x], (s', b')) := HE.out
            first | exact ⟨k + 1, by omega, by go_num, _, by rw [hR]; exact HP.out⟩ | trace_state
          case measure => simp [intOf] <;> omega
    · obtain rfl : k = m := by omega
      have HRD := Lib.hid (show gateRd (s, bad) = _ from rfl)
      obtain ⟨R, hR⟩ : ∃ R, R = rdN k (s1, b1) := ⟨_, rfl⟩
      have hll := rdN_len k (s1, b1)
      have hle := rdN_le k (s1, b1)
      have hX : gateRd (s, bad) = (if (rdStep R.2.1 R.2.2 0 1).2.2 = false ∧ rightG R.1 = true then (R.1, (rdStep R.2.1 R.2.2 0 1).1 == 1, (rdStep R.2.1 R.2.2 0 1).2) else ([], false, ((rdStep R.2.1 R.2.2 0 1).2.1, true))) := by
        unfold gateRd
        simp only [← HC.out, Int.toNat_natCast, ← hR]
      rw [← hR] at HG hll hle
      clear hR HRD
      obtain ⟨l, sl, bl⟩ := R
      dsimp only at HG hll hle hX
      have hKF := fun W (h : RdAt b sl bl W) (hM : Met W) => readerInt b sl bl 0 1 W h hM h9 (by omega)
      unfold IntPost at hKF
      obtain ⟨f, hf⟩ : ∃ f, f = rdStep sl bl 0 1 := ⟨_, rfl⟩
      have hfl := rdStep_le sl bl 0 1
      rw [← hf] at hKF hX hfl
      obtain ⟨x, sf, bf⟩ := f
      dsimp only at hKF hX hfl
      have KF := Lib.hid hKF
      have HXX := Lib.hid hX
      have KN := Lib.hid (fun W (h : RdAt b sf bf W) (hM : Met W) => show Calls Tryz.prog 70 #[.pointer (some ⟨b, 0, none⟩), .int .i64 1, .int .i64 0] W fun e w' => e = .returned (.int .i64 0) ∧ RdAt b sf true w' ∧ KeptB b W w' by
        have := readerInt b sf bf 1 0 W h hM h9 (by omega)
        unfold IntPost at this
        rw [rdStep_never] at this
        exact this)
      clear hKF hX hf
      have hrd := HG.out.2.2.2.1
      have hmt := HG.out.2.2.2.2.1
      go_wp2_with fail
      refine (KF.out _ hrd hmt).mono ?_
      rintro e w5 ⟨rfl, hr5, hk5⟩
      have HG := Lib.hid (GtAt.read (st' := (sf, bf)) HG.out h9 hbB hr5 hk5)
      clear hr5 hk5 hrd hmt
      have HF := Lib.hid (GtAt.flag HG.out hll h9 bz hBw (x == 1))
      have c1 : w5.cell? ⟨B, 1, none⟩ = some (.bool false) := by rw [Lib.cell_of_heap HG.out.2.1]; rfl
      have f1 : w5.frozen? ⟨B, 1, none⟩ = false := Lib.frozen_of_heap HG.out.2.1 1
      obtain ⟨pv, nv, cv, rfl⟩ : ∃ p n c, v = Value.slice p n c := by
        rcases HG.out.2.2.1.2 with ⟨e, _⟩ | ⟨g, cap, cur, e, _⟩
        · exact ⟨_, _, _, e⟩
        · exact ⟨_, _, _, e⟩
      go_upto_region 6 with fail
      clear c1 f1 HG
      generalize w5.setCell ⟨B, 1, none⟩ (.bool (x == 1)) = W6 at HF ⊢
      generalize (x == 1) = no at HF HXX ⊢
      have hrd := HF.out.2.2.1
      go_wp2_with fail
      refine (readerOk b sf bf _ hrd).mono ?_
      rintro e w7 ⟨rfl, rfl⟩
      clear hrd
      cases bf with
      | true =>
        have hrd := HF.out.2.2.1
        have hmt := HF.out.2.2.2.1
        go_wp2_with fail
        refine (KN.out _ hrd hmt).mono ?_
        rintro e w8 ⟨rfl, hr8, hk8⟩
        have HF := Lib.hid (Gt2.read (st' := (sf, true)) HF.out h9 hbB hr8 hk8)
        clear hr8 hk8 hrd hmt
        have c0 : w8.cell? ⟨B, 0, none⟩ = some (.slice pv nv cv) := by rw [Lib.cell_of_heap HF.out.1]; rfl
        have c1 : w8.cell? ⟨B, 1, none⟩ = some (.bool no) := by rw [Lib.cell_of_heap HF.out.1]; rfl
        have f0 : w8.frozen? ⟨B, 0, none⟩ = false := Lib.frozen_of_heap HF.out.1 0
        have f1 : w8.frozen? ⟨B, 1, none⟩ = false := Lib.frozen_of_heap HF.out.1 1
        go_wp2
        refine bodyPost_ret (v := .agg #[.slice none 0 0, .bool false]) (by rw [results_cellG rfl]; go_simp) rfl ?_
        unfold GatePost
        rw [HXX.out]
        exact ⟨_, rfl, SlAt.nil _ _ _, (HF.out.2.2.1.setO (by omega) _ _).setO (by omega) _ _, (HF.out.2.2.2.2.1.setO bz hBw _ _).setO bz hBw _ _, fun q hq => by simp [Value.ownBlock] at hq⟩
      | false =>
        have KR := Lib.hid (fun W (h : SlAt 1 encI W (.slice pv nv cv) l) => gateRight _ no l W h (by omega))
        have hsl := HF.out.2.1
        have c0 : W6.cell? ⟨B, 0, none⟩ = some (.slice pv nv cv) := by rw [Lib.cell_of_heap HF.out.1]; rfl
        have c1 : W6.cell? ⟨B, 1, none⟩ = some (.bool no) := by rw [Lib.cell_of_heap HF.out.1]; rfl
        go_wp2_with fail
        refine (KR.out _ hsl).mono ?_
        rintro e w8 ⟨rfl, hb8⟩
        have HF := Lib.hid (HF.out.below bz hb8)
        clear hb8 c0 c1 hsl
        generalize hri : rightG l = ri at HXX ⊢
        clear hri
        cases ri with
        | false =>
          have hrd := HF.out.2.2.1
          have hmt := HF.out.2.2.2.1
          go_wp2_with fail
          refine (KN.out _ hrd hmt).mono ?_
          rintro e w9 ⟨rfl, hr9, hk9⟩
          have HF := Lib.hid (Gt2.read (st' := (sf, true)) HF.out h9 hbB hr9 hk9)
          clear hr9 hk9 hrd hmt
          have c0 : w9.cell? ⟨B, 0, none⟩ = some (.slice pv nv cv) := by rw [Lib.cell_of_heap HF.out.1]; rfl
          have c1 : w9.cell? ⟨B, 1, none⟩ = some (.bool no) := by rw [Lib.cell_of_heap HF.out.1]; rfl
          have f0 : w9.frozen? ⟨B, 0, none⟩ = false := Lib.frozen_of_heap HF.out.1 0
          have f1 : w9.frozen? ⟨B, 1, none⟩ = false := Lib.frozen_of_heap HF.out.1 1
          go_wp2
          refine bodyPost_ret (v := .agg #[.slice none 0 0, .bool false]) (by rw [results_cellG rfl]; go_simp) rfl ?_
          unfold GatePost
          rw [HXX.out]
          exact ⟨_, rfl, SlAt.nil _ _ _, (HF.out.2.2.1.setO (by omega) _ _).setO (by omega) _ _, (HF.out.2.2.2.2.1.setO bz hBw _ _).setO bz hBw _ _, fun q hq => by simp [Value.ownBlock] at hq⟩
        | true =>
          have c0 : w8.cell? ⟨B, 0, none⟩ = some (.slice pv nv cv) := by rw [Lib.cell_of_heap HF.out.1]; rfl
          have c1 : w8.cell? ⟨B, 1, none⟩ = some (.bool no) := by rw [Lib.cell_of_heap HF.out.1]; rfl
          have f0 : w8.frozen? ⟨B, 0, none⟩ = false := Lib.frozen_of_heap HF.out.1 0
          have f1 : w8.frozen? ⟨B, 1, none⟩ = false := Lib.frozen_of_heap HF.out.1 1
          have hrow := HF.out.2.2.2.2.2
          go_wp2
          refine bodyPost_ret (v := .agg #[.slice pv nv cv, .bool no]) (by rw [results_cellG rfl]; go_simp) rfl ?_
          unfold GatePost
          rw [HXX.out]
          exact ⟨_, rfl, (HF.out.2.1.set _ _ (fun e => by have := hrow _ e; omega)).set _ _ (fun e => by have := hrow _ e; omega), (HF.out.2.2.1.setO (by omega) _ _).setO (by omega) _ _, (HF.out.2.2.2.2.1.setO bz hBw _ _).setO bz hBw _ _, fun q hq => by have := hrow q hq; exact ⟨by omega, by simp; omega⟩⟩
end Go.Proofs.YtefnkoofgpmmmaaGreatDoor

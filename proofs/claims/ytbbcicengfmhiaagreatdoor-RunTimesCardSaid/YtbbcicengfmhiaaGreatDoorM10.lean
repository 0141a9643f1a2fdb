/- lockagelaw's run.task: a task read. Conditions: sizes. What run.Read reads, plain: tasks, parts, a run; their bounds. What was read without a fault stands written ahead of the rest. Plain. -/
import Derived.Test.YtbbcicengfmhiaaGreatDoorM8
import Derived.Test.YtbbcicengfmhiaaGreatDoorM9
import Derived.Test.YtbbcicengfmhiaaGreatDoorM4
namespace Go.Proofs.YtbbcicengfmhiaaGreatDoor
set_option maxRecDepth 100000
open Go.RowKit

/-- k numbers of 0..7 read -/
def rdM : Nat → List UInt8 × Bool → List Int × (List UInt8 × Bool)
  | 0, st => ([], st)
  | k + 1, st => ((rdM k st).1 ++ [(rdStep (rdM k st).2.1 (rdM k st).2.2 0 7).1], (rdStep (rdM k st).2.1 (rdM k st).2.2 0 7).2)
theorem rdM_len (k : Nat) (st : List UInt8 × Bool) : (rdM k st).1.length = k := by
  induction k with
  | zero => rfl
  | succ k ih => simp [rdM, ih]
theorem rdM_le (k : Nat) (st : List UInt8 × Bool) : (rdM k st).2.1.length ≤ st.1.length := by
  induction k with
  | zero => exact Nat.le_refl _
  | succ k ih => exact Nat.le_trans (rdStep_le _ _ _ _) ih
/-- a task's read under way: its box at B, the row of its afters behind base -/
def TkAt (w0 : World) (nm : ByteArray) (b B base k : Nat) (v : Value) (st : List UInt8 × Bool) (l : List Int) (w : World) : Prop :=
  (B < base ∧ base ≤ w.heap.size) ∧ w.heap[B]? = some (.cells #[.string nm, v, .int .i64 0, .int .i64 0, .int .i64 0, .int .i64 0, .int .u16 0] 100 (0, 0)) ∧ w.ownsRow base 3 1 v k (flat encI l) ∧ RdAt b st.1 st.2 w ∧ Met w ∧ KeptB b w0 w
theorem TkAt.below {w0 w w' : World} {nm : ByteArray} {b B base k : Nat} {v : Value} {st : List UInt8 × Bool} {l : List Int} (h : TkAt w0 nm b B base k v st l w) (h0 : b < w0.heap.size) (hb : Below w.heap.size w w') : TkAt w0 nm b B base k v st l w' := by
  obtain ⟨⟨z1, z2⟩, h1, h2, h3, h4, h5⟩ := h
  exact ⟨⟨z1, Nat.le_trans z2 hb.size⟩, (hb.block B (by omega)).trans h1, owns_below h2 hb, h3.below hb, h4.below hb, h5.trans (KeptB.of (Nat.lt_of_lt_of_le h0 h5.2.2) hb)⟩
theorem TkAt.read {w0 w w' : World} {nm : ByteArray} {b B base k : Nat} {v : Value} {st st' : List UInt8 × Bool} {l : List Int} (h : TkAt w0 nm b B base k v st l w) (h9 : 9 ≤ b) (hbB : b < B) (hr : RdAt b st'.1 st'.2 w') (hk : KeptB b w w') : TkAt w0 nm b B base k v st' l w' := by
  obtain ⟨⟨z1, z2⟩, h1, h2, h3, h4, h5⟩ := h
  refine ⟨⟨z1, Nat.le_trans z2 hk.2.2⟩, (hk.2.1 B (by omega) (by omega)).trans h1, owns_keptI h2 (fun q hq => hk.2.1 q (owns_lt h2 hq) ?_), hr, hk.met h4 h9, h5.trans hk⟩
  have := owns_block h2 q hq
  omega
theorem TkAt.put {w0 w w' : World} {nm : ByteArray} {b B base k : Nat} {v v' : Value} {st : List UInt8 × Bool} {l l' : List Int} (h : TkAt w0 nm b B base k v st l w) (h9 : 9 ≤ b) (hbB : b < w0.heap.size) (hB : w0.heap.size ≤ B) (hg : w.grownBy w' v.ownBlock) (ho : w'.ownsRow base 3 1 v' (k + 1) (flat encI l')) :
    TkAt w0 nm b B base (k + 1) v' st l' (w'.setCell ⟨B, 1, none⟩ v') := by
  obtain ⟨⟨z1, z2⟩, h1, h2, h3, h4, h5⟩ := h
  have hrow : ∀ q, v.ownBlock = some q → base ≤ q := fun q hq => owns_block h2 q hq
  have hb0 : ∀ B', B' ≤ b → Below B' w (w'.setCell ⟨B, 1, none⟩ v') := fun B' hB' => ((Below.refl B' w).grown hg (by have := h3.1; omega) (fun q hq => by have := hrow q hq; omega)).setCell (p := ⟨B, 1, none⟩) (by show B' ≤ B; omega) _
  have hbl : ∀ q, q < w.heap.size → q < base → q ≠ B → (w'.setCell ⟨B, 1, none⟩ v').heap[q]? = w.heap[q]? := fun q h1 h2 h3 => by
    rw [Below.heap_setCell _ _ _ _ h3]
    exact hg.block q h1 (fun e => by have := hrow q e.symm; omega)
  have hB1 : w'.heap[B]? = some (.cells #[.string nm, v, .int .i64 0, .int .i64 0, .int .i64 0, .int .i64 0, .int .u16 0] 100 (0, 0)) := (hg.block B (by omega) (fun e => by have := hrow B e.symm; omega)).trans h1
  have hsz := hg.size
  refine ⟨⟨z1, by simp; omega⟩, by rw [Joins.block_setCell hB1]; rfl, owns_keptI ho (fun q hq => Below.heap_setCell _ _ _ _ (show q ≠ B by have := owns_block ho q hq; omega)), h3.of_block (by simp; omega) (hbl b h3.1 (by omega) (by omega)), h4.belowB (hb0 b (Nat.le_refl _)) h9, ⟨fun B' hB' => (h5.1 B' hB').trans (hb0 B' hB'), fun q h1 h2 => (hbl q (by have := h5.2.2; omega) (by omega) (by omega)).trans (h5.2.1 q h1 h2), by have := h5.2.2; simp; omega⟩⟩
theorem rdText_le (s : List UInt8) (bad : Bool) (m : Int) : (rdText s bad m).2.1.length ≤ s.length := by
  have := rdStep_le s bad 0 m
  unfold rdText
  split
  · exact this
  · split
    · exact this
    · simp only [List.length_drop]
      omega
/-- the afters read, in their box -/
def Tk2 (w0 : World) (b B : Nat) (cs : List Value) (v : Value) (st : List UInt8 × Bool) (l : List Int) (w : World) : Prop :=
  BlkIs w B cs 100 ∧ SlAt 1 encI w v l ∧ RdAt b st.1 st.2 w ∧ Met w ∧ KeptB b w0 w ∧ ∀ q, v.ownBlock = some q → B < q ∧ q < w.heap.size
theorem Tk2.read {w0 w w' : World} {b B : Nat} {cs : List Value} {v : Value} {st st' : List UInt8 × Bool} {l : List Int} (h : Tk2 w0 b B cs v st l w) (h9 : 9 ≤ b) (hbB : b < B) (hr : RdAt b st'.1 st'.2 w') (hk : KeptB b w w') : Tk2 w0 b B cs v st' l w' := by
  obtain ⟨h1, h2, h3, h4, h5, h6⟩ := h
  exact ⟨h1.of (hk.2.1 B h1.lt (by omega)), h2.keptB hk (fun e => by have := h6 _ e; omega), hr, hk.met h4 h9, h5.trans hk, fun q hq => ⟨(h6 q hq).1, Nat.lt_of_lt_of_le (h6 q hq).2 hk.2.2⟩⟩
theorem Tk2.setc {w0 w : World} {b B : Nat} {cs : List Value} {v : Value} {st : List UInt8 × Bool} {l : List Int} (h : Tk2 w0 b B cs v st l w) (h9 : 9 ≤ b) (hb : b < w0.heap.size) (hB : w0.heap.size ≤ B) (i : Nat) (u : Value) : Tk2 w0 b B (cs.set i u) v st l (w.setCell ⟨B, i, none⟩ u) := by
  obtain ⟨h1, h2, h3, h4, h5, h6⟩ := h
  exact ⟨h1.set u, h2.set _ _ (fun e => by have := h6 _ e; omega), h3.setO (by omega) _ _, h4.belowB ((Below.refl b w).setCell (p := ⟨B, i, none⟩) (by show b ≤ B; omega) _) h9, h5.setO hb hB _ _, fun q hq => ⟨(h6 q hq).1, by have := (h6 q hq).2; simp; omega⟩⟩
theorem TkAt.two {w0 w : World} {nm : ByteArray} {b B base k : Nat} {v : Value} {st : List UInt8 × Bool} {l : List Int} (h : TkAt w0 nm b B base k v st l w) (hl : l.length = k) : Tk2 w0 b B [.string nm, v, .int .i64 0, .int .i64 0, .int .i64 0, .int .i64 0, .int .u16 0] v st l w := by
  obtain ⟨⟨z1, z2⟩, h1, h2, h3, h4, h5⟩ := h
  subst hl
  exact ⟨h1, SlAt.of_owns (enc := encI) (fun _ => rfl) h2, h3, h4, h5, fun q hq => by have := owns_block h2 q hq; have := owns_lt h2 hq; omega⟩
/-- what a task's read gives -/
structure RdT where
  nm : List UInt8
  af : List Int
  r : Int
  t : Int
  n : Int
  lb : Int × Nat
  st : List UInt8 × Bool
def rdTask (s : List UInt8) (bad : Bool) : RdT :=
  let x := rdText s bad 8
  let c := rdStep x.2.1 x.2.2 0 8
  let l := rdM c.1.toNat c.2
  let r := rdStep l.2.1 l.2.2 0 5
  let t := rdStep r.2.1 r.2.2 1 100
  let n := rdStep t.2.1 t.2.2 0 4
  let lb := rdLabel n.2.1 n.2.2
  ⟨x.1, l.1, r.1, t.1, n.1, lb.1, lb.2⟩
def TaskPost (b : Nat) (x : RdT) (w : World) (e : Ending) (w' : World) : Prop :=
  ∃ v, e = .returned (.agg #[.string ⟨x.nm.toArray⟩, v, .int .i64 x.r, .int .i64 x.t, .int .i64 x.n, .int .i64 x.lb.1, .int .u16 (x.lb.2 : Int)]) ∧ SlAt 1 encI w' v x.af ∧ RdAt b x.st.1 x.st.2 w' ∧ KeptB b w w' ∧ ∀ q, v.ownBlock = some q → w.heap.size ≤ q ∧ q < w'.heap.size
set_option maxHeartbeats 16000000 in
theorem taskRead (b : Nat) (s : List UInt8) (bad : Bool) (w : World) (h : RdAt b s bad w) (hM : Met w) (h9 : 9 ≤ b) (hs : s.length < 4294967281) :
    Calls Tryz.prog 47 #[.pointer (some ⟨b, 0, none⟩)] w (TaskPost b (rdTask s bad) w) := by
  obtain ⟨i0, hi, hz0, hz1, hz2⟩ := info_int
  have bz := h.1
  have KT := Lib.hid (fun W (h : RdAt b s bad W) (hM : Met W) => readerText b s bad 8 W h hM h9 hs)
  obtain ⟨x0, hx0⟩ : ∃ x, x = rdText s bad 8 := ⟨_, rfl⟩
  have HX0 := Lib.hid hx0
  have hxl := rdText_le s bad 8
  unfold TextPost at KT
  rw [← hx0] at KT hxl
  obtain ⟨nml, s0, b0⟩ := x0
  dsimp only at KT hxl
  have K1 := Lib.hid (fun W (h : RdAt b s0 b0 W) (hM : Met W) => readerInt b s0 b0 0 8 W h hM h9 (by omega))
  obtain ⟨c, hc⟩ : ∃ c, c = rdStep s0 b0 0 8 := ⟨_, rfl⟩
  have HC := Lib.hid hc
  have hc1 := rdStep_01 s0 b0 8 (by decide)
  rw [← hc] at hc1
  have hc2 := rdStep_le s0 b0 0 8
  rw [← hc] at hc2
  unfold IntPost at K1
  rw [← hc] at K1
  obtain ⟨n, s1, b1⟩ := c
  dsimp only at hc1 hc2 K1
  obtain ⟨m, rfl⟩ := Int.eq_ofNat_of_zero_le hc1.1
  have hb0 := below1 w (.cells #[.string ⟨#[]⟩, .slice none 0 0, .int .i64 0, .int .i64 0, .int .i64 0, .int .i64 0, .int .u16 0] 100)
  have HR := Lib.hid (h.below hb0)
  have HM := Lib.hid (hM.below hb0)
  have HK := Lib.hid (KeptB.of bz hb0)
  have HX := Lib.hid (MapKept.heap_alloc w (.cells #[.string ⟨#[]⟩, .slice none 0 0, .int .i64 0, .int .i64 0, .int .i64 0, .int .i64 0, .int .u16 0] 100)).1
  have hne : w.heap.size ≠ b := by omega
  clear h hM hb0 hc hx0
  go_enter Tryz.func47, Tryz.ntmps47
  go_wp2_with fail
  generalize w.alloc (.cells #[.string ⟨#[]⟩, .slice none 0 0, .int .i64 0, .int .i64 0, .int .i64 0, .int .i64 0, .int .u16 0] 100) = W0 at HR HM HK HX ⊢
  refine (KT.out W0 HR.out HM.out).mono ?_
  rintro e w1 ⟨rfl, hr, hk⟩
  have hx1 := (hk.2.1 w.heap.size (Array.getElem?_eq_some_iff.1 HX.out).1 hne).trans HX.out
  have HM1 := Lib.hid (hk.met HM.out h9)
  have HK1 := Lib.hid (HK.out.trans hk)
  have HR1 := Lib.hid hr
  have HX1 := Lib.hid hx1
  clear hk hr hx1 HR HM HK HX KT
  have c0 : w1.cell? ⟨w.heap.size, 0, none⟩ = some (.string ⟨#[]⟩) := by rw [Lib.cell_of_heap HX1.out]; rfl
  have f0 : w1.frozen? ⟨w.heap.size, 0, none⟩ = false := Lib.frozen_of_heap HX1.out 0
  obtain ⟨nm, hnm⟩ : ∃ x : ByteArray, x = ⟨nml.toArray⟩ := ⟨_, rfl⟩
  have HNM := Lib.hid hnm
  rw [← hnm]
  clear hnm
  have HX2 := Lib.hid (show (w1.setCell ⟨w.heap.size, 0, none⟩ (.string nm)).heap[w.heap.size]? = some (.cells #[.string nm, .slice none 0 0, .int .i64 0, .int .i64 0, .int .i64 0, .int .i64 0, .int .u16 0] 100 (0, 0)) by rw [Joins.block_setCell HX1.out]; rfl)
  have HR2 := Lib.hid (HR1.out.setO (Ne.symm hne) 0 (.string nm))
  have HK2 := Lib.hid (HK1.out.setO bz (Nat.le_refl _) 0 (.string nm))
  have HM2 := Lib.hid (show Met (w1.setCell ⟨w.heap.size, 0, none⟩ (.string nm)) from HM1.out.belowB ((Below.refl b w1).setCell (p := ⟨w.heap.size, 0, none⟩) (by show b ≤ w.heap.size; omega) _) h9)
  go_wp2_with fail
  generalize w1.setCell ⟨w.heap.size, 0, none⟩ (.string nm) = w2 at *
  clear c0 f0 HX1 HR1 HK1 HM1
  refine (K1.out w2 HR2.out HM2.out).mono ?_
  rintro e w3 ⟨rfl, hr, hk⟩
  have hx1 := (hk.2.1 w.heap.size (Array.getElem?_eq_some_iff.1 HX2.out).1 hne).trans HX2.out
  have HM1 := Lib.hid (hk.met HM2.out h9)
  have HK1 := Lib.hid (HK2.out.trans hk)
  have HR1 := Lib.hid hr
  have HX1 := Lib.hid hx1
  clear hk hr hx1 HR2 HM2 HK2 HX2 K1
  go_wp2_with fail
  obtain ⟨B, hBe⟩ : ∃ B, B = w.heap.size := ⟨_, rfl⟩
  obtain ⟨base, hba⟩ : ∃ x, x = w3.heap.size := ⟨_, rfl⟩
  have hBw : w.heap.size ≤ B := by omega
  have hbB : b < B := by omega
  have hG0 : TkAt w nm b B base 0 (.slice none 0 0) (rdM 0 (s1, b1)).2 (rdM 0 (s1, b1)).1 w3 := by
    have hlt := (Array.getElem?_eq_some_iff.1 HX1.out).1
    exact ⟨⟨by omega, by omega⟩, by rw [hBe]; exact HX1.out, ⟨by simp [rdM, flat], .inl ⟨rfl, rfl⟩⟩, HR1.out, HM1.out, HK1.out⟩
  have HG0 := Lib.hid hG0
  rw [← hBe]
  clear hG0 HR1 HM1 HK1 HX1 hBe hba
  go_loopw [8] (fun t wr => ∃ k : Nat, k ≤ m ∧ t = .int .i64 k ∧ ∃ v, TkAt w nm b B base k v (rdM k (s1, b1)).2 (rdM k (s1, b1)).1 wr) (fun t _ => m - (intOf t).toNat)
  case atStart => exact ⟨0, by omega, rfl, _, HG0.out⟩
  case round =>
    obtain ⟨k, hk, rfl, v, hg⟩ := hrel
    have HG := Lib.hid hg
    clear hg HG0
    by_cases hlt : k < m
    · have hltz : (k : Int) < (m : Int) := by omega
      have hlen := rdM_le k (s1, b1)
      have hE : rdM (k + 1) (s1, b1) = ((rdM k (s1, b1)).1 ++ [(rdStep (rdM k (s1, b1)).2.1 (rdM k (s1, b1)).2.2 0 7).1], (rdStep (rdM k (s1, b1)).2.1 (rdM k (s1, b1)).2.2 0 7).2) := rfl
      have hll := rdM_len k (s1, b1)
      obtain ⟨R, hR⟩ : ∃ R, R = rdM k (s1, b1) := ⟨_, rfl⟩
      rw [← hR] at HG hlen hE hll
      obtain ⟨l, sk, bk⟩ := R
      dsimp only at HG hlen hE hll
      have hKC := fun W (h : RdAt b sk bk W) (hM : Met W) => readerInt b sk bk 0 7 W h hM h9 (by omega)
      unfold IntPost at hKC
      obtain ⟨r, hr⟩ : ∃ r, r = rdStep sk bk 0 7 := ⟨_, rfl⟩
      rw [← hr] at hKC hE
      obtain ⟨x, s', b'⟩ := r
      dsimp only at hKC hE
      have HE := Lib.hid hE
      have KC := Lib.hid hKC
      clear hE hKC hr hR
      have c0 : wr.cell? ⟨B, 1, none⟩ = some v := by rw [Lib.cell_of_heap HG.out.2.1]; rfl
      go_wp2_with fail
      refine wp_region_held_drew (S := fun _ => True) (by kernel_rfl) trivial (fun hH0 => ?_)
      try dsimp only [List.size_toArray, List.length_cons, List.length_nil]
      have HG := Lib.hid (HG.out.below bz (Below.refl _ _).drew)
      have c0 : wr.drew.cell? ⟨B, 1, none⟩ = some v := c0
      generalize wr.drew = v0 at HG c0 ⊢
      refine takeL (i := 0) rfl (v := ?vt1) (by kernel_rfl) (by kernel_rfl) (by kernel_rfl) (fun _ _ _ h => h) (Or.inl ⟨by rfl, fun _w _hSw => ?hyt1⟩) (by assumption) ?restt1
      case hyt1 =>
        (try dsimp only at _hSw)
        go_simp
        try with_reducible rfl
      try simp only [Act.put, List.setIfInBounds_toArray, List.set_cons_zero, List.set_cons_succ]
      refine takeL (i := 2) rfl (v := ?vt2) (by kernel_rfl) (by kernel_rfl) (by kernel_rfl) (fun _ _ _ h => h) (Or.inl ⟨by rfl, fun _w _hSw => ?hyt2⟩) (by assumption) ?restt2
      case hyt2 =>
        (try dsimp only at _hSw)
        go_simp
        try with_reducible rfl
      try simp only [Act.put, List.setIfInBounds_toArray, List.set_cons_zero, List.set_cons_succ]
      refine wpAnyH_ready (rs := [1, 3]) (by kernel_rfl) (by simp) (readyL rfl (fun K1 hK => ?_) (readyL rfl (fun K1 hK => ?_) AllReadyH.nil))
      ·
        go_simp
        refine hK.out _ _ trivial (fun _ => ?_)
        clear hK K1
        try simp only [Act.put, List.setIfInBounds_toArray, List.set_cons_zero, List.set_cons_succ]
        refine wpAnyH_ready (rs := [3]) (by kernel_rfl) (by simp) (readyL rfl (fun K1 hK => ?_) AllReadyH.nil)
        go_simp
        have hrd0 := HG.out.2.2.2.1
        have hmt0 := HG.out.2.2.2.2.1
        with_reducible refine (KC.out _ hrd0 hmt0).mono ?_
        rintro e v1 ⟨rfl, hr1, hk1⟩
        try dsimp only
        refine hK.out _ _ trivial (fun _ => ?_)
        have HG := Lib.hid (TkAt.read (st' := (s', b')) HG.out h9 hbB hr1 hk1)
        clear hK K1 hr1 hk1 hrd0 hmt0
        have c0 : v1.cell? ⟨B, 1, none⟩ = some v := by rw [Lib.cell_of_heap HG.out.2.1]; rfl
        try simp only [Act.put, List.setIfInBounds_toArray, List.set_cons_zero, List.set_cons_succ]
        refine wpAnyH_ready (rs := [4]) (by kernel_rfl) (by simp) (readyL rfl (fun K1 hK => ?_) AllReadyH.nil)
        go_simp
        refine hK.out _ _ trivial (fun _ => ?_)
        have HG := Lib.hid (HG.out.below bz (below1 _ (.cells #[.int .i64 x] 3)))
        have cx : (v1.alloc (.cells #[.int .i64 x] 3)).cell? ⟨v1.heap.size, 0, none⟩ = some (.int .i64 x) := by go_simp
        have c0 : (v1.alloc (.cells #[.int .i64 x] 3)).cell? ⟨B, 1, none⟩ = some v := by rw [Lib.cell_of_heap HG.out.2.1]; rfl
        clear hK K1
        generalize v1.alloc (.cells #[.int .i64 x] 3) = v2 at HG cx c0 ⊢
        generalize v1.heap.size = bx at cx ⊢
        try simp only [Act.put, List.setIfInBounds_toArray, List.set_cons_zero, List.set_cons_succ]
        refine wpAnyH_ready (rs := [5]) (by kernel_rfl) (by simp) (readyL rfl (fun K1 hK => ?_) AllReadyH.nil)
        rw [if_pos (by kernel_rfl)]
        refine wp_append_own _ (.tmp 11) (.tmp 14) 98 rfl base 3 i0 (.int .i64 0) 1 8 Tryz.underlying98 hi hz0 hz1 hz2 rfl (by decide) v k (flat encI l) rfl HG.out.2.2.1 ⟨bx, 0, none⟩ 1 1 [.int .i64 x] rfl rfl ?_ ?_ ?_ ?_ HG.out.1.2 ?_
        · rintro jj u hj
          match jj, hj with
          | 0, hj => simp at hj; subst hj; rw [Go.WideShapes.add_plain]; exact cx
        · simp [Value.oneCell']
        · unfold maxLen; omega
        · omega
        intro v' w3 hown3 hgrow _
        obtain ⟨pv, nv, cv, rfl⟩ : ∃ p n c, v' = Value.slice p n c := by
          rcases hown3.2 with ⟨e, _⟩ | ⟨g, cap, cur, e, _⟩
          · exact ⟨_, _, _, e⟩
          · exact ⟨_, _, _, e⟩
        refine hK.out _ _ trivial (fun _ => ?_)
        have HP := Lib.hid (TkAt.put (l' := l ++ [x]) HG.out h9 bz hBw hgrow (by simpa [flat, encI] using hown3))
        have cf : w3.cell? ⟨B, 1, none⟩ = some v := by
          have hB1 : w3.heap[B]? = _ := (hgrow.block B (by have := HG.out.1; omega) (fun e => by have := owns_block HG.out.2.2.1 B e.symm; have := HG.out.1; omega)).trans HG.out.2.1
          rw [Lib.cell_of_heap hB1]; rfl
        have cfz : w3.frozen? ⟨B, 1, none⟩ = false := by
          have hB1 : w3.heap[B]? = _ := (hgrow.block B (by have := HG.out.1; omega) (fun e => by have := owns_block HG.out.2.2.1 B e.symm; have := HG.out.1; omega)).trans HG.out.2.1
          exact Lib.frozen_of_heap hB1 1
        clear hK K1 hown3 hgrow c0 cx
        try simp only [Act.put, List.setIfInBounds_toArray, List.set_cons_zero, List.set_cons_succ]
        refine takeL (i := 6) rfl (v := ?vt3) (by kernel_rfl) (by kernel_rfl) (by kernel_rfl) (fun _ _ _ h => h) (Or.inl ⟨by rfl, fun _w _hSw => ?hyt3⟩) (by assumption) ?restt3
        case hyt3 =>
          (try dsimp only at _hSw)
          go_simp
          try with_reducible rfl
        try simp only [Act.put, List.setIfInBounds_toArray, List.set_cons_zero, List.set_cons_succ]
        refine wpAnyH_ready (rs := [7]) (by kernel_rfl) (by simp) (readyL rfl (fun K1 hK => ?_) AllReadyH.nil)
        go_simp
        refine hK.out _ _ trivial (fun _ => ?_)
        clear hK K1 cf cfz
        try simp only [Act.put, List.setIfInBounds_toArray, List.set_cons_zero, List.set_cons_succ]
        refine wpAnyH_done (by kernel_rfl) ?_ _
        go_wp2
        go_roundw
        case rel =>
          have hR : rdM (k + 1) (s1, b1) = (l ++ [x], (s', b')) := HE.out
          first | exact ⟨k + 1, by omega, by go_num, _, by rw [hR]; exact HP.out⟩ | trace_state
        case measure => simp [intOf] <;> omega
      ·
        go_simp
        have hrd0 := HG.out.2.2.2.1
        have hmt0 := HG.out.2.2.2.2.1
        with_reducible refine (KC.out _ hrd0 hmt0).mono ?_
        rintro e v1 ⟨rfl, hr1, hk1⟩
        try dsimp only
        refine hK.out _ _ trivial (fun _ => ?_)
        have HG := Lib.hid (TkAt.read (st' := (s', b')) HG.out h9 hbB hr1 hk1)
        clear hK K1 hr1 hk1 hrd0 hmt0
        have c0 : v1.cell? ⟨B, 1, none⟩ = some v := by rw [Lib.cell_of_heap HG.out.2.1]; rfl
        try simp only [Act.put, List.setIfInBounds_toArray, List.set_cons_zero, List.set_cons_succ]
        refine wpAnyH_ready (rs := [1, 4]) (by kernel_rfl) (by simp) (readyL rfl (fun K1 hK => ?_) (readyL rfl (fun K1 hK => ?_) AllReadyH.nil))
        ·
          go_simp
          refine hK.out _ _ trivial (fun _ => ?_)
          clear hK K1
          try simp only [Act.put, List.setIfInBounds_toArray, List.set_cons_zero, List.set_cons_succ]
          refine wpAnyH_ready (rs := [4]) (by kernel_rfl) (by simp) (readyL rfl (fun K1 hK => ?_) AllReadyH.nil)
          go_simp
          refine hK.out _ _ trivial (fun _ => ?_)
          have HG := Lib.hid (HG.out.below bz (below1 _ (.cells #[.int .i64 x] 3)))
          have cx : (v1.alloc (.cells #[.int .i64 x] 3)).cell? ⟨v1.heap.size, 0, none⟩ = some (.int .i64 x) := by go_simp
          have c0 : (v1.alloc (.cells #[.int .i64 x] 3)).cell? ⟨B, 1, none⟩ = some v := by rw [Lib.cell_of_heap HG.out.2.1]; rfl
          clear hK K1
          generalize v1.alloc (.cells #[.int .i64 x] 3) = v2 at HG cx c0 ⊢
          generalize v1.heap.size = bx at cx ⊢
          try simp only [Act.put, List.setIfInBounds_toArray, List.set_cons_zero, List.set_cons_succ]
          refine wpAnyH_ready (rs := [5]) (by kernel_rfl) (by simp) (readyL rfl (fun K1 hK => ?_) AllReadyH.nil)
          rw [if_pos (by kernel_rfl)]
          refine wp_append_own _ (.tmp 11) (.tmp 14) 98 rfl base 3 i0 (.int .i64 0) 1 8 Tryz.underlying98 hi hz0 hz1 hz2 rfl (by decide) v k (flat encI l) rfl HG.out.2.2.1 ⟨bx, 0, none⟩ 1 1 [.int .i64 x] rfl rfl ?_ ?_ ?_ ?_ HG.out.1.2 ?_
          · rintro jj u hj
            match jj, hj with
            | 0, hj => simp at hj; subst hj; rw [Go.WideShapes.add_plain]; exact cx
          · simp [Value.oneCell']
          · unfold maxLen; omega
          · omega
          intro v' w3 hown3 hgrow _
          obtain ⟨pv, nv, cv, rfl⟩ : ∃ p n c, v' = Value.slice p n c := by
            rcases hown3.2 with ⟨e, _⟩ | ⟨g, cap, cur, e, _⟩
            · exact ⟨_, _, _, e⟩
            · exact ⟨_, _, _, e⟩
          refine hK.out _ _ trivial (fun _ => ?_)
          have HP := Lib.hid (TkAt.put (l' := l ++ [x]) HG.out h9 bz hBw hgrow (by simpa [flat, encI] using hown3))
          have cf : w3.cell? ⟨B, 1, none⟩ = some v := by
            have hB1 : w3.heap[B]? = _ := (hgrow.block B (by have := HG.out.1; omega) (fun e => by have := owns_block HG.out.2.2.1 B e.symm; have := HG.out.1; omega)).trans HG.out.2.1
            rw [Lib.cell_of_heap hB1]; rfl
          have cfz : w3.frozen? ⟨B, 1, none⟩ = false := by
            have hB1 : w3.heap[B]? = _ := (hgrow.block B (by have := HG.out.1; omega) (fun e => by have := owns_block HG.out.2.2.1 B e.symm; have := HG.out.1; omega)).trans HG.out.2.1
            exact Lib.frozen_of_heap hB1 1
          clear hK K1 hown3 hgrow c0 cx
          try simp only [Act.put, List.setIfInBounds_toArray, List.set_cons_zero, List.set_cons_succ]
          refine takeL (i := 6) rfl (v := ?vt4) (by kernel_rfl) (by kernel_rfl) (by kernel_rfl) (fun _ _ _ h => h) (Or.inl ⟨by rfl, fun _w _hSw => ?hyt4⟩) (by assumption) ?restt4
          case hyt4 =>
            (try dsimp only at _hSw)
            go_simp
            try with_reducible rfl
          try simp only [Act.put, List.setIfInBounds_toArray, List.set_cons_zero, List.set_cons_succ]
          refine wpAnyH_ready (rs := [7]) (by kernel_rfl) (by simp) (readyL rfl (fun K1 hK => ?_) AllReadyH.nil)
          go_simp
          refine hK.out _ _ trivial (fun _ => ?_)
          clear hK K1 cf cfz
          try simp only [Act.put, List.setIfInBounds_toArray, List.set_cons_zero, List.set_cons_succ]
          refine wpAnyH_done (by kernel_rfl) ?_ _
          go_wp2
          go_roundw
          case rel =>
            have hR : rdM (k + 1) (s1, b1) = (l ++ [x], (s', b')) := HE.out
            first | exact ⟨k + 1, by omega, by go_num, _, by rw [hR]; exact HP.out⟩ | trace_state
          case measure => simp [intOf] <;> omega
        ·
          go_simp
          refine hK.out _ _ trivial (fun _ => ?_)
          have HG := Lib.hid (HG.out.below bz (below1 _ (.cells #[.int .i64 x] 3)))
          have cx : (v1.alloc (.cells #[.int .i64 x] 3)).cell? ⟨v1.heap.size, 0, none⟩ = some (.int .i64 x) := by go_simp
          have c0 : (v1.alloc (.cells #[.int .i64 x] 3)).cell? ⟨B, 1, none⟩ = some v := by rw [Lib.cell_of_heap HG.out.2.1]; rfl
          clear hK K1
          generalize v1.alloc (.cells #[.int .i64 x] 3) = v2 at HG cx c0 ⊢
          generalize v1.heap.size = bx at cx ⊢
          try simp only [Act.put, List.setIfInBounds_toArray, List.set_cons_zero, List.set_cons_succ]
          refine wpAnyH_ready (rs := [1]) (by kernel_rfl) (by simp) (readyL rfl (fun K1 hK => ?_) AllReadyH.nil)
          go_simp
          refine hK.out _ _ trivial (fun _ => ?_)
          clear hK K1
          try simp only [Act.put, List.setIfInBounds_toArray, List.set_cons_zero, List.set_cons_succ]
          refine wpAnyH_ready (rs := [5]) (by kernel_rfl) (by simp) (readyL rfl (fun K1 hK => ?_) AllReadyH.nil)
          rw [if_pos (by kernel_rfl)]
          refine wp_append_own _ (.tmp 11) (.tmp 14) 98 rfl base 3 i0 (.int .i64 0) 1 8 Tryz.underlying98 hi hz0 hz1 hz2 rfl (by decide) v k (flat encI l) rfl HG.out.2.2.1 ⟨bx, 0, none⟩ 1 1 [.int .i64 x] rfl rfl ?_ ?_ ?_ ?_ HG.out.1.2 ?_
          · rintro jj u hj
            match jj, hj with
            | 0, hj => simp at hj; subst hj; rw [Go.WideShapes.add_plain]; exact cx
          · simp [Value.oneCell']
          · unfold maxLen; omega
          · omega
          intro v' w3 hown3 hgrow _
          obtain ⟨pv, nv, cv, rfl⟩ : ∃ p n c, v' = Value.slice p n c := by
            rcases hown3.2 with ⟨e, _⟩ | ⟨g, cap, cur, e, _⟩
            · exact ⟨_, _, _, e⟩
            · exact ⟨_, _, _, e⟩
          refine hK.out _ _ trivial (fun _ => ?_)
          have HP := Lib.hid (TkAt.put (l' := l ++ [x]) HG.out h9 bz hBw hgrow (by simpa [flat, encI] using hown3))
          have cf : w3.cell? ⟨B, 1, none⟩ = some v := by
            have hB1 : w3.heap[B]? = _ := (hgrow.block B (by have := HG.out.1; omega) (fun e => by have := owns_block HG.out.2.2.1 B e.symm; have := HG.out.1; omega)).trans HG.out.2.1
            rw [Lib.cell_of_heap hB1]; rfl
          have cfz : w3.frozen? ⟨B, 1, none⟩ = false := by
            have hB1 : w3.heap[B]? = _ := (hgrow.block B (by have := HG.out.1; omega) (fun e => by have := owns_block HG.out.2.2.1 B e.symm; have := HG.out.1; omega)).trans HG.out.2.1
            exact Lib.frozen_of_heap hB1 1
          clear hK K1 hown3 hgrow c0 cx
          try simp only [Act.put, List.setIfInBounds_toArray, List.set_cons_zero, List.set_cons_succ]
          refine takeL (i := 6) rfl (v := ?vt5) (by kernel_rfl) (by kernel_rfl) (by kernel_rfl) (fun _ _ _ h => h) (Or.inl ⟨by rfl, fun _w _hSw => ?hyt5⟩) (by assumption) ?restt5
          case hyt5 =>
            (try dsimp only at _hSw)
            go_simp
            try with_reducible rfl
          try simp only [Act.put, List.setIfInBounds_toArray, List.set_cons_zero, List.set_cons_succ]
          refine wpAnyH_ready (rs := [7]) (by kernel_rfl) (by simp) (readyL rfl (fun K1 hK => ?_) AllReadyH.nil)
          go_simp
          refine hK.out _ _ trivial (fun _ => ?_)
          clear hK K1 cf cfz
          try simp only [Act.put, List.setIfInBounds_toArray, List.set_cons_zero, List.set_cons_succ]
          refine wpAnyH_done (by kernel_rfl) ?_ _
          go_wp2
          go_roundw
          case rel =>
            have hR : rdM (k + 1) (s1, b1) = (l ++ [x], (s', b')) := HE.out
            first | exact ⟨k + 1, by omega, by go_num, _, by rw [hR]; exact HP.out⟩ | trace_state
          case measure => simp [intOf] <;> omega
    · obtain rfl : k = m := by omega
      obtain ⟨R, hR⟩ : ∃ R, R = rdM k (s1, b1) := ⟨_, rfl⟩
      have hll := rdM_len k (s1, b1)
      have hle := rdM_le k (s1, b1)
      have hRT := Lib.hid (show rdTask s bad = _ from rfl)
      rw [← hR] at HG hll hle
      obtain ⟨r1, hr1⟩ : ∃ x, x = rdStep R.2.1 R.2.2 0 5 := ⟨_, rfl⟩
      obtain ⟨r2, hr2⟩ : ∃ x, x = rdStep r1.2.1 r1.2.2 1 100 := ⟨_, rfl⟩
      obtain ⟨r3, hr3⟩ : ∃ x, x = rdStep r2.2.1 r2.2.2 0 4 := ⟨_, rfl⟩
      obtain ⟨r4, hr4⟩ : ∃ x, x = rdLabel r3.2.1 r3.2.2 := ⟨_, rfl⟩
      have hX : rdTask s bad = ⟨nml, R.1, r1.1, r2.1, r3.1, r4.1, r4.2⟩ := by
        unfold rdTask
        simp only [← HX0.out, ← HC.out, Int.toNat_natCast, ← hR, ← hr1, ← hr2, ← hr3, ← hr4]
      have HXX := Lib.hid hX
      have l1 := rdStep_le R.2.1 R.2.2 0 5
      have l2 := rdStep_le r1.2.1 r1.2.2 1 100
      have l3 := rdStep_le r2.2.1 r2.2.2 0 4
      rw [← hr1] at l1
      rw [← hr2] at l2
      rw [← hr3] at l3
      have hK1 := fun W (h : RdAt b R.2.1 R.2.2 W) (hM : Met W) => readerInt b R.2.1 R.2.2 0 5 W h hM h9 (by dsimp only at hle; omega)
      have hK2 := fun W (h : RdAt b r1.2.1 r1.2.2 W) (hM : Met W) => readerInt b r1.2.1 r1.2.2 1 100 W h hM h9 (by dsimp only at hle; omega)
      have hK3 := fun W (h : RdAt b r2.2.1 r2.2.2 W) (hM : Met W) => readerInt b r2.2.1 r2.2.2 0 4 W h hM h9 (by dsimp only at hle; omega)
      have hK4 := fun W (h : RdAt b r3.2.1 r3.2.2 W) (hM : Met W) => readerLabel b r3.2.1 r3.2.2 W h hM h9 (by dsimp only at hle; omega)
      unfold IntPost at hK1 hK2 hK3
      unfold LblPost at hK4
      rw [← hr1] at hK1
      rw [← hr2] at hK2
      rw [← hr3] at hK3
      rw [← hr4] at hK4
      have KA := Lib.hid hK1
      have KB := Lib.hid hK2
      have KC := Lib.hid hK3
      have KD := Lib.hid hK4
      clear hK1 hK2 hK3 hK4 l1 l2 l3 hX hR hr1 hr2 hr3 hr4 hRT
      obtain ⟨l, sl, bl⟩ := R
      obtain ⟨n1, q1, p1⟩ := r1
      obtain ⟨n2, q2, p2⟩ := r2
      obtain ⟨n3, q3, p3⟩ := r3
      obtain ⟨⟨la, lx⟩, q4, p4⟩ := r4
      dsimp only at HG hll hle KA KB KC KD
      have HG := Lib.hid (HG.out.two hll)
      obtain ⟨pv, nv, cv, rfl⟩ : ∃ p n c, v = Value.slice p n c := by
        obtain ⟨p, c, e, _⟩ := HG.out.2.1
        exact ⟨_, _, _, e⟩
      have hrd := HG.out.2.2.1
      have hmt := HG.out.2.2.2.1
      go_wp2_with fail
      refine (KA.out _ hrd hmt).mono ?_
      rintro e v1 ⟨rfl, hr5, hk5⟩
      have HG := Lib.hid (Tk2.read (st' := (q1, p1)) HG.out h9 hbB hr5 hk5)
      clear hr5 hk5 hrd hmt
      have hrd := HG.out.2.2.1
      have hmt := HG.out.2.2.2.1
      go_wp2_with fail
      refine (KB.out _ hrd hmt).mono ?_
      rintro e v2 ⟨rfl, hr5, hk5⟩
      have HG := Lib.hid (Tk2.read (st' := (q2, p2)) HG.out h9 hbB hr5 hk5)
      clear hr5 hk5 hrd hmt
      have hrd := HG.out.2.2.1
      have hmt := HG.out.2.2.2.1
      go_wp2_with fail
      refine (KC.out _ hrd hmt).mono ?_
      rintro e v3 ⟨rfl, hr5, hk5⟩
      have HG := Lib.hid (Tk2.read (st' := (q3, p3)) HG.out h9 hbB hr5 hk5)
      clear hr5 hk5 hrd hmt
      have HS := Lib.hid (((HG.out.setc h9 bz hBw 2 (.int .i64 n1)).setc h9 bz hBw 3 (.int .i64 n2)).setc h9 bz hBw 4 (.int .i64 n3))
      have c2 := HG.out.1.cell 2
      have c3 := HG.out.1.cell 3
      have c4 := HG.out.1.cell 4
      have f2 := HG.out.1.frozen 2
      have f3 := HG.out.1.frozen 3
      have f4 := HG.out.1.frozen 4
      simp only [List.getElem?_cons_succ, List.getElem?_cons_zero] at c2 c3 c4
      go_upto_region 7 with fail
      clear c2 c3 c4 f2 f3 f4 HG
      generalize ((v3.setCell ⟨B, 2, none⟩ (.int .i64 n1)).setCell ⟨B, 3, none⟩ (.int .i64 n2)).setCell ⟨B, 4, none⟩ (.int .i64 n3) = W6 at HS ⊢
      have HS := Lib.hid (show Tk2 w b B [.string nm, .slice pv nv cv, .int .i64 n1, .int .i64 n2, .int .i64 n3, .int .i64 0, .int .u16 0] (.slice pv nv cv) (q3, p3) l W6 from HS.out)
      have hrd := HS.out.2.2.1
      have hmt := HS.out.2.2.2.1
      go_wp2_with fail
      refine (KD.out _ hrd hmt).mono ?_
      rintro e v4 ⟨rfl, hr5, hk5⟩
      have HG := Lib.hid (Tk2.read (st' := (q4, p4)) HS.out h9 hbB hr5 hk5)
      clear hr5 hk5 hrd hmt HS
      have d0 := HG.out.1.cell 0
      have d1 := HG.out.1.cell 1
      have d2 := HG.out.1.cell 2
      have d3 := HG.out.1.cell 3
      have d4 := HG.out.1.cell 4
      have d5 := HG.out.1.cell 5
      have d6 := HG.out.1.cell 6
      have f0 := HG.out.1.frozen 0
      have f1 := HG.out.1.frozen 1
      have f2 := HG.out.1.frozen 2
      have f3 := HG.out.1.frozen 3
      have f4 := HG.out.1.frozen 4
      have f5 := HG.out.1.frozen 5
      have f6 := HG.out.1.frozen 6
      simp only [List.getElem?_cons_succ, List.getElem?_cons_zero] at d0 d1 d2 d3 d4 d5 d6
      have HS := Lib.hid ((((((((((HG.out.setc h9 bz hBw 5 (.int .i64 la)).setc h9 bz hBw 6 (.int .u16 lx)).setc h9 bz hBw 0 (.string nm)).setc h9 bz hBw 1 (.slice pv nv cv)).setc h9 bz hBw 2 (.int .i64 n1)).setc h9 bz hBw 3 (.int .i64 n2)).setc h9 bz hBw 4 (.int .i64 n3)).setc h9 bz hBw 5 (.int .i64 la)).setc h9 bz hBw 6 (.int .u16 lx)))
      go_wp2
      generalize ((((((((v4.setCell ⟨B, 5, none⟩ (.int .i64 la)).setCell ⟨B, 6, none⟩ (.int .u16 lx)).setCell ⟨B, 0, none⟩ (.string nm)).setCell ⟨B, 1, none⟩ (.slice pv nv cv)).setCell ⟨B, 2, none⟩ (.int .i64 n1)).setCell ⟨B, 3, none⟩ (.int .i64 n2)).setCell ⟨B, 4, none⟩ (.int .i64 n3)).setCell ⟨B, 5, none⟩ (.int .i64 la)).setCell ⟨B, 6, none⟩ (.int .u16 lx) = WF at HS ⊢
      clear d0 d1 d2 d3 d4 d5 d6 f0 f1 f2 f3 f4 f5 f6 HG
      have HS := Lib.hid (show Tk2 w b B [.string nm, .slice pv nv cv, .int .i64 n1, .int .i64 n2, .int .i64 n3, .int .i64 la, .int .u16 lx] (.slice pv nv cv) (q4, p4) l WF from HS.out)
      have d0 := HS.out.1.cell 0
      have d1 := HS.out.1.cell 1
      have d2 := HS.out.1.cell 2
      have d3 := HS.out.1.cell 3
      have d4 := HS.out.1.cell 4
      have d5 := HS.out.1.cell 5
      have d6 := HS.out.1.cell 6
      simp only [List.getElem?_cons_succ, List.getElem?_cons_zero] at d0 d1 d2 d3 d4 d5 d6
      refine bodyPost_ret (v := .agg #[.string nm, .slice pv nv cv, .int .i64 n1, .int .i64 n2, .int .i64 n3, .int .i64 la, .int .u16 lx]) (by rw [results_cellG rfl]; go_simp) rfl ?_
      unfold TaskPost
      rw [HXX.out]
      have hn := HNM.out
      subst hn
      exact ⟨_, rfl, HS.out.2.1, HS.out.2.2.1, HS.out.2.2.2.2.1, fun q hq => ⟨by have := (HS.out.2.2.2.2.2 q hq).1; omega, (HS.out.2.2.2.2.2 q hq).2⟩⟩
end Go.Proofs.YtbbcicengfmhiaaGreatDoor

namespace Go.Proofs.YtbbcicengfmhiaaGreatDoor
set_option maxRecDepth 100000
open Go.RowKit

theorem rdStep_io (s : List UInt8) (bad : Bool) (lo hi : Int) (hl : 0 ≤ lo) (h : 0 ≤ hi) : 0 ≤ (rdStep s bad lo hi).1 ∧ (rdStep s bad lo hi).1 ≤ hi := by
  cases hb : (rdStep s bad lo hi).2.2 with
  | false => exact ⟨Int.le_trans hl (rdStep_bounds hb).1, (rdStep_bounds hb).2.1⟩
  | true =>
    unfold rdStep at hb ⊢
    split
    · exact ⟨by simp, by simpa using h⟩
    · rename_i h0
      split
      · rename_i n r hr
        rw [if_neg h0] at hb
        simp [hr] at hb
      · exact ⟨by simp, by simpa using h⟩
theorem rdText_in (s : List UInt8) (bad : Bool) (m : Nat) : (rdText s bad m).1.length ≤ m := by
  have := rdStep_io s bad 0 m (by decide) (by omega)
  unfold rdText
  split
  · exact Nat.zero_le _
  · split
    · exact Nat.zero_le _
    · simp only [List.length_take]
      omega
theorem rdM_in (k : Nat) (st : List UInt8 × Bool) : ∀ x ∈ (rdM k st).1, 0 ≤ x ∧ x ≤ 7 := by
  induction k with
  | zero => intro x hx; cases hx
  | succ k ih =>
    intro x hx
    rcases List.mem_append.1 hx with hx | hx
    · exact ih x hx
    · rw [List.mem_singleton.1 hx]
      exact rdStep_io _ _ 0 7 (by decide) (by decide)
theorem rdN_in (k : Nat) (st : List UInt8 × Bool) : ∀ x ∈ (rdN k st).1, 0 ≤ x ∧ x ≤ 11 := by
  induction k with
  | zero => intro x hx; cases hx
  | succ k ih =>
    intro x hx
    rcases List.mem_append.1 hx with hx | hx
    · exact ih x hx
    · rw [List.mem_singleton.1 hx]
      exact rdStep_io _ _ 0 11 (by decide) (by decide)
theorem rdLabel_in (s : List UInt8) (bad : Bool) : (0 ≤ (rdLabel s bad).1.1 ∧ (rdLabel s bad).1.1 ≤ 7) ∧ (rdLabel s bad).1.2 < 65536 ∧ (rdLabel s bad).2.1.length ≤ s.length := by
  have h1 := rdStep_io s bad 0 7 (by decide) (by decide)
  have h2 := rdStep_io (rdStep s bad 0 7).2.1 (rdStep s bad 0 7).2.2 0 65535 (by decide) (by decide)
  have l1 := rdStep_len s bad 0 7
  have l2 := rdStep_len (rdStep s bad 0 7).2.1 (rdStep s bad 0 7).2.2 0 65535
  unfold rdLabel
  split
  · exact ⟨⟨by simp, by simp⟩, by simp, by simp only; omega⟩
  · exact ⟨h1, by simp only; omega, by simp only; omega⟩
structure RdT.In (x : RdT) : Prop where
  nm : x.nm.length ≤ 8
  af : x.af.length ≤ 8
  ai : ∀ y ∈ x.af, 0 ≤ y ∧ y ≤ 7
  r : 0 ≤ x.r ∧ x.r ≤ 5
  t : 0 ≤ x.t ∧ x.t ≤ 100
  n : 0 ≤ x.n ∧ x.n ≤ 4
  lv : 0 ≤ x.lb.1 ∧ x.lb.1 ≤ 7
  set : x.lb.2 < 65536
theorem rdTask_in (s : List UInt8) (bad : Bool) : (rdTask s bad).In := by
  refine ⟨rdText_in s bad 8, ?_, rdM_in _ _, rdStep_io _ _ 0 5 (by decide) (by decide), rdStep_io _ _ 1 100 (by decide) (by decide), rdStep_io _ _ 0 4 (by decide) (by decide), (rdLabel_in _ _).1, (rdLabel_in _ _).2.1⟩
  show (rdM _ _).1.length ≤ 8
  rw [rdM_len]
  have := rdStep_io (rdText s bad 8).2.1 (rdText s bad 8).2.2 0 8 (by decide) (by decide)
  omega
theorem rdTask_le (s : List UInt8) (bad : Bool) : (rdTask s bad).st.1.length ≤ s.length := by
  have h0 := rdText_le s bad 8
  have h1 := rdStep_le (rdText s bad 8).2.1 (rdText s bad 8).2.2 0 8
  have h2 := rdM_le (rdStep (rdText s bad 8).2.1 (rdText s bad 8).2.2 0 8).1.toNat (rdStep (rdText s bad 8).2.1 (rdText s bad 8).2.2 0 8).2
  unfold rdTask
  dsimp only
  generalize rdM (rdStep (rdText s bad 8).2.1 (rdText s bad 8).2.2 0 8).1.toNat (rdStep (rdText s bad 8).2.1 (rdText s bad 8).2.2 0 8).2 = a at *
  have h3 := rdStep_le a.2.1 a.2.2 0 5
  generalize rdStep a.2.1 a.2.2 0 5 = c at *
  have h4 := rdStep_le c.2.1 c.2.2 1 100
  generalize rdStep c.2.1 c.2.2 1 100 = d at *
  have h5 := rdStep_le d.2.1 d.2.2 0 4
  generalize rdStep d.2.1 d.2.2 0 4 = e at *
  have h6 := (rdLabel_in e.2.1 e.2.2).2.2
  omega
/-- a task as it was read (its slice apart) -/
def tvX (x : RdT) (sl : Value) : TaskV := ⟨⟨x.nm.toArray⟩, sl, x.af, x.r, x.t, x.n, x.lb.1, x.lb.2⟩
def rdTs : Nat → List UInt8 × Bool → List TaskV × (List UInt8 × Bool)
  | 0, st => ([], st)
  | k + 1, st => ((rdTs k st).1 ++ [tvX (rdTask (rdTs k st).2.1 (rdTs k st).2.2) (.slice none 0 0)], (rdTask (rdTs k st).2.1 (rdTs k st).2.2).st)
theorem rdTs_len (k : Nat) (st : List UInt8 × Bool) : (rdTs k st).1.length = k := by
  induction k with
  | zero => rfl
  | succ k ih => simp [rdTs, ih]
theorem rdTs_le (k : Nat) (st : List UInt8 × Bool) : (rdTs k st).2.1.length ≤ st.1.length := by
  induction k with
  | zero => exact Nat.le_refl _
  | succ k ih => exact Nat.le_trans (rdTask_le _ _) ih
theorem rdTs_in (k : Nat) (st : List UInt8 × Bool) : ∀ t ∈ (rdTs k st).1, ∃ x v, RdT.In x ∧ t = tvX x v := by
  induction k with
  | zero => intro t ht; cases ht
  | succ k ih =>
    intro t ht
    rcases List.mem_append.1 ht with ht | ht
    · exact ih t ht
    · exact ⟨_, _, rdTask_in _ _, List.mem_singleton.1 ht⟩
/-- a try as it was read -/
def rdTry (st : List UInt8 × Bool) : TryV × (List UInt8 × Bool) :=
  if okSix (six st) = true then (⟨(six st).s, (six st).si, (six st).m, (six st).k, (six st).l, (six st).u⟩, ((six st).st.1, false)) else (zT, ((six st).st.1, true))
theorem six_le (st : List UInt8 × Bool) : (six st).st.1.length ≤ st.1.length := by
  have h1 := rd_len st 4
  have h2 := rd_len (rd st 4).2 1000000
  have h3 := rd_len (rd (rd st 4).2 1000000).2 6
  have h4 := rd_len (rd (rd (rd st 4).2 1000000).2 6).2 1000000
  have h5 := rd_len (rd (rd (rd (rd st 4).2 1000000).2 6).2 1000000).2 1000000
  have h6 := rd_len (rd (rd (rd (rd (rd st 4).2 1000000).2 6).2 1000000).2 1000000).2 1000000
  show (rd (rd (rd (rd (rd (rd st 4).2 1000000).2 6).2 1000000).2 1000000).2 1000000).2.1.length ≤ _
  omega
theorem rdTry_le (st : List UInt8 × Bool) : (rdTry st).2.1.length ≤ st.1.length := by
  have := six_le st
  unfold rdTry
  split <;> exact this
def TryV.mil (t : TryV) : Prop := (0 ≤ t.st ∧ t.st ≤ 1000000) ∧ (0 ≤ t.since ∧ t.since ≤ 1000000) ∧ (0 ≤ t.missed ∧ t.missed ≤ 1000000) ∧ (0 ≤ t.wk ∧ t.wk ≤ 1000000) ∧ (0 ≤ t.ls ∧ t.ls ≤ 1000000) ∧ (0 ≤ t.til ∧ t.til ≤ 1000000)
theorem rd_io (st : List UInt8 × Bool) (hi : Int) (h : 0 ≤ hi) (h2 : hi ≤ 1000000) : 0 ≤ (rd st hi).1 ∧ (rd st hi).1 ≤ 1000000 := by
  have := rdStep_io st.1 st.2 0 hi (by decide) h
  exact ⟨this.1, Int.le_trans this.2 h2⟩
theorem rdTry_in (st : List UInt8 × Bool) : (rdTry st).1.mil := by
  unfold rdTry
  split
  · exact ⟨rd_io _ 4 (by decide) (by decide), rd_io _ 1000000 (by decide) (by decide), rd_io _ 6 (by decide) (by decide), rd_io _ 1000000 (by decide) (by decide), rd_io _ 1000000 (by decide) (by decide), rd_io _ 1000000 (by decide) (by decide)⟩
  · simp [zT, TryV.mil]
theorem gateRd_in (st : List UInt8 × Bool) : (gateRd st).1.length ≤ 12 ∧ (∀ y ∈ (gateRd st).1, 0 ≤ y ∧ y ≤ 11) ∧ (gateRd st).2.2.1.length ≤ st.1.length := by
  have h0 := rdStep_io st.1 st.2 0 12 (by decide) (by decide)
  have h1 := rdStep_le st.1 st.2 0 12
  have h2 := rdN_le (rdStep st.1 st.2 0 12).1.toNat (rdStep st.1 st.2 0 12).2
  have h3 := rdN_in (rdStep st.1 st.2 0 12).1.toNat (rdStep st.1 st.2 0 12).2
  have h4 := rdN_len (rdStep st.1 st.2 0 12).1.toNat (rdStep st.1 st.2 0 12).2
  unfold gateRd
  dsimp only
  generalize rdN (rdStep st.1 st.2 0 12).1.toNat (rdStep st.1 st.2 0 12).2 = a at *
  have h5 := rdStep_le a.2.1 a.2.2 0 1
  generalize rdStep a.2.1 a.2.2 0 1 = c at *
  split
  · exact ⟨by simp only; omega, h3, by simp only; omega⟩
  · exact ⟨by simp, by simp, by simp only; omega⟩
/-- a part as it was read -/
def rdPart (st : List UInt8 × Bool) : PartV × (List UInt8 × Bool) :=
  (⟨(rdTry st).1, ⟨(rdText (rdTry st).2.1 (rdTry st).2.2 32).1.toArray⟩, .slice none 0 0, (gateRd (rdText (rdTry st).2.1 (rdTry st).2.2 32).2).1, (gateRd (rdText (rdTry st).2.1 (rdTry st).2.2 32).2).2.1⟩, (gateRd (rdText (rdTry st).2.1 (rdTry st).2.2 32).2).2.2)
theorem rdPart_le (st : List UInt8 × Bool) : (rdPart st).2.1.length ≤ st.1.length := by
  have h1 := rdTry_le st
  have h2 := rdText_le (rdTry st).2.1 (rdTry st).2.2 32
  have h3 := (gateRd_in (rdText (rdTry st).2.1 (rdTry st).2.2 32).2).2.2
  show (gateRd (rdText (rdTry st).2.1 (rdTry st).2.2 32).2).2.2.1.length ≤ _
  omega
structure PartV.In (p : PartV) : Prop where
  tr : p.try_.mil
  out : p.out.size ≤ 32
  len : p.yes.length ≤ 12
  yes : ∀ y ∈ p.yes, 0 ≤ y ∧ y ≤ 11
theorem rdPart_in (st : List UInt8 × Bool) : (rdPart st).1.In :=
  ⟨rdTry_in st, by show (rdText (rdTry st).2.1 (rdTry st).2.2 32).1.toArray.size ≤ 32; rw [List.size_toArray]; exact rdText_in _ _ 32, (gateRd_in _).1, (gateRd_in _).2.1⟩
def rdPs : Nat → List UInt8 × Bool → List PartV × (List UInt8 × Bool)
  | 0, st => ([], st)
  | k + 1, st => ((rdPs k st).1 ++ [(rdPart (rdPs k st).2).1], (rdPart (rdPs k st).2).2)
theorem rdPs_len (k : Nat) (st : List UInt8 × Bool) : (rdPs k st).1.length = k := by
  induction k with
  | zero => rfl
  | succ k ih => simp [rdPs, ih]
theorem rdPs_le (k : Nat) (st : List UInt8 × Bool) : (rdPs k st).2.1.length ≤ st.1.length := by
  induction k with
  | zero => exact Nat.le_refl _
  | succ k ih => exact Nat.le_trans (rdPart_le _) ih
theorem rdPs_in (k : Nat) (st : List UInt8 × Bool) : ∀ p ∈ (rdPs k st).1, PartV.In p := by
  induction k with
  | zero => intro p hp; cases hp
  | succ k ih =>
    intro p hp
    rcases List.mem_append.1 hp with hp | hp
    · exact ih p hp
    · rw [List.mem_singleton.1 hp]
      exact rdPart_in _
/-- what run.Read reads: a run (slices apart), and the reader's rest -/
def rdRun (st : List UInt8 × Bool) : RunM × (List UInt8 × Bool) :=
  let x := rdText st.1 st.2 8
  let n := rdStep x.2.1 x.2.2 1 8
  let ts := rdTs n.1.toNat n.2
  let ps := rdPs n.1.toNat ts.2
  let o := rdStep ps.2.1 ps.2.2 0 1
  (⟨⟨x.1.toArray⟩, ts.1, ps.1, o.1 == 1⟩, o.2)
/-- is it one that may be run? -/
def okRd (x : RunM × (List UInt8 × Bool)) : Bool := !x.2.2 && mayP x.1.nm x.1.ts
/-- the same but for the slices -/
def SameP (us ps : List PartV) : Prop := us.length = ps.length ∧ ∀ j, j < ps.length → us[j]! = { ps[j]! with vs := us[j]!.vs }
structure SameR (R M : RunM) : Prop where
  nm : R.nm = M.nm
  ts : SameT R.ts M.ts
  ps : SameP R.ps M.ps
  over : R.over = M.over
theorem SameT.nil : SameT [] [] := ⟨rfl, fun j hj => absurd hj (by simp)⟩
theorem SameP.nil : SameP [] [] := ⟨rfl, fun j hj => absurd hj (by simp)⟩
theorem snoc_last {α : Type} [Inhabited α] (us : List α) (x : α) : (us ++ [x])[us.length]! = x := by
  rw [getElem!_pos _ _ (by simp)]
  simp
theorem snoc_old {α : Type} [Inhabited α] (us : List α) (x : α) {j : Nat} (hj : j < us.length) : (us ++ [x])[j]! = us[j]! := by
  rw [getElem!_pos _ _ (by simp; omega), getElem!_pos us j hj, List.getElem_append_left hj]
theorem SameT.snoc {us ts : List TaskV} (h : SameT us ts) {x y : TaskV} (e : x = { y with sl := x.sl }) : SameT (us ++ [x]) (ts ++ [y]) := by
  refine ⟨by simp [h.1], fun j hj => ?_⟩
  have hj' : j < ts.length + 1 := by simpa using hj
  by_cases hlt : j < ts.length
  · rw [snoc_old us x (by rw [h.1]; exact hlt), snoc_old ts y hlt]
    exact h.2 j hlt
  · have ej : j = ts.length := by omega
    subst ej
    have := snoc_last us x
    rw [h.1] at this
    rw [this, snoc_last]
    exact e
theorem SameP.snoc {us ts : List PartV} (h : SameP us ts) {x y : PartV} (e : x = { y with vs := x.vs }) : SameP (us ++ [x]) (ts ++ [y]) := by
  refine ⟨by simp [h.1], fun j hj => ?_⟩
  have hj' : j < ts.length + 1 := by simpa using hj
  by_cases hlt : j < ts.length
  · rw [snoc_old us x (by rw [h.1]; exact hlt), snoc_old ts y hlt]
    exact h.2 j hlt
  · have ej : j = ts.length := by omega
    subst ej
    have := snoc_last us x
    rw [h.1] at this
    rw [this, snoc_last]
    exact e
/-- slices apart -/
def nT (t : TaskV) : TaskV := { t with sl := .slice none 0 0 }
def nP (p : PartV) : PartV := { p with vs := .slice none 0 0 }
theorem SameT.map {us ts : List TaskV} (h : SameT us ts) : us.map nT = ts.map nT := by
  refine List.ext_getElem (by simp [h.1]) fun j h1 h2 => ?_
  have hj : j < ts.length := by simpa using h2
  have := h.2 j hj
  rw [getElem!_pos us j (by rw [h.1]; exact hj), getElem!_pos ts j hj] at this
  rw [List.getElem_map, List.getElem_map, this]
  rfl
theorem SameP.map {us ts : List PartV} (h : SameP us ts) : us.map nP = ts.map nP := by
  refine List.ext_getElem (by simp [h.1]) fun j h1 h2 => ?_
  have hj : j < ts.length := by simpa using h2
  have := h.2 j hj
  rw [getElem!_pos us j (by rw [h.1]; exact hj), getElem!_pos ts j hj] at this
  rw [List.getElem_map, List.getElem_map, this]
  rfl
theorem map_at {ts : List TaskV} {j : Nat} (hj : j < ts.length) : (ts.map nT)[j]! = nT ts[j]! := by
  rw [getElem!_pos _ j (by simpa using hj), getElem!_pos ts j hj, List.getElem_map]
theorem newB_n {ts : List TaskV} {k : Nat} (hk : k < ts.length) : newB (ts.map nT) k = newB ts k := by
  unfold newB
  rw [map_at hk, ← List.map_take, List.any_map]
  rfl
theorem tasksB_n {ts : List TaskV} : ∀ k, k ≤ ts.length → tasksB (ts.map nT) k = tasksB ts k
  | 0, _ => rfl
  | k + 1, h => by
    rw [tasksB_succ, tasksB_succ, tasksB_n k (by omega), newB_n (by omega), map_at (by omega), List.length_map]
    rfl
theorem pipeB_n (nm : ByteArray) (ts : List TaskV) : pipeB nm (ts.map nT) = pipeB nm ts := by
  unfold pipeB
  rw [List.length_map, tasksB_n _ (Nat.le_refl _)]
theorem afters_n (ts : List TaskV) : afters (ts.map nT) = afters ts := by
  unfold afters
  rw [List.map_map]
  rfl
theorem mayP_n (nm : ByteArray) (ts : List TaskV) : mayP nm (ts.map nT) = mayP nm ts := by
  unfold mayP roundP
  rw [pipeB_n, afters_n, List.any_map]
  rfl
theorem SameT.may {us ts : List TaskV} (h : SameT us ts) (nm : ByteArray) : mayP nm us = mayP nm ts := by
  rw [← mayP_n nm us, h.map, mayP_n]
theorem SameR.text {R M : RunM} (h : SameR R M) : runW R = runW M := by
  have ht : ∀ ts : List TaskV, ts.flatMap taskW = (ts.map nT).flatMap taskW := fun ts => by rw [List.flatMap_map]; rfl
  have hp : ∀ ps : List PartV, ps.flatMap partW = (ps.map nP).flatMap partW := fun ps => by rw [List.flatMap_map]; rfl
  unfold runW
  rw [h.nm, h.ps.1, h.over, ht R.ts, hp R.ps, h.ts.map, h.ps.map, ← ht, ← hp]
theorem SameT.at {us ts : List TaskV} (h : SameT us ts) {j : Nat} (hj : j < ts.length) : us[j]!.nm = ts[j]!.nm ∧ us[j]!.after = ts[j]!.after ∧ us[j]!.retry = ts[j]!.retry ∧ us[j]!.time = ts[j]!.time ∧ us[j]!.need = ts[j]!.need ∧ us[j]!.lv = ts[j]!.lv ∧ us[j]!.set = ts[j]!.set := by
  rw [h.2 j hj]
  exact ⟨rfl, rfl, rfl, rfl, rfl, rfl, rfl⟩
theorem mem_at {α : Type} [Inhabited α] {l : List α} {j : Nat} (hj : j < l.length) : l[j]! ∈ l := by
  rw [getElem!_pos l j hj]
  exact List.getElem_mem hj
theorem smallM : (8 : Nat) ≤ maxLen := by unfold maxLen; omega
/-- tasks that were read may be looked at -/
theorem rdTs_ok {us : List TaskV} {k : Nat} {st : List UInt8 × Bool} (h : SameT us (rdTs k st).1) (hk : k ≤ 8) : okTs us := by
  have hl := h.1
  rw [rdTs_len] at hl
  have h8 := smallM
  refine ⟨by omega, fun j hj => ?_⟩
  have hj' : j < (rdTs k st).1.length := by rw [rdTs_len]; omega
  obtain ⟨x, v, hx, e⟩ := rdTs_in k st _ (mem_at hj')
  obtain ⟨e1, e2, e3, e4, e5, e6, e7⟩ := h.at hj'
  rw [e] at e1 e2 e7
  refine ⟨by rw [e7]; exact hx.set, ?_, by rw [e2]; exact Nat.le_trans hx.af h8, fun i hi => ?_⟩
  · rw [e1]
    show x.nm.toArray.size ≤ maxLen
    rw [List.size_toArray]
    exact Nat.le_trans hx.nm h8
  · rw [e2] at hi ⊢
    have := hx.ai _ (mem_at hi)
    show -9223372036854775808 ≤ x.af[i]! ∧ x.af[i]! ≤ 9223372036854775807
    have e8 : (tvX x v).after = x.af := rfl
    rw [e8] at hi
    omega
end Go.Proofs.YtbbcicengfmhiaaGreatDoor

namespace Go.Proofs.YtbbcicengfmhiaaGreatDoor
set_option maxRecDepth 100000
open Go.RowKit

theorem cut_back {s : List UInt8} (h : (Lib.cut s [44]).2.2 = true) : s = (Lib.cut s [44]).1 ++ 44 :: (Lib.cut s [44]).2.1 := by
  by_cases hm : (44 : UInt8) ∈ s
  · obtain ⟨a, b, rfl, ha⟩ := List.eq_append_cons_of_mem hm
    rw [cut_hit a b (fun c hc e => ha (e ▸ hc))]
  · rw [cut_miss s (fun c hc e => hm (e ▸ hc))] at h
    cases h
theorem rdStep_back {s : List UInt8} {bad : Bool} {lo hi : Int} (h : (rdStep s bad lo hi).2.2 = false) : bad = false ∧ s = numL (rdStep s bad lo hi).1 ++ (rdStep s bad lo hi).2.1 := by
  cases bad with
  | true => cases h
  | false =>
    refine ⟨rfl, ?_⟩
    cases hr : rdInt s lo hi with
    | none => rw [rdStep_none hr] at h; cases h
    | some x =>
      obtain ⟨n, r⟩ := x
      rw [rdStep_some hr]
      unfold rdInt at hr
      split at hr
      · rename_i hc
        split at hr
        · split at hr
          · rename_i h3
            injection hr with hr
            injection hr with h4 h5
            subst h4 h5
            have := cut_back hc
            show s = (Lib.itoa _ ++ [44]) ++ _
            rw [List.append_assoc, h3.1]
            exact this
          · cases hr
        · cases hr
        · cases hr
      · cases hr
theorem rdText_back {s : List UInt8} {bad : Bool} {m : Nat} (h : (rdText s bad m).2.2 = false) : bad = false ∧ s = textL (rdText s bad m).1 ++ (rdText s bad m).2.1 := by
  unfold rdText at h ⊢
  split at h
  · cases h
  · split at h
    · cases h
    · rename_i h1 h2
      rw [if_neg h1, if_neg h2]
      obtain ⟨e1, e2⟩ := rdStep_back (s := s) (bad := bad) (lo := 0) (hi := m) (by simpa using h1)
      refine ⟨e1, ?_⟩
      have h0 := rdStep_io s bad 0 m (by decide) (by omega)
      generalize rdStep s bad 0 m = x at *
      have hl : ((x.2.1.take x.1.toNat).length : Int) = x.1 := by
        rw [List.length_take]
        omega
      unfold textL
      simp only
      rw [hl, List.append_assoc, List.take_append_drop]
      exact e2
theorem rdLabel_back {s : List UInt8} {bad : Bool} (h : (rdLabel s bad).2.2 = false) : bad = false ∧ s = numsL [(rdLabel s bad).1.1, ((rdLabel s bad).1.2 : Int)] ++ (rdLabel s bad).2.1 := by
  unfold rdLabel at h ⊢
  split at h
  · cases h
  · rename_i h1
    rw [if_neg h1]
    obtain ⟨e1, e2⟩ := rdStep_back (s := (rdStep s bad 0 7).2.1) (bad := (rdStep s bad 0 7).2.2) (lo := 0) (hi := 65535) (by simpa using h1)
    have h0 := rdStep_io (rdStep s bad 0 7).2.1 (rdStep s bad 0 7).2.2 0 65535 (by decide) (by decide)
    obtain ⟨e3, e4⟩ := rdStep_back e1
    refine ⟨e3, ?_⟩
    simp only [numsL, List.flatMap_cons, List.flatMap_nil, List.append_nil, List.append_assoc]
    rw [show (((rdStep (rdStep s bad 0 7).2.1 (rdStep s bad 0 7).2.2 0 65535).1.toNat : Nat) : Int) = (rdStep (rdStep s bad 0 7).2.1 (rdStep s bad 0 7).2.2 0 65535).1 by omega, ← e2]
    exact e4
theorem numsL_snoc (xs : List Int) (x : Int) : numsL (xs ++ [x]) = numsL xs ++ numL x := by simp [numsL]
theorem rdM_back {k : Nat} {st : List UInt8 × Bool} (h : (rdM k st).2.2 = false) : st.2 = false ∧ st.1 = numsL (rdM k st).1 ++ (rdM k st).2.1 := by
  induction k with
  | zero => exact ⟨h, by simp [rdM, numsL]⟩
  | succ k ih =>
    obtain ⟨e1, e2⟩ := rdStep_back (show (rdStep (rdM k st).2.1 (rdM k st).2.2 0 7).2.2 = false from h)
    obtain ⟨e3, e4⟩ := ih e1
    refine ⟨e3, ?_⟩
    show st.1 = numsL ((rdM k st).1 ++ [_]) ++ (rdStep (rdM k st).2.1 (rdM k st).2.2 0 7).2.1
    rw [numsL_snoc, List.append_assoc, ← e2]
    exact e4
theorem rdN_back {k : Nat} {st : List UInt8 × Bool} (h : (rdN k st).2.2 = false) : st.2 = false ∧ st.1 = numsL (rdN k st).1 ++ (rdN k st).2.1 := by
  induction k with
  | zero => exact ⟨h, by simp [rdN, numsL]⟩
  | succ k ih =>
    obtain ⟨e1, e2⟩ := rdStep_back (show (rdStep (rdN k st).2.1 (rdN k st).2.2 0 11).2.2 = false from h)
    obtain ⟨e3, e4⟩ := ih e1
    refine ⟨e3, ?_⟩
    show st.1 = numsL ((rdN k st).1 ++ [_]) ++ (rdStep (rdN k st).2.1 (rdN k st).2.2 0 11).2.1
    rw [numsL_snoc, List.append_assoc, ← e2]
    exact e4
theorem rdTask_back {s : List UInt8} {bad : Bool} (v : Value) (h : (rdTask s bad).st.2 = false) : bad = false ∧ s = taskW (tvX (rdTask s bad) v) ++ (rdTask s bad).st.1 := by
  have hc := rdStep_io (rdText s bad 8).2.1 (rdText s bad 8).2.2 0 8 (by decide) (by decide)
  have hm := rdM_len (rdStep (rdText s bad 8).2.1 (rdText s bad 8).2.2 0 8).1.toNat (rdStep (rdText s bad 8).2.1 (rdText s bad 8).2.2 0 8).2
  unfold rdTask at h ⊢
  dsimp only at h ⊢
  have b0 := @rdText_back s bad 8
  have hx : rdText s bad ((8 : Nat) : Int) = rdText s bad 8 := rfl
  rw [hx] at b0
  generalize rdText s bad 8 = x at *
  have b1 := @rdStep_back x.2.1 x.2.2 0 8
  generalize rdStep x.2.1 x.2.2 0 8 = c at *
  have b2 := @rdM_back c.1.toNat c.2
  generalize rdM c.1.toNat c.2 = l at *
  have b3 := @rdStep_back l.2.1 l.2.2 0 5
  generalize rdStep l.2.1 l.2.2 0 5 = r at *
  have b4 := @rdStep_back r.2.1 r.2.2 1 100
  generalize rdStep r.2.1 r.2.2 1 100 = t at *
  have b5 := @rdStep_back t.2.1 t.2.2 0 4
  generalize rdStep t.2.1 t.2.2 0 4 = n at *
  have b6 := @rdLabel_back n.2.1 n.2.2
  generalize rdLabel n.2.1 n.2.2 = lb at *
  obtain ⟨f6, e6⟩ := b6 h
  obtain ⟨f5, e5⟩ := b5 f6
  obtain ⟨f4, e4⟩ := b4 f5
  obtain ⟨f3, e3⟩ := b3 f4
  obtain ⟨f2, e2⟩ := b2 f3
  obtain ⟨f1, e1⟩ := b1 f2
  obtain ⟨f0, e0⟩ := b0 f1
  refine ⟨f0, ?_⟩
  have hl : ((l.1.length : Nat) : Int) = c.1 := by omega
  have h3 : numsL [r.1, t.1, n.1] = numL r.1 ++ (numL t.1 ++ numL n.1) := by simp [numsL]
  show s = (textL x.1 ++ (numL (l.1.length : Int) ++ (numsL l.1 ++ (numsL [r.1, t.1, n.1] ++ numsL [lb.1.1, (lb.1.2 : Int)])))) ++ lb.2.1
  rw [hl, h3]
  simp only [List.append_assoc]
  rw [← e6, ← e5, ← e4, ← e3, ← e2, ← e1]
  exact e0
theorem rdTs_back {k : Nat} {st : List UInt8 × Bool} (h : (rdTs k st).2.2 = false) : st.2 = false ∧ st.1 = (rdTs k st).1.flatMap taskW ++ (rdTs k st).2.1 := by
  induction k with
  | zero => exact ⟨h, by simp [rdTs]⟩
  | succ k ih =>
    obtain ⟨e1, e2⟩ := rdTask_back (.slice none 0 0) (show (rdTask (rdTs k st).2.1 (rdTs k st).2.2).st.2 = false from h)
    obtain ⟨e3, e4⟩ := ih e1
    refine ⟨e3, ?_⟩
    show st.1 = ((rdTs k st).1 ++ [_]).flatMap taskW ++ (rdTask (rdTs k st).2.1 (rdTs k st).2.2).st.1
    rw [List.flatMap_append, List.flatMap_singleton, List.append_assoc, ← e2]
    exact e4
theorem rd_back {st : List UInt8 × Bool} {hi : Int} (h : (rd st hi).2.2 = false) : st.2 = false ∧ st.1 = numL (rd st hi).1 ++ (rd st hi).2.1 := rdStep_back h
theorem rdTry_back {st : List UInt8 × Bool} (h : (rdTry st).2.2 = false) : st.2 = false ∧ st.1 = numsL [(rdTry st).1.st, (rdTry st).1.since, (rdTry st).1.missed, (rdTry st).1.wk, (rdTry st).1.ls, (rdTry st).1.til] ++ (rdTry st).2.1 := by
  unfold rdTry at h ⊢
  split at h
  · rename_i hok
    rw [if_pos hok]
    unfold okSix at hok
    simp only [Bool.and_eq_true, Bool.not_eq_true'] at hok
    have h6 := hok.1
    clear hok h
    unfold six at h6 ⊢
    dsimp only at h6 ⊢
    have b1 := @rd_back st 4
    generalize rd st 4 = a1 at *
    have b2 := @rd_back a1.2 1000000
    generalize rd a1.2 1000000 = a2 at *
    have b3 := @rd_back a2.2 6
    generalize rd a2.2 6 = a3 at *
    have b4 := @rd_back a3.2 1000000
    generalize rd a3.2 1000000 = a4 at *
    have b5 := @rd_back a4.2 1000000
    generalize rd a4.2 1000000 = a5 at *
    have b6 := @rd_back a5.2 1000000
    generalize rd a5.2 1000000 = a6 at *
    obtain ⟨f6, e6⟩ := b6 h6
    obtain ⟨f5, e5⟩ := b5 f6
    obtain ⟨f4, e4⟩ := b4 f5
    obtain ⟨f3, e3⟩ := b3 f4
    obtain ⟨f2, e2⟩ := b2 f3
    obtain ⟨f1, e1⟩ := b1 f2
    refine ⟨f1, ?_⟩
    have h3 : numsL [a1.1, a2.1, a3.1, a4.1, a5.1, a6.1] = numL a1.1 ++ (numL a2.1 ++ (numL a3.1 ++ (numL a4.1 ++ (numL a5.1 ++ numL a6.1)))) := by simp [numsL]
    rw [h3]
    simp only [List.append_assoc]
    rw [← e6, ← e5, ← e4, ← e3, ← e2]
    exact e1
  · cases h
theorem gateRd_back {st : List UInt8 × Bool} (h : (gateRd st).2.2.2 = false) : st.2 = false ∧ st.1 = gateL (gateRd st).1 (gateRd st).2.1 ++ (gateRd st).2.2.1 := by
  have hc := rdStep_io st.1 st.2 0 12 (by decide) (by decide)
  have hm := rdN_len (rdStep st.1 st.2 0 12).1.toNat (rdStep st.1 st.2 0 12).2
  unfold gateRd at h ⊢
  dsimp only at h ⊢
  have b1 := @rdStep_back st.1 st.2 0 12
  generalize rdStep st.1 st.2 0 12 = c at *
  have b2 := @rdN_back c.1.toNat c.2
  generalize rdN c.1.toNat c.2 = l at *
  have b3 := @rdStep_back l.2.1 l.2.2 0 1
  have hf := rdStep_io l.2.1 l.2.2 0 1 (by decide) (by decide)
  generalize rdStep l.2.1 l.2.2 0 1 = f at *
  split at h
  · rename_i hq
    rw [if_pos hq]
    obtain ⟨f3, e3⟩ := b3 h
    obtain ⟨f2, e2⟩ := b2 f3
    obtain ⟨f1, e1⟩ := b1 f2
    refine ⟨f1, ?_⟩
    have hl : ((l.1.length : Nat) : Int) = c.1 := by omega
    have hn : fl01 (f.1 == 1) = f.1 := by
      rcases (show f.1 = 0 ∨ f.1 = 1 by omega) with e | e <;> rw [e] <;> rfl
    unfold gateL
    simp only
    rw [hl, hn]
    simp only [List.append_assoc]
    rw [← e3, ← e2]
    exact e1
  · cases h
theorem rdPart_back {st : List UInt8 × Bool} (h : (rdPart st).2.2 = false) : st.2 = false ∧ st.1 = partW (rdPart st).1 ++ (rdPart st).2.1 := by
  have b0 := @rdTry_back st
  have b1 := @rdText_back (rdTry st).2.1 (rdTry st).2.2 32
  have hx : rdText (rdTry st).2.1 (rdTry st).2.2 ((32 : Nat) : Int) = rdText (rdTry st).2.1 (rdTry st).2.2 32 := rfl
  rw [hx] at b1
  unfold rdPart at h ⊢
  dsimp only at h ⊢
  generalize rdText (rdTry st).2.1 (rdTry st).2.2 32 = x at *
  generalize rdTry st = t at *
  have b2 := @gateRd_back x.2
  generalize gateRd x.2 = g at *
  obtain ⟨f2, e2⟩ := b2 h
  obtain ⟨f1, e1⟩ := b1 f2
  obtain ⟨f0, e0⟩ := b0 f1
  refine ⟨f0, ?_⟩
  show st.1 = (numsL [t.1.st, t.1.since, t.1.missed, t.1.wk, t.1.ls, t.1.til] ++ (textL x.1 ++ gateL g.1 g.2.1)) ++ g.2.2.1
  simp only [List.append_assoc]
  rw [← e2, ← e1]
  exact e0
theorem rdPs_back {k : Nat} {st : List UInt8 × Bool} (h : (rdPs k st).2.2 = false) : st.2 = false ∧ st.1 = (rdPs k st).1.flatMap partW ++ (rdPs k st).2.1 := by
  induction k with
  | zero => exact ⟨h, by simp [rdPs]⟩
  | succ k ih =>
    obtain ⟨e1, e2⟩ := rdPart_back (show (rdPart (rdPs k st).2).2.2 = false from h)
    obtain ⟨e3, e4⟩ := ih e1
    refine ⟨e3, ?_⟩
    show st.1 = ((rdPs k st).1 ++ [_]).flatMap partW ++ (rdPart (rdPs k st).2).2.1
    rw [List.flatMap_append, List.flatMap_singleton, List.append_assoc, ← e2]
    exact e4
theorem rdRun_back {st : List UInt8 × Bool} (h : (rdRun st).2.2 = false) : st.2 = false ∧ st.1 = runW (rdRun st).1 ++ (rdRun st).2.1 := by
  have b0 := @rdText_back st.1 st.2 8
  have hx : rdText st.1 st.2 ((8 : Nat) : Int) = rdText st.1 st.2 8 := rfl
  rw [hx] at b0
  unfold rdRun at h ⊢
  dsimp only at h ⊢
  generalize rdText st.1 st.2 8 = x at *
  have b1 := @rdStep_back x.2.1 x.2.2 1 8
  have hc := rdStep_io x.2.1 x.2.2 1 8 (by decide) (by decide)
  generalize rdStep x.2.1 x.2.2 1 8 = n at *
  have b2 := @rdTs_back n.1.toNat n.2
  generalize rdTs n.1.toNat n.2 = ts at *
  have b3 := @rdPs_back n.1.toNat ts.2
  have hm := rdPs_len n.1.toNat ts.2
  generalize rdPs n.1.toNat ts.2 = ps at *
  have b4 := @rdStep_back ps.2.1 ps.2.2 0 1
  have hf := rdStep_io ps.2.1 ps.2.2 0 1 (by decide) (by decide)
  generalize rdStep ps.2.1 ps.2.2 0 1 = o at *
  obtain ⟨f4, e4⟩ := b4 h
  obtain ⟨f3, e3⟩ := b3 f4
  obtain ⟨f2, e2⟩ := b2 f3
  obtain ⟨f1, e1⟩ := b1 f2
  obtain ⟨f0, e0⟩ := b0 f1
  refine ⟨f0, ?_⟩
  have hl : ((ps.1.length : Nat) : Int) = n.1 := by omega
  have hn : fl01 (o.1 == 1) = o.1 := by
    rcases (show o.1 = 0 ∨ o.1 = 1 by omega) with e | e <;> rw [e] <;> rfl
  show st.1 = (textL x.1 ++ (numL (ps.1.length : Int) ++ (ts.1.flatMap taskW ++ (ps.1.flatMap partW ++ numL (fl01 (o.1 == 1)))))) ++ o.2.1
  rw [hl, hn]
  simp only [List.append_assoc]
  rw [← e4, ← e3, ← e2, ← e1]
  exact e0
/-- a run that was read may be written -/
theorem rdRun_okW {st : List UInt8 × Bool} {R : RunM} (h : SameR R (rdRun st).1) : okW R := by
  have hc := rdStep_io (rdText st.1 st.2 8).2.1 (rdText st.1 st.2 8).2.2 1 8 (by decide) (by decide)
  obtain ⟨h1, h2, h3, h4⟩ := h
  unfold rdRun at h1 h2 h3 h4
  dsimp only at h1 h2 h3 h4
  generalize rdStep (rdText st.1 st.2 8).2.1 (rdText st.1 st.2 8).2.2 1 8 = n at *
  have l2 := h2.1
  have l3 := h3.1
  rw [rdTs_len] at l2
  rw [rdPs_len] at l3
  have small : ∀ x : Int, 0 ≤ x → x ≤ 1000000 → okI x := fun x a b => ⟨by omega, by omega⟩
  refine ⟨by omega, fun j hj => ?_, fun j hj => ?_⟩
  · have hj' : j < (rdTs n.1.toNat n.2).1.length := by rw [rdTs_len]; omega
    obtain ⟨x, v, hx, e⟩ := rdTs_in n.1.toNat n.2 _ (mem_at hj')
    obtain ⟨e1, e2, e3, e4, e5, e6, e7⟩ := h2.at hj'
    rw [e] at e2 e3 e4 e5 e6 e7
    rw [e2, e3, e4, e5, e6, e7]
    have := hx.af
    exact ⟨by show x.af.length ≤ 1000; omega, fun k hk => by have := hx.ai _ (mem_at (show k < x.af.length from hk)); exact small _ this.1 (by have := this.2; show x.af[k]! ≤ _; omega),
      small _ hx.r.1 (by have := hx.r.2; show x.r ≤ _; omega), small _ hx.t.1 (by have := hx.t.2; show x.t ≤ _; omega), small _ hx.n.1 (by have := hx.n.2; show x.n ≤ _; omega), small _ hx.lv.1 (by have := hx.lv.2; show x.lb.1 ≤ _; omega), hx.set⟩
  · have hj' : j < (rdPs n.1.toNat (rdTs n.1.toNat n.2).2).1.length := by rw [rdPs_len]; omega
    have hx := rdPs_in n.1.toNat (rdTs n.1.toNat n.2).2 _ (mem_at hj')
    have e := h3.2 j hj'
    have hx : PartV.In R.ps[j]! := by rw [e]; exact ⟨hx.tr, hx.out, hx.len, hx.yes⟩
    obtain ⟨t1, t2, t3, t4, t5, t6⟩ := hx.tr
    exact ⟨⟨small _ t1.1 t1.2, small _ t2.1 t2.2, small _ t3.1 t3.2, small _ t4.1 t4.2, small _ t5.1 t5.2, small _ t6.1 t6.2⟩, by have := hx.len; omega, fun k hk => by have := hx.yes _ (mem_at hk); exact small _ this.1 (by omega)⟩
end Go.Proofs.YtbbcicengfmhiaaGreatDoor

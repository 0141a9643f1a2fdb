/- run.Read: a run read. Conditions: sizes. A run that lies somewhere behind a world, and what is done with it: one structure for all. lockagelaw13's pipe, and its run as it goes: plain steps. lockagelaw13's awake: it is so. -/
import Derived.Test.YtbbcicengfmhiaaGreatDoorM10
import Derived.Test.YtbbcicengfmhiaaGreatDoorGro
namespace Go.Proofs.YtbbcicengfmhiaaGreatDoor
set_option maxRecDepth 100000
open Go.RowKit

/-- what run.Read leaves -/
def ReadPost (b : Nat) (st : List UInt8 × Bool) (w : World) (e : Ending) (w' : World) : Prop :=
  (okRd (rdRun st) = true ∧ ∃ B g tb tc c J R, e = .returned (.pointer (some ⟨B, 0, none⟩)) ∧ RAt B g (tvOf tb 0 tc R) c J R w' ∧ SameR R (rdRun st).1 ∧ w.heap.size ≤ B ∧ w.heap.size ≤ g ∧ RdAt b (rdRun st).2.1 false w' ∧ KeptB b w w') ∨
  (okRd (rdRun st) = false ∧ e = .returned (.pointer none) ∧ RdAt b (rdRun st).2.1 true w' ∧ KeptB b w w')
theorem leaseReadV (b : Nat) (st : List UInt8 × Bool) (w : World) (h : RdAt b st.1 st.2 w) (hM : Met w) (h9 : 9 ≤ b) (hs : st.1.length < 4294967281) :
    Calls Tryz.prog 48 #[.pointer (some ⟨b, 0, none⟩)] w fun e w' => e = .returned (aT (rdTry st).1) ∧ RdAt b (rdTry st).2.1 (rdTry st).2.2 w' ∧ KeptB b w w' := by
  refine (leaseRead b st.1 st.2 w h hM h9 hs).mono ?_
  rintro e w' (⟨h0, rfl, h1, h2⟩ | ⟨h0, rfl, h1, h2⟩)
  · have e : rdTry st = (⟨(six st).s, (six st).si, (six st).m, (six st).k, (six st).l, (six st).u⟩, ((six st).st.1, false)) := if_pos h0
    rw [e]
    exact ⟨rfl, h1, h2⟩
  · have e : rdTry st = (zT, ((six st).st.1, true)) := if_neg (by have h0' : okSix (six st) = false := h0; rw [h0']; decide)
    rw [e]
    exact ⟨rfl, h1, h2⟩
theorem info_partR : ∃ (i : TypeInfo) (z : Value), Tryz.prog.info? 109 = some i ∧ i.zero = some z ∧ i.size = 9 ∧ i.bytes ≤ 1000 ∧ z.cells.size = 9 := by
  obtain ⟨i, z, h1, h2, h3, h4, h5⟩ := info_part
  exact ⟨i, z, h1, h2, h3, h4, by rw [h5]; rfl⟩
/-- the tasks, as they lie behind the parts' reading -/
theorem read_tasks {w0 w1 w2 w3 : World} {b B base1 k1 k2 : Nat} {cs1 cs2 : List Value} {v1 v2 : Value} {st1 st2 : List UInt8 × Bool} {us : List TaskV} {ps : List PartV}
    (G1 : GrAt 100 7 encT TaskV.sl TaskV.after w0 w1 b B 1 base1 k1 cs1 96 v1 st1 us w2) (G2 : GrAt 109 9 encPart PartV.vs PartV.yes w0 w2 b B 2 w2.heap.size k2 cs2 96 v2 st2 ps w3) (hu : us.length = k1) : TasksAt w3 v1 us := by
  have hs := G2.z2
  have z1 := G1.z1
  obtain ⟨n1, n2, n3⟩ := G1.ne
  have old := G2.old
  have own1 := G1.own
  rw [← hu] at own1
  refine ⟨(SlAt.of_owns (enc := encT) encT_len own1).of_blk hs (fun q hq hlt => old q hlt ?_ ?_), fun j hj => (G1.inn j hj).1.of_blk hs (fun q hq hlt => old q hlt ?_ ?_)⟩
  · have := owns_block own1 q hq; omega
  · have := owns_block own1 q hq; omega
  · have := ((G1.inn j hj).2 q hq).1; omega
  · have := ((G1.inn j hj).2 q hq).1; omega
theorem read_run {w0 w1 w2 w3 : World} {b B base1 k : Nat} {cs1 : List Value} {v1 v2 : Value} {st1 st2 : List UInt8 × Bool} {us : List TaskV} {ps : List PartV} {nm : ByteArray}
    (G1 : GrAt 100 7 encT TaskV.sl TaskV.after w0 w1 b B 1 base1 k cs1 96 v1 st1 us w2) (G2 : GrAt 109 9 encPart PartV.vs PartV.yes w0 w2 b B 2 w2.heap.size k [.string nm, v1, .slice none 0 0, .bool false] 96 v2 st2 ps w3)
    (hu : us.length = k) (hp : ps.length = k) (hk : 0 < k) (o : Bool) :
    ∃ g tb tc c J, (w0.heap.size ≤ g ∧ w0.heap.size ≤ tb) ∧ RAt B g (tvOf tb 0 tc ⟨nm, us, ps, o⟩) c J ⟨nm, us, ps, o⟩ (w3.setCell ⟨B, 3, none⟩ (.bool o)) := by
  have hT := read_tasks G1 G2 hu
  have z0 := G1.z0
  have z1 := G1.z1
  have z2 := G1.z2
  have z3 := G2.z2
  have hblk := G2.blk
  rcases G1.own.2 with ⟨_, h0⟩ | ⟨tb, tc, cur1, rfl, hb1, hg1, _⟩
  · omega
  rcases G2.own.2 with ⟨_, h0⟩ | ⟨g, c, cur, rfl, hb2, hg2, hkc, hcm, hcz, htk⟩
  · omega
  have hk2 : KeptG B w3 (w3.setCell ⟨B, 3, none⟩ (.bool o)) := KeptG.set B 3 w3 (.bool o)
  have htlt : tb < w2.heap.size := (Array.getElem?_eq_some_iff.1 hg1).1
  have hgB : g ≠ B := by omega
  refine ⟨g, tb, tc, c, cur.toList.drop (k * 9), ⟨by omega, by omega⟩, ?_, ?_, Ne.symm hgB, ?_, ?_, ?_, ?_, ?_⟩
  · have h1 := hblk.set (o := 3) (.bool o)
    unfold tvOf
    show BlkIs _ B [.string nm, .slice (some ⟨tb, 0, none⟩) us.length tc, .slice (some ⟨g, 0, none⟩) ps.length c, .bool o] 96
    rw [hu, hp]
    exact h1
  · have h1 : BlkIs w3 g (flat encPart ps ++ cur.toList.drop (k * 9)) 109 := by
      unfold BlkIs
      rw [← htk, List.take_append_drop]
      exact hg2
    exact hk2.blk h1 hgB
  · unfold tvOf
    show TasksAt _ (.slice (some ⟨tb, 0, none⟩) us.length tc) us
    rw [hu]
    refine ⟨hT.1.keptG hk2 (by simp only [Value.ownBlock, ne_eq, Option.some.injEq]; omega), fun j hj => (hT.2 j hj).keptG hk2 (fun e => ?_)⟩
    have := ((G1.inn j hj).2 _ e).1
    omega
  · unfold tvOf
    refine ⟨?_, ?_⟩
    · show Value.ownBlock (.slice (some ⟨tb, 0, none⟩) us.length tc) ≠ some B
      simp only [Value.ownBlock, ne_eq, Option.some.injEq]
      omega
    · show Value.ownBlock (.slice (some ⟨tb, 0, none⟩) us.length tc) ≠ some g
      simp only [Value.ownBlock, ne_eq, Option.some.injEq]
      omega
  · exact fun j hj => ⟨fun e => (by have := ((G1.inn j hj).2 _ e).1; omega), fun e => (by have := ((G1.inn j hj).2 _ e).2.1; omega)⟩
  · intro j hj
    have h1 := G2.inn j hj
    exact ⟨h1.1.keptG hk2 (fun e => by have := (h1.2 _ e).1; omega), fun e => (by have := (h1.2 _ e).1; omega), fun e => (h1.2 _ e).2.2 rfl⟩
  · exact hu.trans hp.symm
set_option maxHeartbeats 16000000 in
theorem runRead (b : Nat) (s : List UInt8) (bad : Bool) (w : World) (h : RdAt b s bad w) (hM : Met w) (h9 : 9 ≤ b) (hs : s.length < 4294967281) :
    Calls Tryz.prog 13 #[.pointer (some ⟨b, 0, none⟩)] w (ReadPost b (s, bad) w) := by
  obtain ⟨i1, zT, hi1, hz10, hz11, hz12, hz1s⟩ := info_cloneT
  obtain ⟨i2, zP, hi2, hz20, hz21, hz22, hz2s⟩ := info_partR
  have HI1 := Lib.hid hi1
  have HZ1 := Lib.hid hz10
  have HI2 := Lib.hid hi2
  have HZ2 := Lib.hid hz20
  clear hi1 hz10 hi2 hz20
  have bz := h.1
  have KT := Lib.hid (fun W (h : RdAt b s bad W) (hM : Met W) => readerText b s bad 8 W h hM h9 hs)
  obtain ⟨x0, hx0⟩ : ∃ x, x = rdText s bad 8 := ⟨_, rfl⟩
  have HX0 := Lib.hid hx0
  have hxl := rdText_le s bad 8
  have hxi := rdText_in s bad 8
  have hx8 : rdText s bad ((8 : Nat) : Int) = rdText s bad 8 := rfl
  rw [hx8] at hxi
  unfold TextPost at KT
  rw [← hx0] at KT hxl hxi
  obtain ⟨nml, s0, b0⟩ := x0
  dsimp only at KT hxl hxi
  have K1 := Lib.hid (fun W (h : RdAt b s0 b0 W) (hM : Met W) => readerInt b s0 b0 1 8 W h hM h9 (by omega))
  obtain ⟨c, hc⟩ : ∃ c, c = rdStep s0 b0 1 8 := ⟨_, rfl⟩
  have HC := Lib.hid hc
  have hc1 := rdStep_io s0 b0 1 8 (by decide) (by decide)
  rw [← hc] at hc1
  have hc2 := rdStep_le s0 b0 1 8
  rw [← hc] at hc2
  unfold IntPost at K1
  rw [← hc] at K1
  obtain ⟨n, s1, b1⟩ := c
  dsimp only at hc1 hc2 K1
  obtain ⟨m, rfl⟩ := Int.eq_ofNat_of_zero_le hc1.1
  have HR := Lib.hid h
  have HM := Lib.hid hM
  have hnmz : (⟨nml.toArray⟩ : ByteArray).size ≤ 8 := by show nml.toArray.size ≤ 8; rw [List.size_toArray]; exact hxi
  clear h hM hc hx0 hxi hx8
  go_enter Tryz.func13, Tryz.ntmps13
  go_wp2_with fail
  refine (KT.out w HR.out HM.out).mono ?_
  rintro e w1 ⟨rfl, hr, hk⟩
  obtain ⟨nm, hnm⟩ : ∃ x : ByteArray, x = ⟨nml.toArray⟩ := ⟨_, rfl⟩
  have HNM := Lib.hid hnm
  rw [← hnm] at hnmz ⊢
  clear hnm
  have hsz1 := hk.2.2
  have bb := below1 w1 (.cells #[.string nm, .slice none 0 0, .slice none 0 0, .bool false] 96)
  have HX := Lib.hid (show BlkIs (w1.alloc (.cells #[.string nm, .slice none 0 0, .slice none 0 0, .bool false] 96)) w1.heap.size [.string nm, .slice none 0 0, .slice none 0 0, .bool false] 96 from BlkIs.alloc w1 _ 96)
  have HM1 := Lib.hid ((hk.met HM.out h9).below bb)
  have HK1 := Lib.hid (hk.trans (KeptB.of (Nat.lt_of_lt_of_le bz hk.2.2) bb))
  have HR1 := Lib.hid (hr.below bb)
  clear hk hr HR HM KT bb
  go_wp2_with fail
  generalize w1.alloc (.cells #[.string nm, .slice none 0 0, .slice none 0 0, .bool false] 96) = w2 at HX HM1 HK1 HR1 ⊢
  obtain ⟨B, hBe⟩ : ∃ B, B = w1.heap.size := ⟨_, rfl⟩
  rw [← hBe] at HX hsz1 ⊢
  clear hBe
  have hbB : b < B := by omega
  have hBw : w.heap.size ≤ B := hsz1
  refine (K1.out w2 HR1.out HM1.out).mono ?_
  rintro e w3 ⟨rfl, hr, hk⟩
  have HX3 := Lib.hid (HX.out.of (hk.2.1 B HX.out.lt (by omega)))
  have HM3 := Lib.hid (hk.met HM1.out h9)
  have HK3 := Lib.hid (HK1.out.trans hk)
  have HR3 := Lib.hid hr
  clear hk hr HX HM1 HK1 HR1 K1
  have HG0 := Lib.hid (GrAt.start (T := 100) (kk := 7) (enc := encT) (sl := TaskV.sl) (af := TaskV.after) (w0 := w) (b := b) (B := B) (f := 1) (cs := [.string nm, .slice none 0 0, .slice none 0 0, .bool false]) (TB := 96) (st := (rdTs 0 (s1, b1)).2) bz hBw HX3.out.lt HX3.out HR3.out HM3.out HK3.out)
  clear HX3 HM3 HK3 HR3
  go_wp2_with fail
  go_loopw [13] (fun t wr => ∃ k : Nat, k ≤ m ∧ t = .int .i64 k ∧ ∃ v us, GrAt 100 7 encT TaskV.sl TaskV.after w w3 b B 1 w3.heap.size k [.string nm, .slice none 0 0, .slice none 0 0, .bool false] 96 v (rdTs k (s1, b1)).2 us wr ∧ SameT us (rdTs k (s1, b1)).1) (fun t _ => m - (intOf t).toNat)
  case atStart => exact ⟨0, by omega, rfl, _, _, HG0.out, SameT.nil⟩
  case round =>
    obtain ⟨k, hk, rfl, v, us, hg, hsame⟩ := hrel
    have HG := Lib.hid hg
    have HS := Lib.hid hsame
    clear hg hsame HG0
    by_cases hlt : k < m
    · have hltz : (k : Int) < (m : Int) := by omega
      have hlen := rdTs_le k (s1, b1)
      have hE : rdTs (k + 1) (s1, b1) = ((rdTs k (s1, b1)).1 ++ [tvX (rdTask (rdTs k (s1, b1)).2.1 (rdTs k (s1, b1)).2.2) (.slice none 0 0)], (rdTask (rdTs k (s1, b1)).2.1 (rdTs k (s1, b1)).2.2).st) := rfl
      have hll := rdTs_len k (s1, b1)
      obtain ⟨R, hR⟩ : ∃ R, R = rdTs k (s1, b1) := ⟨_, rfl⟩
      rw [← hR] at HG HS hlen hE hll
      obtain ⟨l, sk, bk⟩ := R
      dsimp only at HG HS hlen hE hll
      have hKC := fun W (h : RdAt b sk bk W) (hM : Met W) => taskRead b sk bk W h hM h9 (by omega)
      obtain ⟨x, hx⟩ : ∃ x, x = rdTask sk bk := ⟨_, rfl⟩
      rw [← hx] at hKC hE
      have KC := Lib.hid hKC
      obtain ⟨xnm, xaf, xr, xt, xn, ⟨xl, xs⟩, xst⟩ := x
      have HE := Lib.hid hE
      clear hE hKC hx hR
      have hkl : us.length = k := HS.out.1.trans hll
      have hB := HG.out.blk
      have c0 := hB.cell 1
      simp only [List.set_cons_succ, List.set_cons_zero, List.getElem?_cons_succ, List.getElem?_cons_zero] at c0
      clear hB
      go_wp2_with fail
      refine wp_region_held_drew (S := fun _ => True) (by kernel_rfl) trivial (fun hH0 => ?_)
      try dsimp only [List.size_toArray, List.length_cons, List.length_nil]
      have HG := Lib.hid (HG.out.below (Below.refl _ _).drew)
      have c0 : wr.drew.cell? ⟨B, 1, none⟩ = some v := c0
      generalize wr.drew = v0 at HG c0 ⊢
      refine takeL (i := 0) rfl (v := ?vz1) (by kernel_rfl) (by kernel_rfl) (by kernel_rfl) (fun _ _ _ h => h) (Or.inl ⟨by rfl, fun _w _hSw => ?hyz1⟩) (by assumption) ?restz1
      case hyz1 =>
        (try dsimp only at _hSw)
        go_simp
        try with_reducible rfl
      try simp only [Act.put, List.setIfInBounds_toArray, List.set_cons_zero, List.set_cons_succ]
      refine takeL (i := 1) rfl (v := ?vz2) (by kernel_rfl) (by kernel_rfl) (by kernel_rfl) (fun _ _ _ h => h) (Or.inl ⟨by rfl, fun _w _hSw => ?hyz2⟩) (by assumption) ?restz2
      case hyz2 =>
        (try dsimp only at _hSw)
        go_simp
        try with_reducible rfl
      try simp only [Act.put, List.setIfInBounds_toArray, List.set_cons_zero, List.set_cons_succ]
      refine takeL (i := 2) rfl (v := ?vz3) (by kernel_rfl) (by kernel_rfl) (by kernel_rfl) (fun _ _ _ h => h) (Or.inl ⟨by rfl, fun _w _hSw => ?hyz3⟩) (by assumption) ?restz3
      case hyz3 =>
        (try dsimp only at _hSw)
        go_simp
        try with_reducible rfl
      try simp only [Act.put, List.setIfInBounds_toArray, List.set_cons_zero, List.set_cons_succ]
      refine takeL (i := 3) rfl (v := ?vz4) (by kernel_rfl) (by kernel_rfl) (by kernel_rfl) (fun _ _ _ h => h) (Or.inl ⟨by rfl, fun _w _hSw => ?hyz4⟩) (by assumption) ?restz4
      case hyz4 =>
        (try dsimp only at _hSw)
        go_simp
        try with_reducible rfl
      try simp only [Act.put, List.setIfInBounds_toArray, List.set_cons_zero, List.set_cons_succ]
      refine takeL (i := 4) rfl (v := ?vz5) (by kernel_rfl) (by kernel_rfl) (by kernel_rfl) (fun _ _ _ h => h) (Or.inl ⟨by rfl, fun _w _hSw => ?hyz5⟩) (by assumption) ?restz5
      case hyz5 =>
        (try dsimp only at _hSw)
        go_simp
        try with_reducible rfl
      try simp only [Act.put, List.setIfInBounds_toArray, List.set_cons_zero, List.set_cons_succ]
      refine takeL (i := 6) rfl (v := ?vz6) (by kernel_rfl) (by kernel_rfl) (by kernel_rfl) (fun _ _ _ h => h) (Or.inl ⟨by rfl, fun _w _hSw => ?hyz6⟩) (by assumption) ?restz6
      case hyz6 =>
        (try dsimp only at _hSw)
        go_simp
        try with_reducible rfl
      try simp only [Act.put, List.setIfInBounds_toArray, List.set_cons_zero, List.set_cons_succ]
      refine wpAnyH_ready (rs := [5, 7]) (by kernel_rfl) (by simp) (readyL rfl (fun K1 hK => ?_) (readyL rfl (fun K1 hK => ?_) AllReadyH.nil))
      ·
        go_simp
        refine hK.out _ _ trivial (fun _ => ?_)
        clear hK K1
        try simp only [Act.put, List.setIfInBounds_toArray, List.set_cons_zero, List.set_cons_succ]
        refine wpAnyH_ready (rs := [7]) (by kernel_rfl) (by simp) (readyL rfl (fun K1 hK => ?_) AllReadyH.nil)
        go_simp
        have hrd0 := HG.out.rd
        have hmt0 := HG.out.met
        with_reducible refine (KC.out _ hrd0 hmt0).mono ?_
        rintro e v1 ⟨sv, rfl, hsl, hr1, hk1, hq1⟩
        try dsimp only
        try dsimp only at hsl hr1
        refine hK.out _ _ trivial (fun _ => ?_)
        have HEL := Lib.hid (show SlAt 1 encI v1 sv xaf ∧ ∀ q, sv.ownBlock = some q → w3.heap.size ≤ q ∧ q < v1.heap.size ∧ v.ownBlock ≠ some q from ⟨hsl, fun q hq => ⟨by have := (hq1 q hq).1; have := HG.out.z2; omega, (hq1 q hq).2, fun e => by have := (hq1 q hq).1; have := owns_lt HG.out.own e; omega⟩⟩)
        have HG := Lib.hid (GrAt.read (st' := xst) HG.out h9 hr1 hk1)
        obtain ⟨sp, scc, hsv, _⟩ := id hsl
        subst hsv
        clear hK K1 hr1 hk1 hrd0 hmt0 hq1 hsl
        have hB := HG.out.blk
        have c0 := hB.cell 1
        simp only [List.set_cons_succ, List.set_cons_zero, List.getElem?_cons_succ, List.getElem?_cons_zero] at c0
        clear hB
        obtain ⟨bn, hbn⟩ : ∃ x : ByteArray, x = ⟨xnm.toArray⟩ := ⟨_, rfl⟩
        have HBN := Lib.hid hbn
        rw [← hbn]
        clear hbn
        try simp only [Act.put, List.setIfInBounds_toArray, List.set_cons_zero, List.set_cons_succ]
        refine wpAnyH_ready (rs := [8]) (by kernel_rfl) (by simp) (readyL rfl (fun K1 hK => ?_) AllReadyH.nil)
        go_simp
        refine hK.out _ _ trivial (fun _ => ?_)
        have hbl := below1 v1 (.cells #[.string bn, .slice sp xaf.length scc, .int .i64 xr, .int .i64 xt, .int .i64 xn, .int .i64 xl, .int .u16 (xs : Int)] 100)
        have HG := Lib.hid (HG.out.below hbl)
        have HEL := Lib.hid (And.intro (HEL.out.1.below hbl) (fun q hq => (⟨(HEL.out.2 q hq).1, Nat.lt_of_lt_of_le (HEL.out.2 q hq).2.1 hbl.size, (HEL.out.2 q hq).2.2⟩ : _ ∧ _ ∧ _)))
        have HBX := Lib.hid (show BlkIs (v1.alloc (.cells #[.string bn, .slice sp xaf.length scc, .int .i64 xr, .int .i64 xt, .int .i64 xn, .int .i64 xl, .int .u16 (xs : Int)] 100)) v1.heap.size [.string bn, .slice sp xaf.length scc, .int .i64 xr, .int .i64 xt, .int .i64 xn, .int .i64 xl, .int .u16 (xs : Int)] 100 from BlkIs.alloc v1 _ 100)
        have hB := HG.out.blk
        have c0 := hB.cell 1
        simp only [List.set_cons_succ, List.set_cons_zero, List.getElem?_cons_succ, List.getElem?_cons_zero] at c0
        clear hB
        clear hK K1 hbl
        generalize v1.alloc (.cells #[.string bn, .slice sp xaf.length scc, .int .i64 xr, .int .i64 xt, .int .i64 xn, .int .i64 xl, .int .u16 (xs : Int)] 100) = v2 at HG HEL HBX c0 ⊢
        generalize v1.heap.size = bx at HBX ⊢
        try simp only [Act.put, List.setIfInBounds_toArray, List.set_cons_zero, List.set_cons_succ]
        refine wpAnyH_ready (rs := [9]) (by kernel_rfl) (by simp) (readyL rfl (fun K1 hK => ?_) AllReadyH.nil)
        rw [if_pos (by kernel_rfl)]
        refine wp_append_own2 _ (.tmp 20) (.tmp 23) 44 rfl w3.heap.size 100 i1 zT 7 80 Tryz.underlying44 HI1.out HZ1.out hz11 hz12 hz1s (by decide) v k (flat encT us) rfl HG.out.own ⟨bx, 0, none⟩ 1 1 [.string bn, .slice sp xaf.length scc, .int .i64 xr, .int .i64 xt, .int .i64 xn, .int .i64 xl, .int .u16 (xs : Int)] rfl rfl ?_ ?_ ?_ ?_ HG.out.z2 ?_
        · intro jj u hj
          rw [Go.WideShapes.add_plain, Nat.zero_add, HBX.out.cell jj]
          exact hj
        · simp [Value.oneCell']
        · unfold maxLen; omega
        · omega
        intro v' w4 hown3 hgrow hnb
        obtain ⟨pv', nv', cv', rfl⟩ : ∃ p n c, v' = Value.slice p n c := by
          rcases hown3.2 with ⟨e, _⟩ | ⟨g, cap, cur, e, _⟩
          · exact ⟨_, _, _, e⟩
          · exact ⟨_, _, _, e⟩
        refine hK.out _ _ trivial (fun _ => ?_)
        have HP := Lib.hid (GrAt.put HG.out h9 (⟨bn, .slice sp xaf.length scc, xaf, xr, xt, xn, xl, xs⟩) HEL.out.1 HEL.out.2 hgrow (by simpa [flat, encT, encPart, encTry] using hown3) hnb)
        have hB4 := HG.out.blk.of (hgrow.block B HG.out.blk.lt (fun e => by have := owns_block HG.out.own B e.symm; have := HG.out.z1; omega))
        have cf := hB4.cell 1
        simp only [List.set_cons_succ, List.set_cons_zero, List.getElem?_cons_succ, List.getElem?_cons_zero] at cf
        have cfz := hB4.frozen 1
        clear hK K1 hown3 hgrow c0 hB4 hnb
        try simp only [Act.put, List.setIfInBounds_toArray, List.set_cons_zero, List.set_cons_succ]
        refine takeL (i := 10) rfl (v := ?vz7) (by kernel_rfl) (by kernel_rfl) (by kernel_rfl) (fun _ _ _ h => h) (Or.inl ⟨by rfl, fun _w _hSw => ?hyz7⟩) (by assumption) ?restz7
        case hyz7 =>
          (try dsimp only at _hSw)
          go_simp
          try with_reducible rfl
        try simp only [Act.put, List.setIfInBounds_toArray, List.set_cons_zero, List.set_cons_succ]
        refine takeL (i := 11) rfl (v := ?vz8) (by kernel_rfl) (by kernel_rfl) (by kernel_rfl) (fun _ _ _ h => h) (Or.inl ⟨by rfl, fun _w _hSw => ?hyz8⟩) (by assumption) ?restz8
        case hyz8 =>
          (try dsimp only at _hSw)
          go_simp
          try with_reducible rfl
        try simp only [Act.put, List.setIfInBounds_toArray, List.set_cons_zero, List.set_cons_succ]
        refine takeL (i := 12) rfl (v := ?vz9) (by kernel_rfl) (by kernel_rfl) (by kernel_rfl) (fun _ _ _ h => h) (Or.inl ⟨by rfl, fun _w _hSw => ?hyz9⟩) (by assumption) ?restz9
        case hyz9 =>
          (try dsimp only at _hSw)
          go_simp
          try with_reducible rfl
        try simp only [Act.put, List.setIfInBounds_toArray, List.set_cons_zero, List.set_cons_succ]
        refine wpAnyH_ready (rs := [13]) (by kernel_rfl) (by simp) (readyL rfl (fun K1 hK => ?_) AllReadyH.nil)
        go_simp
        refine hK.out _ _ trivial (fun _ => ?_)
        clear hK K1 cf cfz
        try simp only [Act.put, List.setIfInBounds_toArray, List.set_cons_zero, List.set_cons_succ]
        refine wpAnyH_done (by kernel_rfl) ?_ _
        go_wp2
        go_roundw
        case rel =>
          have hR : rdTs (k + 1) (s1, b1) = _ := HE.out
          have hn := HBN.out
          subst hn
          exact ⟨k + 1, by omega, by go_num, _, _, by rw [hR]; exact HP.out, by rw [hR]; exact HS.out.snoc rfl⟩
        case measure => simp [intOf] <;> omega
      ·
        go_simp
        have hrd0 := HG.out.rd
        have hmt0 := HG.out.met
        with_reducible refine (KC.out _ hrd0 hmt0).mono ?_
        rintro e v1 ⟨sv, rfl, hsl, hr1, hk1, hq1⟩
        try dsimp only
        try dsimp only at hsl hr1
        refine hK.out _ _ trivial (fun _ => ?_)
        have HEL := Lib.hid (show SlAt 1 encI v1 sv xaf ∧ ∀ q, sv.ownBlock = some q → w3.heap.size ≤ q ∧ q < v1.heap.size ∧ v.ownBlock ≠ some q from ⟨hsl, fun q hq => ⟨by have := (hq1 q hq).1; have := HG.out.z2; omega, (hq1 q hq).2, fun e => by have := (hq1 q hq).1; have := owns_lt HG.out.own e; omega⟩⟩)
        have HG := Lib.hid (GrAt.read (st' := xst) HG.out h9 hr1 hk1)
        obtain ⟨sp, scc, hsv, _⟩ := id hsl
        subst hsv
        clear hK K1 hr1 hk1 hrd0 hmt0 hq1 hsl
        have hB := HG.out.blk
        have c0 := hB.cell 1
        simp only [List.set_cons_succ, List.set_cons_zero, List.getElem?_cons_succ, List.getElem?_cons_zero] at c0
        clear hB
        obtain ⟨bn, hbn⟩ : ∃ x : ByteArray, x = ⟨xnm.toArray⟩ := ⟨_, rfl⟩
        have HBN := Lib.hid hbn
        rw [← hbn]
        clear hbn
        try simp only [Act.put, List.setIfInBounds_toArray, List.set_cons_zero, List.set_cons_succ]
        refine wpAnyH_ready (rs := [5, 8]) (by kernel_rfl) (by simp) (readyL rfl (fun K1 hK => ?_) (readyL rfl (fun K1 hK => ?_) AllReadyH.nil))
        ·
          go_simp
          refine hK.out _ _ trivial (fun _ => ?_)
          clear hK K1
          try simp only [Act.put, List.setIfInBounds_toArray, List.set_cons_zero, List.set_cons_succ]
          refine wpAnyH_ready (rs := [8]) (by kernel_rfl) (by simp) (readyL rfl (fun K1 hK => ?_) AllReadyH.nil)
          go_simp
          refine hK.out _ _ trivial (fun _ => ?_)
          have hbl := below1 v1 (.cells #[.string bn, .slice sp xaf.length scc, .int .i64 xr, .int .i64 xt, .int .i64 xn, .int .i64 xl, .int .u16 (xs : Int)] 100)
          have HG := Lib.hid (HG.out.below hbl)
          have HEL := Lib.hid (And.intro (HEL.out.1.below hbl) (fun q hq => (⟨(HEL.out.2 q hq).1, Nat.lt_of_lt_of_le (HEL.out.2 q hq).2.1 hbl.size, (HEL.out.2 q hq).2.2⟩ : _ ∧ _ ∧ _)))
          have HBX := Lib.hid (show BlkIs (v1.alloc (.cells #[.string bn, .slice sp xaf.length scc, .int .i64 xr, .int .i64 xt, .int .i64 xn, .int .i64 xl, .int .u16 (xs : Int)] 100)) v1.heap.size [.string bn, .slice sp xaf.length scc, .int .i64 xr, .int .i64 xt, .int .i64 xn, .int .i64 xl, .int .u16 (xs : Int)] 100 from BlkIs.alloc v1 _ 100)
          have hB := HG.out.blk
          have c0 := hB.cell 1
          simp only [List.set_cons_succ, List.set_cons_zero, List.getElem?_cons_succ, List.getElem?_cons_zero] at c0
          clear hB
          clear hK K1 hbl
          generalize v1.alloc (.cells #[.string bn, .slice sp xaf.length scc, .int .i64 xr, .int .i64 xt, .int .i64 xn, .int .i64 xl, .int .u16 (xs : Int)] 100) = v2 at HG HEL HBX c0 ⊢
          generalize v1.heap.size = bx at HBX ⊢
          try simp only [Act.put, List.setIfInBounds_toArray, List.set_cons_zero, List.set_cons_succ]
          refine wpAnyH_ready (rs := [9]) (by kernel_rfl) (by simp) (readyL rfl (fun K1 hK => ?_) AllReadyH.nil)
          rw [if_pos (by kernel_rfl)]
          refine wp_append_own2 _ (.tmp 20) (.tmp 23) 44 rfl w3.heap.size 100 i1 zT 7 80 Tryz.underlying44 HI1.out HZ1.out hz11 hz12 hz1s (by decide) v k (flat encT us) rfl HG.out.own ⟨bx, 0, none⟩ 1 1 [.string bn, .slice sp xaf.length scc, .int .i64 xr, .int .i64 xt, .int .i64 xn, .int .i64 xl, .int .u16 (xs : Int)] rfl rfl ?_ ?_ ?_ ?_ HG.out.z2 ?_
          · intro jj u hj
            rw [Go.WideShapes.add_plain, Nat.zero_add, HBX.out.cell jj]
            exact hj
          · simp [Value.oneCell']
          · unfold maxLen; omega
          · omega
          intro v' w4 hown3 hgrow hnb
          obtain ⟨pv', nv', cv', rfl⟩ : ∃ p n c, v' = Value.slice p n c := by
            rcases hown3.2 with ⟨e, _⟩ | ⟨g, cap, cur, e, _⟩
            · exact ⟨_, _, _, e⟩
            · exact ⟨_, _, _, e⟩
          refine hK.out _ _ trivial (fun _ => ?_)
          have HP := Lib.hid (GrAt.put HG.out h9 (⟨bn, .slice sp xaf.length scc, xaf, xr, xt, xn, xl, xs⟩) HEL.out.1 HEL.out.2 hgrow (by simpa [flat, encT, encPart, encTry] using hown3) hnb)
          have hB4 := HG.out.blk.of (hgrow.block B HG.out.blk.lt (fun e => by have := owns_block HG.out.own B e.symm; have := HG.out.z1; omega))
          have cf := hB4.cell 1
          simp only [List.set_cons_succ, List.set_cons_zero, List.getElem?_cons_succ, List.getElem?_cons_zero] at cf
          have cfz := hB4.frozen 1
          clear hK K1 hown3 hgrow c0 hB4 hnb
          try simp only [Act.put, List.setIfInBounds_toArray, List.set_cons_zero, List.set_cons_succ]
          refine takeL (i := 10) rfl (v := ?vz10) (by kernel_rfl) (by kernel_rfl) (by kernel_rfl) (fun _ _ _ h => h) (Or.inl ⟨by rfl, fun _w _hSw => ?hyz10⟩) (by assumption) ?restz10
          case hyz10 =>
            (try dsimp only at _hSw)
            go_simp
            try with_reducible rfl
          try simp only [Act.put, List.setIfInBounds_toArray, List.set_cons_zero, List.set_cons_succ]
          refine takeL (i := 11) rfl (v := ?vz11) (by kernel_rfl) (by kernel_rfl) (by kernel_rfl) (fun _ _ _ h => h) (Or.inl ⟨by rfl, fun _w _hSw => ?hyz11⟩) (by assumption) ?restz11
          case hyz11 =>
            (try dsimp only at _hSw)
            go_simp
            try with_reducible rfl
          try simp only [Act.put, List.setIfInBounds_toArray, List.set_cons_zero, List.set_cons_succ]
          refine takeL (i := 12) rfl (v := ?vz12) (by kernel_rfl) (by kernel_rfl) (by kernel_rfl) (fun _ _ _ h => h) (Or.inl ⟨by rfl, fun _w _hSw => ?hyz12⟩) (by assumption) ?restz12
          case hyz12 =>
            (try dsimp only at _hSw)
            go_simp
            try with_reducible rfl
          try simp only [Act.put, List.setIfInBounds_toArray, List.set_cons_zero, List.set_cons_succ]
          refine wpAnyH_ready (rs := [13]) (by kernel_rfl) (by simp) (readyL rfl (fun K1 hK => ?_) AllReadyH.nil)
          go_simp
          refine hK.out _ _ trivial (fun _ => ?_)
          clear hK K1 cf cfz
          try simp only [Act.put, List.setIfInBounds_toArray, List.set_cons_zero, List.set_cons_succ]
          refine wpAnyH_done (by kernel_rfl) ?_ _
          go_wp2
          go_roundw
          case rel =>
            have hR : rdTs (k + 1) (s1, b1) = _ := HE.out
            have hn := HBN.out
            subst hn
            exact ⟨k + 1, by omega, by go_num, _, _, by rw [hR]; exact HP.out, by rw [hR]; exact HS.out.snoc rfl⟩
          case measure => simp [intOf] <;> omega
        ·
          go_simp
          refine hK.out _ _ trivial (fun _ => ?_)
          have hbl := below1 v1 (.cells #[.string bn, .slice sp xaf.length scc, .int .i64 xr, .int .i64 xt, .int .i64 xn, .int .i64 xl, .int .u16 (xs : Int)] 100)
          have HG := Lib.hid (HG.out.below hbl)
          have HEL := Lib.hid (And.intro (HEL.out.1.below hbl) (fun q hq => (⟨(HEL.out.2 q hq).1, Nat.lt_of_lt_of_le (HEL.out.2 q hq).2.1 hbl.size, (HEL.out.2 q hq).2.2⟩ : _ ∧ _ ∧ _)))
          have HBX := Lib.hid (show BlkIs (v1.alloc (.cells #[.string bn, .slice sp xaf.length scc, .int .i64 xr, .int .i64 xt, .int .i64 xn, .int .i64 xl, .int .u16 (xs : Int)] 100)) v1.heap.size [.string bn, .slice sp xaf.length scc, .int .i64 xr, .int .i64 xt, .int .i64 xn, .int .i64 xl, .int .u16 (xs : Int)] 100 from BlkIs.alloc v1 _ 100)
          have hB := HG.out.blk
          have c0 := hB.cell 1
          simp only [List.set_cons_succ, List.set_cons_zero, List.getElem?_cons_succ, List.getElem?_cons_zero] at c0
          clear hB
          clear hK K1 hbl
          generalize v1.alloc (.cells #[.string bn, .slice sp xaf.length scc, .int .i64 xr, .int .i64 xt, .int .i64 xn, .int .i64 xl, .int .u16 (xs : Int)] 100) = v2 at HG HEL HBX c0 ⊢
          generalize v1.heap.size = bx at HBX ⊢
          try simp only [Act.put, List.setIfInBounds_toArray, List.set_cons_zero, List.set_cons_succ]
          refine wpAnyH_ready (rs := [5]) (by kernel_rfl) (by simp) (readyL rfl (fun K1 hK => ?_) AllReadyH.nil)
          go_simp
          refine hK.out _ _ trivial (fun _ => ?_)
          clear hK K1
          try simp only [Act.put, List.setIfInBounds_toArray, List.set_cons_zero, List.set_cons_succ]
          refine wpAnyH_ready (rs := [9]) (by kernel_rfl) (by simp) (readyL rfl (fun K1 hK => ?_) AllReadyH.nil)
          rw [if_pos (by kernel_rfl)]
          refine wp_append_own2 _ (.tmp 20) (.tmp 23) 44 rfl w3.heap.size 100 i1 zT 7 80 Tryz.underlying44 HI1.out HZ1.out hz11 hz12 hz1s (by decide) v k (flat encT us) rfl HG.out.own ⟨bx, 0, none⟩ 1 1 [.string bn, .slice sp xaf.length scc, .int .i64 xr, .int .i64 xt, .int .i64 xn, .int .i64 xl, .int .u16 (xs : Int)] rfl rfl ?_ ?_ ?_ ?_ HG.out.z2 ?_
          · intro jj u hj
            rw [Go.WideShapes.add_plain, Nat.zero_add, HBX.out.cell jj]
            exact hj
          · simp [Value.oneCell']
          · unfold maxLen; omega
          · omega
          intro v' w4 hown3 hgrow hnb
          obtain ⟨pv', nv', cv', rfl⟩ : ∃ p n c, v' = Value.slice p n c := by
            rcases hown3.2 with ⟨e, _⟩ | ⟨g, cap, cur, e, _⟩
            · exact ⟨_, _, _, e⟩
            · exact ⟨_, _, _, e⟩
          refine hK.out _ _ trivial (fun _ => ?_)
          have HP := Lib.hid (GrAt.put HG.out h9 (⟨bn, .slice sp xaf.length scc, xaf, xr, xt, xn, xl, xs⟩) HEL.out.1 HEL.out.2 hgrow (by simpa [flat, encT, encPart, encTry] using hown3) hnb)
          have hB4 := HG.out.blk.of (hgrow.block B HG.out.blk.lt (fun e => by have := owns_block HG.out.own B e.symm; have := HG.out.z1; omega))
          have cf := hB4.cell 1
          simp only [List.set_cons_succ, List.set_cons_zero, List.getElem?_cons_succ, List.getElem?_cons_zero] at cf
          have cfz := hB4.frozen 1
          clear hK K1 hown3 hgrow c0 hB4 hnb
          try simp only [Act.put, List.setIfInBounds_toArray, List.set_cons_zero, List.set_cons_succ]
          refine takeL (i := 10) rfl (v := ?vz13) (by kernel_rfl) (by kernel_rfl) (by kernel_rfl) (fun _ _ _ h => h) (Or.inl ⟨by rfl, fun _w _hSw => ?hyz13⟩) (by assumption) ?restz13
          case hyz13 =>
            (try dsimp only at _hSw)
            go_simp
            try with_reducible rfl
          try simp only [Act.put, List.setIfInBounds_toArray, List.set_cons_zero, List.set_cons_succ]
          refine takeL (i := 11) rfl (v := ?vz14) (by kernel_rfl) (by kernel_rfl) (by kernel_rfl) (fun _ _ _ h => h) (Or.inl ⟨by rfl, fun _w _hSw => ?hyz14⟩) (by assumption) ?restz14
          case hyz14 =>
            (try dsimp only at _hSw)
            go_simp
            try with_reducible rfl
          try simp only [Act.put, List.setIfInBounds_toArray, List.set_cons_zero, List.set_cons_succ]
          refine takeL (i := 12) rfl (v := ?vz15) (by kernel_rfl) (by kernel_rfl) (by kernel_rfl) (fun _ _ _ h => h) (Or.inl ⟨by rfl, fun _w _hSw => ?hyz15⟩) (by assumption) ?restz15
          case hyz15 =>
            (try dsimp only at _hSw)
            go_simp
            try with_reducible rfl
          try simp only [Act.put, List.setIfInBounds_toArray, List.set_cons_zero, List.set_cons_succ]
          refine wpAnyH_ready (rs := [13]) (by kernel_rfl) (by simp) (readyL rfl (fun K1 hK => ?_) AllReadyH.nil)
          go_simp
          refine hK.out _ _ trivial (fun _ => ?_)
          clear hK K1 cf cfz
          try simp only [Act.put, List.setIfInBounds_toArray, List.set_cons_zero, List.set_cons_succ]
          refine wpAnyH_done (by kernel_rfl) ?_ _
          go_wp2
          go_roundw
          case rel =>
            have hR : rdTs (k + 1) (s1, b1) = _ := HE.out
            have hn := HBN.out
            subst hn
            exact ⟨k + 1, by omega, by go_num, _, _, by rw [hR]; exact HP.out, by rw [hR]; exact HS.out.snoc rfl⟩
          case measure => simp [intOf] <;> omega
    · obtain rfl : k = m := by omega
      have hll1 := rdTs_len k (s1, b1)
      have hle1 := rdTs_le k (s1, b1)
      obtain ⟨RT, hRT⟩ : ∃ R, R = rdTs k (s1, b1) := ⟨_, rfl⟩
      have HRT := Lib.hid hRT
      have HOKT := Lib.hid (fun (us : List TaskV) (h : SameT us RT.1) => rdTs_ok (us := us) (k := k) (st := (s1, b1)) (by rw [← hRT]; exact h) (by omega))
      rw [← hRT] at HG HS hll1 hle1
      clear hRT
      obtain ⟨tl, s2, b2⟩ := RT
      dsimp only at HG HS hll1 hle1 HOKT
      have HG1 := Lib.hid (show GrAt 100 7 encT TaskV.sl TaskV.after w w3 b B 1 w3.heap.size k [.string nm, .slice none 0 0, .slice none 0 0, .bool false] 96 v (s2, b2) us wr from HG.out)
      have HS1 := Lib.hid (show SameT us tl from HS.out)
      clear HG HS
      obtain ⟨pv, nv, cv, rfl⟩ : ∃ p n c, v = Value.slice p n c := by
        rcases HG1.out.own.2 with ⟨e, _⟩ | ⟨g, cap, cur, e, _⟩
        · exact ⟨_, _, _, e⟩
        · exact ⟨_, _, _, e⟩
      have HG0 := Lib.hid (GrAt.start (T := 109) (kk := 9) (enc := encPart) (sl := PartV.vs) (af := PartV.yes) (w0 := w) (b := b) (B := B) (f := 2) (cs := [.string nm, .slice pv nv cv, .slice none 0 0, .bool false]) (TB := 96) (st := (rdPs 0 (s2, b2)).2) bz hBw HG1.out.blk.lt HG1.out.blk HG1.out.rd HG1.out.met HG1.out.kept)
      obtain ⟨wt, hwt⟩ : ∃ x, x = wr := ⟨_, rfl⟩
      rw [← hwt] at HG1 HG0 ⊢
      clear hwt
      go_wp2_with fail
      go_loopw [30] (fun t wr => ∃ k' : Nat, k' ≤ k ∧ t = .int .i64 k' ∧ ∃ v us, GrAt 109 9 encPart PartV.vs PartV.yes w wt b B 2 wt.heap.size k' [.string nm, .slice pv nv cv, .slice none 0 0, .bool false] 96 v (rdPs k' (s2, b2)).2 us wr ∧ SameP us (rdPs k' (s2, b2)).1) (fun t _ => k - (intOf t).toNat)
      case atStart => exact ⟨0, by omega, rfl, _, _, HG0.out, SameP.nil⟩
      case round =>
        obtain ⟨k', hk', rfl, v, ps, hg, hsame⟩ := hrel
        have HG := Lib.hid hg
        have HS := Lib.hid hsame
        clear hg hsame HG0
        by_cases hlt : k' < k
        · have hltz : (k' : Int) < (k : Int) := by omega
          have hlen := rdPs_le k' (s2, b2)
          have hE : rdPs (k' + 1) (s2, b2) = ((rdPs k' (s2, b2)).1 ++ [(rdPart (rdPs k' (s2, b2)).2).1], (rdPart (rdPs k' (s2, b2)).2).2) := rfl
          have hll := rdPs_len k' (s2, b2)
          obtain ⟨R, hR⟩ : ∃ R, R = rdPs k' (s2, b2) := ⟨_, rfl⟩
          rw [← hR] at HG HS hlen hE hll
          obtain ⟨l, sk, bk⟩ := R
          dsimp only at HG HS hlen hE hll
          have hpe : rdPart (sk, bk) = (⟨(rdTry (sk, bk)).1, ⟨(rdText (rdTry (sk, bk)).2.1 (rdTry (sk, bk)).2.2 32).1.toArray⟩, .slice none 0 0, (gateRd (rdText (rdTry (sk, bk)).2.1 (rdTry (sk, bk)).2.2 32).2).1, (gateRd (rdText (rdTry (sk, bk)).2.1 (rdTry (sk, bk)).2.2 32).2).2.1⟩, (gateRd (rdText (rdTry (sk, bk)).2.1 (rdTry (sk, bk)).2.2 32).2).2.2) := rfl
          rw [hpe] at hE
          clear hpe
          have hKA := fun W (h : RdAt b sk bk W) (hM : Met W) => leaseReadV b (sk, bk) W h hM h9 (by dsimp only; omega)
          have hy1 := rdTry_le (sk, bk)
          obtain ⟨y, hy⟩ : ∃ y, y = rdTry (sk, bk) := ⟨_, rfl⟩
          rw [← hy] at hKA hE hy1
          obtain ⟨⟨y0, y1, y2, y3, y4, y5⟩, sa, ba⟩ := y
          dsimp only at hKA hE hy1
          have hKB := fun W (h : RdAt b sa ba W) (hM : Met W) => readerText b sa ba 32 W h hM h9 (by omega)
          have hz1 := rdText_le sa ba 32
          unfold TextPost at hKB
          obtain ⟨z, hz⟩ : ∃ z, z = rdText sa ba 32 := ⟨_, rfl⟩
          rw [← hz] at hKB hE hz1
          obtain ⟨zt, sb, bb⟩ := z
          dsimp only at hKB hE hz1
          have hKC := fun W (h : RdAt b sb bb W) (hM : Met W) => gateRead b sb bb W h hM h9 (by omega)
          unfold GatePost at hKC
          obtain ⟨u, hu⟩ : ∃ u, u = gateRd (sb, bb) := ⟨_, rfl⟩
          rw [← hu] at hKC hE
          obtain ⟨yes, no, sc, bc⟩ := u
          dsimp only at hKC hE
          obtain ⟨ot, hot⟩ : ∃ x : ByteArray, x = ⟨zt.toArray⟩ := ⟨_, rfl⟩
          rw [← hot] at hKB hE
          have KA := Lib.hid hKA
          have KB := Lib.hid hKB
          have KC := Lib.hid hKC
          have HE := Lib.hid hE
          clear hE hKA hKB hKC hR hy hz hu hot
          have hkl : ps.length = k' := HS.out.1.trans hll
          have hB := HG.out.blk
          have c0 := hB.cell 2
          simp only [List.set_cons_succ, List.set_cons_zero, List.getElem?_cons_succ, List.getElem?_cons_zero] at c0
          clear hB
          go_wp2_with fail
          refine wp_region_held_drew (S := fun _ => True) (by kernel_rfl) trivial (fun hH0 => ?_)
          try dsimp only [List.size_toArray, List.length_cons, List.length_nil]
          have HG := Lib.hid (HG.out.below (Below.refl _ _).drew)
          have c0 : wr.drew.cell? ⟨B, 2, none⟩ = some v := c0
          generalize wr.drew = v0 at HG c0 ⊢
          refine takeL (i := 0) rfl (v := ?vz16) (by kernel_rfl) (by kernel_rfl) (by kernel_rfl) (fun _ _ _ h => h) (Or.inl ⟨by rfl, fun _w _hSw => ?hyz16⟩) (by assumption) ?restz16
          case hyz16 =>
            (try dsimp only at _hSw)
            go_simp
            try with_reducible rfl
          try simp only [Act.put, List.setIfInBounds_toArray, List.set_cons_zero, List.set_cons_succ]
          refine takeL (i := 1) rfl (v := ?vz17) (by kernel_rfl) (by kernel_rfl) (by kernel_rfl) (fun _ _ _ h => h) (Or.inl ⟨by rfl, fun _w _hSw => ?hyz17⟩) (by assumption) ?restz17
          case hyz17 =>
            (try dsimp only at _hSw)
            go_simp
            try with_reducible rfl
          try simp only [Act.put, List.setIfInBounds_toArray, List.set_cons_zero, List.set_cons_succ]
          refine takeL (i := 2) rfl (v := ?vz18) (by kernel_rfl) (by kernel_rfl) (by kernel_rfl) (fun _ _ _ h => h) (Or.inl ⟨by rfl, fun _w _hSw => ?hyz18⟩) (by assumption) ?restz18
          case hyz18 =>
            (try dsimp only at _hSw)
            go_simp
            try with_reducible rfl
          try simp only [Act.put, List.setIfInBounds_toArray, List.set_cons_zero, List.set_cons_succ]
          refine takeL (i := 3) rfl (v := ?vz19) (by kernel_rfl) (by kernel_rfl) (by kernel_rfl) (fun _ _ _ h => h) (Or.inl ⟨by rfl, fun _w _hSw => ?hyz19⟩) (by assumption) ?restz19
          case hyz19 =>
            (try dsimp only at _hSw)
            go_simp
            try with_reducible rfl
          try simp only [Act.put, List.setIfInBounds_toArray, List.set_cons_zero, List.set_cons_succ]
          refine takeL (i := 5) rfl (v := ?vz20) (by kernel_rfl) (by kernel_rfl) (by kernel_rfl) (fun _ _ _ h => h) (Or.inl ⟨by rfl, fun _w _hSw => ?hyz20⟩) (by assumption) ?restz20
          case hyz20 =>
            (try dsimp only at _hSw)
            go_simp
            try with_reducible rfl
          try simp only [Act.put, List.setIfInBounds_toArray, List.set_cons_zero, List.set_cons_succ]
          refine takeL (i := 7) rfl (v := ?vz21) (by kernel_rfl) (by kernel_rfl) (by kernel_rfl) (fun _ _ _ h => h) (Or.inl ⟨by rfl, fun _w _hSw => ?hyz21⟩) (by assumption) ?restz21
          case hyz21 =>
            (try dsimp only at _hSw)
            go_simp
            try with_reducible rfl
          try simp only [Act.put, List.setIfInBounds_toArray, List.set_cons_zero, List.set_cons_succ]
          refine takeL (i := 9) rfl (v := ?vz22) (by kernel_rfl) (by kernel_rfl) (by kernel_rfl) (fun _ _ _ h => h) (Or.inl ⟨by rfl, fun _w _hSw => ?hyz22⟩) (by assumption) ?restz22
          case hyz22 =>
            (try dsimp only at _hSw)
            go_simp
            try with_reducible rfl
          try simp only [Act.put, List.setIfInBounds_toArray, List.set_cons_zero, List.set_cons_succ]
          refine wpAnyH_ready (rs := [4, 6]) (by kernel_rfl) (by simp) (readyL rfl (fun K1 hK => ?_) (readyL rfl (fun K1 hK => ?_) AllReadyH.nil))
          ·
            go_simp
            refine hK.out _ _ trivial (fun _ => ?_)
            clear hK K1
            try simp only [Act.put, List.setIfInBounds_toArray, List.set_cons_zero, List.set_cons_succ]
            refine wpAnyH_ready (rs := [6]) (by kernel_rfl) (by simp) (readyL rfl (fun K1 hK => ?_) AllReadyH.nil)
            go_simp
            have hrd0 := HG.out.rd
            have hmt0 := HG.out.met
            with_reducible refine (KA.out _ hrd0 hmt0).mono ?_
            rintro e v1 ⟨rfl, hr1, hk1⟩
            try dsimp only
            refine hK.out _ _ trivial (fun _ => ?_)
            have HG := Lib.hid (GrAt.read (st' := (sa, ba)) HG.out h9 hr1 hk1)
            clear hK K1 hr1 hk1 hrd0 hmt0
            have hB := HG.out.blk
            have c0 := hB.cell 2
            simp only [List.set_cons_succ, List.set_cons_zero, List.getElem?_cons_succ, List.getElem?_cons_zero] at c0
            clear hB
            try simp only [Act.put, List.setIfInBounds_toArray, List.set_cons_zero, List.set_cons_succ]
            refine wpAnyH_ready (rs := [8]) (by kernel_rfl) (by simp) (readyL rfl (fun K1 hK => ?_) AllReadyH.nil)
            go_simp
            have hrd0 := HG.out.rd
            have hmt0 := HG.out.met
            with_reducible refine (KB.out _ hrd0 hmt0).mono ?_
            rintro e v1 ⟨rfl, hr1, hk1⟩
            try dsimp only
            refine hK.out _ _ trivial (fun _ => ?_)
            have HG := Lib.hid (GrAt.read (st' := (sb, bb)) HG.out h9 hr1 hk1)
            clear hK K1 hr1 hk1 hrd0 hmt0
            have hB := HG.out.blk
            have c0 := hB.cell 2
            simp only [List.set_cons_succ, List.set_cons_zero, List.getElem?_cons_succ, List.getElem?_cons_zero] at c0
            clear hB
            try simp only [Act.put, List.setIfInBounds_toArray, List.set_cons_zero, List.set_cons_succ]
            refine wpAnyH_ready (rs := [10]) (by kernel_rfl) (by simp) (readyL rfl (fun K1 hK => ?_) AllReadyH.nil)
            go_simp
            have hrd0 := HG.out.rd
            have hmt0 := HG.out.met
            with_reducible refine (KC.out _ hrd0 hmt0).mono ?_
            rintro e v1 ⟨sv, rfl, hsl, hr1, hk1, hq1⟩
            try dsimp only
            try dsimp only at hsl hr1
            refine hK.out _ _ trivial (fun _ => ?_)
            have HEL := Lib.hid (show SlAt 1 encI v1 sv yes ∧ ∀ q, sv.ownBlock = some q → wt.heap.size ≤ q ∧ q < v1.heap.size ∧ v.ownBlock ≠ some q from ⟨hsl, fun q hq => ⟨by have := (hq1 q hq).1; have := HG.out.z2; omega, (hq1 q hq).2, fun e => by have := (hq1 q hq).1; have := owns_lt HG.out.own e; omega⟩⟩)
            have HG := Lib.hid (GrAt.read (st' := (sc, bc)) HG.out h9 hr1 hk1)
            obtain ⟨sp, scc, hsv, _⟩ := id hsl
            subst hsv
            clear hK K1 hr1 hk1 hrd0 hmt0 hq1 hsl
            have hB := HG.out.blk
            have c0 := hB.cell 2
            simp only [List.set_cons_succ, List.set_cons_zero, List.getElem?_cons_succ, List.getElem?_cons_zero] at c0
            clear hB
            try simp only [Act.put, List.setIfInBounds_toArray, List.set_cons_zero, List.set_cons_succ]
            refine takeL (i := 11) rfl (v := ?vz23) (by kernel_rfl) (by kernel_rfl) (by kernel_rfl) (fun _ _ _ h => h) (Or.inl ⟨by rfl, fun _w _hSw => ?hyz23⟩) (by assumption) ?restz23
            case hyz23 =>
              (try dsimp only at _hSw)
              go_simp
              try with_reducible rfl
            try simp only [Act.put, List.setIfInBounds_toArray, List.set_cons_zero, List.set_cons_succ]
            refine wpAnyH_ready (rs := [12]) (by kernel_rfl) (by simp) (readyL rfl (fun K1 hK => ?_) AllReadyH.nil)
            go_simp
            refine hK.out _ _ trivial (fun _ => ?_)
            have hbl := below1 v1 (.cells #[.int .i64 y0, .int .i64 y1, .int .i64 y2, .int .i64 y3, .int .i64 y4, .int .i64 y5, .string ot, .slice sp yes.length scc, .bool no] 109)
            have HG := Lib.hid (HG.out.below hbl)
            have HEL := Lib.hid (And.intro (HEL.out.1.below hbl) (fun q hq => (⟨(HEL.out.2 q hq).1, Nat.lt_of_lt_of_le (HEL.out.2 q hq).2.1 hbl.size, (HEL.out.2 q hq).2.2⟩ : _ ∧ _ ∧ _)))
            have HBX := Lib.hid (show BlkIs (v1.alloc (.cells #[.int .i64 y0, .int .i64 y1, .int .i64 y2, .int .i64 y3, .int .i64 y4, .int .i64 y5, .string ot, .slice sp yes.length scc, .bool no] 109)) v1.heap.size [.int .i64 y0, .int .i64 y1, .int .i64 y2, .int .i64 y3, .int .i64 y4, .int .i64 y5, .string ot, .slice sp yes.length scc, .bool no] 109 from BlkIs.alloc v1 _ 109)
            have hB := HG.out.blk
            have c0 := hB.cell 2
            simp only [List.set_cons_succ, List.set_cons_zero, List.getElem?_cons_succ, List.getElem?_cons_zero] at c0
            clear hB
            clear hK K1 hbl
            generalize v1.alloc (.cells #[.int .i64 y0, .int .i64 y1, .int .i64 y2, .int .i64 y3, .int .i64 y4, .int .i64 y5, .string ot, .slice sp yes.length scc, .bool no] 109) = v2 at HG HEL HBX c0 ⊢
            generalize v1.heap.size = bx at HBX ⊢
            try simp only [Act.put, List.setIfInBounds_toArray, List.set_cons_zero, List.set_cons_succ]
            refine wpAnyH_ready (rs := [13]) (by kernel_rfl) (by simp) (readyL rfl (fun K1 hK => ?_) AllReadyH.nil)
            rw [if_pos (by kernel_rfl)]
            refine wp_append_own2 _ (.tmp 36) (.tmp 44) 94 rfl wt.heap.size 109 i2 zP 9 _ Tryz.underlying94 HI2.out HZ2.out hz21 rfl hz2s (by decide) v k' (flat encPart ps) rfl HG.out.own ⟨bx, 0, none⟩ 1 1 [.int .i64 y0, .int .i64 y1, .int .i64 y2, .int .i64 y3, .int .i64 y4, .int .i64 y5, .string ot, .slice sp yes.length scc, .bool no] rfl rfl ?_ ?_ ?_ ?_ HG.out.z2 ?_
            · intro jj u hj
              rw [Go.WideShapes.add_plain, Nat.zero_add, HBX.out.cell jj]
              exact hj
            · simp [Value.oneCell']
            · unfold maxLen; omega
            · have := Nat.mul_le_mul (show k' + 1 ≤ 8 by omega) hz22; omega
            intro v' w4 hown3 hgrow hnb
            obtain ⟨pv', nv', cv', rfl⟩ : ∃ p n c, v' = Value.slice p n c := by
              rcases hown3.2 with ⟨e, _⟩ | ⟨g, cap, cur, e, _⟩
              · exact ⟨_, _, _, e⟩
              · exact ⟨_, _, _, e⟩
            refine hK.out _ _ trivial (fun _ => ?_)
            have HP := Lib.hid (GrAt.put HG.out h9 (⟨⟨y0, y1, y2, y3, y4, y5⟩, ot, .slice sp yes.length scc, yes, no⟩) HEL.out.1 HEL.out.2 hgrow (by simpa [flat, encT, encPart, encTry] using hown3) hnb)
            have hB4 := HG.out.blk.of (hgrow.block B HG.out.blk.lt (fun e => by have := owns_block HG.out.own B e.symm; have := HG.out.z1; omega))
            have cf := hB4.cell 2
            simp only [List.set_cons_succ, List.set_cons_zero, List.getElem?_cons_succ, List.getElem?_cons_zero] at cf
            have cfz := hB4.frozen 2
            clear hK K1 hown3 hgrow c0 hB4 hnb
            try simp only [Act.put, List.setIfInBounds_toArray, List.set_cons_zero, List.set_cons_succ]
            refine takeL (i := 14) rfl (v := ?vz24) (by kernel_rfl) (by kernel_rfl) (by kernel_rfl) (fun _ _ _ h => h) (Or.inl ⟨by rfl, fun _w _hSw => ?hyz24⟩) (by assumption) ?restz24
            case hyz24 =>
              (try dsimp only at _hSw)
              go_simp
              try with_reducible rfl
            try simp only [Act.put, List.setIfInBounds_toArray, List.set_cons_zero, List.set_cons_succ]
            refine takeL (i := 15) rfl (v := ?vz25) (by kernel_rfl) (by kernel_rfl) (by kernel_rfl) (fun _ _ _ h => h) (Or.inl ⟨by rfl, fun _w _hSw => ?hyz25⟩) (by assumption) ?restz25
            case hyz25 =>
              (try dsimp only at _hSw)
              go_simp
              try with_reducible rfl
            try simp only [Act.put, List.setIfInBounds_toArray, List.set_cons_zero, List.set_cons_succ]
            refine wpAnyH_ready (rs := [16]) (by kernel_rfl) (by simp) (readyL rfl (fun K1 hK => ?_) AllReadyH.nil)
            go_simp
            refine hK.out _ _ trivial (fun _ => ?_)
            clear hK K1 cf cfz
            try simp only [Act.put, List.setIfInBounds_toArray, List.set_cons_zero, List.set_cons_succ]
            refine wpAnyH_done (by kernel_rfl) ?_ _
            go_wp2
            go_roundw
            case rel =>
              have hR : rdPs (k' + 1) (s2, b2) = _ := HE.out
              exact ⟨k' + 1, by omega, by go_num, _, _, by rw [hR]; exact HP.out, by rw [hR]; exact HS.out.snoc rfl⟩
            case measure => simp [intOf] <;> omega
          ·
            go_simp
            have hrd0 := HG.out.rd
            have hmt0 := HG.out.met
            with_reducible refine (KA.out _ hrd0 hmt0).mono ?_
            rintro e v1 ⟨rfl, hr1, hk1⟩
            try dsimp only
            refine hK.out _ _ trivial (fun _ => ?_)
            have HG := Lib.hid (GrAt.read (st' := (sa, ba)) HG.out h9 hr1 hk1)
            clear hK K1 hr1 hk1 hrd0 hmt0
            have hB := HG.out.blk
            have c0 := hB.cell 2
            simp only [List.set_cons_succ, List.set_cons_zero, List.getElem?_cons_succ, List.getElem?_cons_zero] at c0
            clear hB
            try simp only [Act.put, List.setIfInBounds_toArray, List.set_cons_zero, List.set_cons_succ]
            refine wpAnyH_ready (rs := [4, 8]) (by kernel_rfl) (by simp) (readyL rfl (fun K1 hK => ?_) (readyL rfl (fun K1 hK => ?_) AllReadyH.nil))
            ·
              go_simp
              refine hK.out _ _ trivial (fun _ => ?_)
              clear hK K1
              try simp only [Act.put, List.setIfInBounds_toArray, List.set_cons_zero, List.set_cons_succ]
              refine wpAnyH_ready (rs := [8]) (by kernel_rfl) (by simp) (readyL rfl (fun K1 hK => ?_) AllReadyH.nil)
              go_simp
              have hrd0 := HG.out.rd
              have hmt0 := HG.out.met
              with_reducible refine (KB.out _ hrd0 hmt0).mono ?_
              rintro e v1 ⟨rfl, hr1, hk1⟩
              try dsimp only
              refine hK.out _ _ trivial (fun _ => ?_)
              have HG := Lib.hid (GrAt.read (st' := (sb, bb)) HG.out h9 hr1 hk1)
              clear hK K1 hr1 hk1 hrd0 hmt0
              have hB := HG.out.blk
              have c0 := hB.cell 2
              simp only [List.set_cons_succ, List.set_cons_zero, List.getElem?_cons_succ, List.getElem?_cons_zero] at c0
              clear hB
              try simp only [Act.put, List.setIfInBounds_toArray, List.set_cons_zero, List.set_cons_succ]
              refine wpAnyH_ready (rs := [10]) (by kernel_rfl) (by simp) (readyL rfl (fun K1 hK => ?_) AllReadyH.nil)
              go_simp
              have hrd0 := HG.out.rd
              have hmt0 := HG.out.met
              with_reducible refine (KC.out _ hrd0 hmt0).mono ?_
              rintro e v1 ⟨sv, rfl, hsl, hr1, hk1, hq1⟩
              try dsimp only
              try dsimp only at hsl hr1
              refine hK.out _ _ trivial (fun _ => ?_)
              have HEL := Lib.hid (show SlAt 1 encI v1 sv yes ∧ ∀ q, sv.ownBlock = some q → wt.heap.size ≤ q ∧ q < v1.heap.size ∧ v.ownBlock ≠ some q from ⟨hsl, fun q hq => ⟨by have := (hq1 q hq).1; have := HG.out.z2; omega, (hq1 q hq).2, fun e => by have := (hq1 q hq).1; have := owns_lt HG.out.own e; omega⟩⟩)
              have HG := Lib.hid (GrAt.read (st' := (sc, bc)) HG.out h9 hr1 hk1)
              obtain ⟨sp, scc, hsv, _⟩ := id hsl
              subst hsv
              clear hK K1 hr1 hk1 hrd0 hmt0 hq1 hsl
              have hB := HG.out.blk
              have c0 := hB.cell 2
              simp only [List.set_cons_succ, List.set_cons_zero, List.getElem?_cons_succ, List.getElem?_cons_zero] at c0
              clear hB
              try simp only [Act.put, List.setIfInBounds_toArray, List.set_cons_zero, List.set_cons_succ]
              refine takeL (i := 11) rfl (v := ?vz26) (by kernel_rfl) (by kernel_rfl) (by kernel_rfl) (fun _ _ _ h => h) (Or.inl ⟨by rfl, fun _w _hSw => ?hyz26⟩) (by assumption) ?restz26
              case hyz26 =>
                (try dsimp only at _hSw)
                go_simp
                try with_reducible rfl
              try simp only [Act.put, List.setIfInBounds_toArray, List.set_cons_zero, List.set_cons_succ]
              refine wpAnyH_ready (rs := [12]) (by kernel_rfl) (by simp) (readyL rfl (fun K1 hK => ?_) AllReadyH.nil)
              go_simp
              refine hK.out _ _ trivial (fun _ => ?_)
              have hbl := below1 v1 (.cells #[.int .i64 y0, .int .i64 y1, .int .i64 y2, .int .i64 y3, .int .i64 y4, .int .i64 y5, .string ot, .slice sp yes.length scc, .bool no] 109)
              have HG := Lib.hid (HG.out.below hbl)
              have HEL := Lib.hid (And.intro (HEL.out.1.below hbl) (fun q hq => (⟨(HEL.out.2 q hq).1, Nat.lt_of_lt_of_le (HEL.out.2 q hq).2.1 hbl.size, (HEL.out.2 q hq).2.2⟩ : _ ∧ _ ∧ _)))
              have HBX := Lib.hid (show BlkIs (v1.alloc (.cells #[.int .i64 y0, .int .i64 y1, .int .i64 y2, .int .i64 y3, .int .i64 y4, .int .i64 y5, .string ot, .slice sp yes.length scc, .bool no] 109)) v1.heap.size [.int .i64 y0, .int .i64 y1, .int .i64 y2, .int .i64 y3, .int .i64 y4, .int .i64 y5, .string ot, .slice sp yes.length scc, .bool no] 109 from BlkIs.alloc v1 _ 109)
              have hB := HG.out.blk
              have c0 := hB.cell 2
              simp only [List.set_cons_succ, List.set_cons_zero, List.getElem?_cons_succ, List.getElem?_cons_zero] at c0
              clear hB
              clear hK K1 hbl
              generalize v1.alloc (.cells #[.int .i64 y0, .int .i64 y1, .int .i64 y2, .int .i64 y3, .int .i64 y4, .int .i64 y5, .string ot, .slice sp yes.length scc, .bool no] 109) = v2 at HG HEL HBX c0 ⊢
              generalize v1.heap.size = bx at HBX ⊢
              try simp only [Act.put, List.setIfInBounds_toArray, List.set_cons_zero, List.set_cons_succ]
              refine wpAnyH_ready (rs := [13]) (by kernel_rfl) (by simp) (readyL rfl (fun K1 hK => ?_) AllReadyH.nil)
              rw [if_pos (by kernel_rfl)]
              refine wp_append_own2 _ (.tmp 36) (.tmp 44) 94 rfl wt.heap.size 109 i2 zP 9 _ Tryz.underlying94 HI2.out HZ2.out hz21 rfl hz2s (by decide) v k' (flat encPart ps) rfl HG.out.own ⟨bx, 0, none⟩ 1 1 [.int .i64 y0, .int .i64 y1, .int .i64 y2, .int .i64 y3, .int .i64 y4, .int .i64 y5, .string ot, .slice sp yes.length scc, .bool no] rfl rfl ?_ ?_ ?_ ?_ HG.out.z2 ?_
              · intro jj u hj
                rw [Go.WideShapes.add_plain, Nat.zero_add, HBX.out.cell jj]
                exact hj
              · simp [Value.oneCell']
              · unfold maxLen; omega
              · have := Nat.mul_le_mul (show k' + 1 ≤ 8 by omega) hz22; omega
              intro v' w4 hown3 hgrow hnb
              obtain ⟨pv', nv', cv', rfl⟩ : ∃ p n c, v' = Value.slice p n c := by
                rcases hown3.2 with ⟨e, _⟩ | ⟨g, cap, cur, e, _⟩
                · exact ⟨_, _, _, e⟩
                · exact ⟨_, _, _, e⟩
              refine hK.out _ _ trivial (fun _ => ?_)
              have HP := Lib.hid (GrAt.put HG.out h9 (⟨⟨y0, y1, y2, y3, y4, y5⟩, ot, .slice sp yes.length scc, yes, no⟩) HEL.out.1 HEL.out.2 hgrow (by simpa [flat, encT, encPart, encTry] using hown3) hnb)
              have hB4 := HG.out.blk.of (hgrow.block B HG.out.blk.lt (fun e => by have := owns_block HG.out.own B e.symm; have := HG.out.z1; omega))
              have cf := hB4.cell 2
              simp only [List.set_cons_succ, List.set_cons_zero, List.getElem?_cons_succ, List.getElem?_cons_zero] at cf
              have cfz := hB4.frozen 2
              clear hK K1 hown3 hgrow c0 hB4 hnb
              try simp only [Act.put, List.setIfInBounds_toArray, List.set_cons_zero, List.set_cons_succ]
              refine takeL (i := 14) rfl (v := ?vz27) (by kernel_rfl) (by kernel_rfl) (by kernel_rfl) (fun _ _ _ h => h) (Or.inl ⟨by rfl, fun _w _hSw => ?hyz27⟩) (by assumption) ?restz27
              case hyz27 =>
                (try dsimp only at _hSw)
                go_simp
                try with_reducible rfl
              try simp only [Act.put, List.setIfInBounds_toArray, List.set_cons_zero, List.set_cons_succ]
              refine takeL (i := 15) rfl (v := ?vz28) (by kernel_rfl) (by kernel_rfl) (by kernel_rfl) (fun _ _ _ h => h) (Or.inl ⟨by rfl, fun _w _hSw => ?hyz28⟩) (by assumption) ?restz28
              case hyz28 =>
                (try dsimp only at _hSw)
                go_simp
                try with_reducible rfl
              try simp only [Act.put, List.setIfInBounds_toArray, List.set_cons_zero, List.set_cons_succ]
              refine wpAnyH_ready (rs := [16]) (by kernel_rfl) (by simp) (readyL rfl (fun K1 hK => ?_) AllReadyH.nil)
              go_simp
              refine hK.out _ _ trivial (fun _ => ?_)
              clear hK K1 cf cfz
              try simp only [Act.put, List.setIfInBounds_toArray, List.set_cons_zero, List.set_cons_succ]
              refine wpAnyH_done (by kernel_rfl) ?_ _
              go_wp2
              go_roundw
              case rel =>
                have hR : rdPs (k' + 1) (s2, b2) = _ := HE.out
                exact ⟨k' + 1, by omega, by go_num, _, _, by rw [hR]; exact HP.out, by rw [hR]; exact HS.out.snoc rfl⟩
              case measure => simp [intOf] <;> omega
            ·
              go_simp
              have hrd0 := HG.out.rd
              have hmt0 := HG.out.met
              with_reducible refine (KB.out _ hrd0 hmt0).mono ?_
              rintro e v1 ⟨rfl, hr1, hk1⟩
              try dsimp only
              refine hK.out _ _ trivial (fun _ => ?_)
              have HG := Lib.hid (GrAt.read (st' := (sb, bb)) HG.out h9 hr1 hk1)
              clear hK K1 hr1 hk1 hrd0 hmt0
              have hB := HG.out.blk
              have c0 := hB.cell 2
              simp only [List.set_cons_succ, List.set_cons_zero, List.getElem?_cons_succ, List.getElem?_cons_zero] at c0
              clear hB
              try simp only [Act.put, List.setIfInBounds_toArray, List.set_cons_zero, List.set_cons_succ]
              refine wpAnyH_ready (rs := [4, 10]) (by kernel_rfl) (by simp) (readyL rfl (fun K1 hK => ?_) (readyL rfl (fun K1 hK => ?_) AllReadyH.nil))
              ·
                go_simp
                refine hK.out _ _ trivial (fun _ => ?_)
                clear hK K1
                try simp only [Act.put, List.setIfInBounds_toArray, List.set_cons_zero, List.set_cons_succ]
                refine wpAnyH_ready (rs := [10]) (by kernel_rfl) (by simp) (readyL rfl (fun K1 hK => ?_) AllReadyH.nil)
                go_simp
                have hrd0 := HG.out.rd
                have hmt0 := HG.out.met
                with_reducible refine (KC.out _ hrd0 hmt0).mono ?_
                rintro e v1 ⟨sv, rfl, hsl, hr1, hk1, hq1⟩
                try dsimp only
                try dsimp only at hsl hr1
                refine hK.out _ _ trivial (fun _ => ?_)
                have HEL := Lib.hid (show SlAt 1 encI v1 sv yes ∧ ∀ q, sv.ownBlock = some q → wt.heap.size ≤ q ∧ q < v1.heap.size ∧ v.ownBlock ≠ some q from ⟨hsl, fun q hq => ⟨by have := (hq1 q hq).1; have := HG.out.z2; omega, (hq1 q hq).2, fun e => by have := (hq1 q hq).1; have := owns_lt HG.out.own e; omega⟩⟩)
                have HG := Lib.hid (GrAt.read (st' := (sc, bc)) HG.out h9 hr1 hk1)
                obtain ⟨sp, scc, hsv, _⟩ := id hsl
                subst hsv
                clear hK K1 hr1 hk1 hrd0 hmt0 hq1 hsl
                have hB := HG.out.blk
                have c0 := hB.cell 2
                simp only [List.set_cons_succ, List.set_cons_zero, List.getElem?_cons_succ, List.getElem?_cons_zero] at c0
                clear hB
                try simp only [Act.put, List.setIfInBounds_toArray, List.set_cons_zero, List.set_cons_succ]
                refine takeL (i := 11) rfl (v := ?vz29) (by kernel_rfl) (by kernel_rfl) (by kernel_rfl) (fun _ _ _ h => h) (Or.inl ⟨by rfl, fun _w _hSw => ?hyz29⟩) (by assumption) ?restz29
                case hyz29 =>
                  (try dsimp only at _hSw)
                  go_simp
                  try with_reducible rfl
                try simp only [Act.put, List.setIfInBounds_toArray, List.set_cons_zero, List.set_cons_succ]
                refine wpAnyH_ready (rs := [12]) (by kernel_rfl) (by simp) (readyL rfl (fun K1 hK => ?_) AllReadyH.nil)
                go_simp
                refine hK.out _ _ trivial (fun _ => ?_)
                have hbl := below1 v1 (.cells #[.int .i64 y0, .int .i64 y1, .int .i64 y2, .int .i64 y3, .int .i64 y4, .int .i64 y5, .string ot, .slice sp yes.length scc, .bool no] 109)
                have HG := Lib.hid (HG.out.below hbl)
                have HEL := Lib.hid (And.intro (HEL.out.1.below hbl) (fun q hq => (⟨(HEL.out.2 q hq).1, Nat.lt_of_lt_of_le (HEL.out.2 q hq).2.1 hbl.size, (HEL.out.2 q hq).2.2⟩ : _ ∧ _ ∧ _)))
                have HBX := Lib.hid (show BlkIs (v1.alloc (.cells #[.int .i64 y0, .int .i64 y1, .int .i64 y2, .int .i64 y3, .int .i64 y4, .int .i64 y5, .string ot, .slice sp yes.length scc, .bool no] 109)) v1.heap.size [.int .i64 y0, .int .i64 y1, .int .i64 y2, .int .i64 y3, .int .i64 y4, .int .i64 y5, .string ot, .slice sp yes.length scc, .bool no] 109 from BlkIs.alloc v1 _ 109)
                have hB := HG.out.blk
                have c0 := hB.cell 2
                simp only [List.set_cons_succ, List.set_cons_zero, List.getElem?_cons_succ, List.getElem?_cons_zero] at c0
                clear hB
                clear hK K1 hbl
                generalize v1.alloc (.cells #[.int .i64 y0, .int .i64 y1, .int .i64 y2, .int .i64 y3, .int .i64 y4, .int .i64 y5, .string ot, .slice sp yes.length scc, .bool no] 109) = v2 at HG HEL HBX c0 ⊢
                generalize v1.heap.size = bx at HBX ⊢
                try simp only [Act.put, List.setIfInBounds_toArray, List.set_cons_zero, List.set_cons_succ]
                refine wpAnyH_ready (rs := [13]) (by kernel_rfl) (by simp) (readyL rfl (fun K1 hK => ?_) AllReadyH.nil)
                rw [if_pos (by kernel_rfl)]
                refine wp_append_own2 _ (.tmp 36) (.tmp 44) 94 rfl wt.heap.size 109 i2 zP 9 _ Tryz.underlying94 HI2.out HZ2.out hz21 rfl hz2s (by decide) v k' (flat encPart ps) rfl HG.out.own ⟨bx, 0, none⟩ 1 1 [.int .i64 y0, .int .i64 y1, .int .i64 y2, .int .i64 y3, .int .i64 y4, .int .i64 y5, .string ot, .slice sp yes.length scc, .bool no] rfl rfl ?_ ?_ ?_ ?_ HG.out.z2 ?_
                · intro jj u hj
                  rw [Go.WideShapes.add_plain, Nat.zero_add, HBX.out.cell jj]
                  exact hj
                · simp [Value.oneCell']
                · unfold maxLen; omega
                · have := Nat.mul_le_mul (show k' + 1 ≤ 8 by omega) hz22; omega
                intro v' w4 hown3 hgrow hnb
                obtain ⟨pv', nv', cv', rfl⟩ : ∃ p n c, v' = Value.slice p n c := by
                  rcases hown3.2 with ⟨e, _⟩ | ⟨g, cap, cur, e, _⟩
                  · exact ⟨_, _, _, e⟩
                  · exact ⟨_, _, _, e⟩
                refine hK.out _ _ trivial (fun _ => ?_)
                have HP := Lib.hid (GrAt.put HG.out h9 (⟨⟨y0, y1, y2, y3, y4, y5⟩, ot, .slice sp yes.length scc, yes, no⟩) HEL.out.1 HEL.out.2 hgrow (by simpa [flat, encT, encPart, encTry] using hown3) hnb)
                have hB4 := HG.out.blk.of (hgrow.block B HG.out.blk.lt (fun e => by have := owns_block HG.out.own B e.symm; have := HG.out.z1; omega))
                have cf := hB4.cell 2
                simp only [List.set_cons_succ, List.set_cons_zero, List.getElem?_cons_succ, List.getElem?_cons_zero] at cf
                have cfz := hB4.frozen 2
                clear hK K1 hown3 hgrow c0 hB4 hnb
                try simp only [Act.put, List.setIfInBounds_toArray, List.set_cons_zero, List.set_cons_succ]
                refine takeL (i := 14) rfl (v := ?vz30) (by kernel_rfl) (by kernel_rfl) (by kernel_rfl) (fun _ _ _ h => h) (Or.inl ⟨by rfl, fun _w _hSw => ?hyz30⟩) (by assumption) ?restz30
                case hyz30 =>
                  (try dsimp only at _hSw)
                  go_simp
                  try with_reducible rfl
                try simp only [Act.put, List.setIfInBounds_toArray, List.set_cons_zero, List.set_cons_succ]
                refine takeL (i := 15) rfl (v := ?vz31) (by kernel_rfl) (by kernel_rfl) (by kernel_rfl) (fun _ _ _ h => h) (Or.inl ⟨by rfl, fun _w _hSw => ?hyz31⟩) (by assumption) ?restz31
                case hyz31 =>
                  (try dsimp only at _hSw)
                  go_simp
                  try with_reducible rfl
                try simp only [Act.put, List.setIfInBounds_toArray, List.set_cons_zero, List.set_cons_succ]
                refine wpAnyH_ready (rs := [16]) (by kernel_rfl) (by simp) (readyL rfl (fun K1 hK => ?_) AllReadyH.nil)
                go_simp
                refine hK.out _ _ trivial (fun _ => ?_)
                clear hK K1 cf cfz
                try simp only [Act.put, List.setIfInBounds_toArray, List.set_cons_zero, List.set_cons_succ]
                refine wpAnyH_done (by kernel_rfl) ?_ _
                go_wp2
                go_roundw
                case rel =>
                  have hR : rdPs (k' + 1) (s2, b2) = _ := HE.out
                  exact ⟨k' + 1, by omega, by go_num, _, _, by rw [hR]; exact HP.out, by rw [hR]; exact HS.out.snoc rfl⟩
                case measure => simp [intOf] <;> omega
              ·
                go_simp
                have hrd0 := HG.out.rd
                have hmt0 := HG.out.met
                with_reducible refine (KC.out _ hrd0 hmt0).mono ?_
                rintro e v1 ⟨sv, rfl, hsl, hr1, hk1, hq1⟩
                try dsimp only
                try dsimp only at hsl hr1
                refine hK.out _ _ trivial (fun _ => ?_)
                have HEL := Lib.hid (show SlAt 1 encI v1 sv yes ∧ ∀ q, sv.ownBlock = some q → wt.heap.size ≤ q ∧ q < v1.heap.size ∧ v.ownBlock ≠ some q from ⟨hsl, fun q hq => ⟨by have := (hq1 q hq).1; have := HG.out.z2; omega, (hq1 q hq).2, fun e => by have := (hq1 q hq).1; have := owns_lt HG.out.own e; omega⟩⟩)
                have HG := Lib.hid (GrAt.read (st' := (sc, bc)) HG.out h9 hr1 hk1)
                obtain ⟨sp, scc, hsv, _⟩ := id hsl
                subst hsv
                clear hK K1 hr1 hk1 hrd0 hmt0 hq1 hsl
                have hB := HG.out.blk
                have c0 := hB.cell 2
                simp only [List.set_cons_succ, List.set_cons_zero, List.getElem?_cons_succ, List.getElem?_cons_zero] at c0
                clear hB
                try simp only [Act.put, List.setIfInBounds_toArray, List.set_cons_zero, List.set_cons_succ]
                refine takeL (i := 11) rfl (v := ?vz32) (by kernel_rfl) (by kernel_rfl) (by kernel_rfl) (fun _ _ _ h => h) (Or.inl ⟨by rfl, fun _w _hSw => ?hyz32⟩) (by assumption) ?restz32
                case hyz32 =>
                  (try dsimp only at _hSw)
                  go_simp
                  try with_reducible rfl
                try simp only [Act.put, List.setIfInBounds_toArray, List.set_cons_zero, List.set_cons_succ]
                refine wpAnyH_ready (rs := [4, 12]) (by kernel_rfl) (by simp) (readyL rfl (fun K1 hK => ?_) (readyL rfl (fun K1 hK => ?_) AllReadyH.nil))
                ·
                  go_simp
                  refine hK.out _ _ trivial (fun _ => ?_)
                  clear hK K1
                  try simp only [Act.put, List.setIfInBounds_toArray, List.set_cons_zero, List.set_cons_succ]
                  refine wpAnyH_ready (rs := [12]) (by kernel_rfl) (by simp) (readyL rfl (fun K1 hK => ?_) AllReadyH.nil)
                  go_simp
                  refine hK.out _ _ trivial (fun _ => ?_)
                  have hbl := below1 v1 (.cells #[.int .i64 y0, .int .i64 y1, .int .i64 y2, .int .i64 y3, .int .i64 y4, .int .i64 y5, .string ot, .slice sp yes.length scc, .bool no] 109)
                  have HG := Lib.hid (HG.out.below hbl)
                  have HEL := Lib.hid (And.intro (HEL.out.1.below hbl) (fun q hq => (⟨(HEL.out.2 q hq).1, Nat.lt_of_lt_of_le (HEL.out.2 q hq).2.1 hbl.size, (HEL.out.2 q hq).2.2⟩ : _ ∧ _ ∧ _)))
                  have HBX := Lib.hid (show BlkIs (v1.alloc (.cells #[.int .i64 y0, .int .i64 y1, .int .i64 y2, .int .i64 y3, .int .i64 y4, .int .i64 y5, .string ot, .slice sp yes.length scc, .bool no] 109)) v1.heap.size [.int .i64 y0, .int .i64 y1, .int .i64 y2, .int .i64 y3, .int .i64 y4, .int .i64 y5, .string ot, .slice sp yes.length scc, .bool no] 109 from BlkIs.alloc v1 _ 109)
                  have hB := HG.out.blk
                  have c0 := hB.cell 2
                  simp only [List.set_cons_succ, List.set_cons_zero, List.getElem?_cons_succ, List.getElem?_cons_zero] at c0
                  clear hB
                  clear hK K1 hbl
                  generalize v1.alloc (.cells #[.int .i64 y0, .int .i64 y1, .int .i64 y2, .int .i64 y3, .int .i64 y4, .int .i64 y5, .string ot, .slice sp yes.length scc, .bool no] 109) = v2 at HG HEL HBX c0 ⊢
                  generalize v1.heap.size = bx at HBX ⊢
                  try simp only [Act.put, List.setIfInBounds_toArray, List.set_cons_zero, List.set_cons_succ]
                  refine wpAnyH_ready (rs := [13]) (by kernel_rfl) (by simp) (readyL rfl (fun K1 hK => ?_) AllReadyH.nil)
                  rw [if_pos (by kernel_rfl)]
                  refine wp_append_own2 _ (.tmp 36) (.tmp 44) 94 rfl wt.heap.size 109 i2 zP 9 _ Tryz.underlying94 HI2.out HZ2.out hz21 rfl hz2s (by decide) v k' (flat encPart ps) rfl HG.out.own ⟨bx, 0, none⟩ 1 1 [.int .i64 y0, .int .i64 y1, .int .i64 y2, .int .i64 y3, .int .i64 y4, .int .i64 y5, .string ot, .slice sp yes.length scc, .bool no] rfl rfl ?_ ?_ ?_ ?_ HG.out.z2 ?_
                  · intro jj u hj
                    rw [Go.WideShapes.add_plain, Nat.zero_add, HBX.out.cell jj]
                    exact hj
                  · simp [Value.oneCell']
                  · unfold maxLen; omega
                  · have := Nat.mul_le_mul (show k' + 1 ≤ 8 by omega) hz22; omega
                  intro v' w4 hown3 hgrow hnb
                  obtain ⟨pv', nv', cv', rfl⟩ : ∃ p n c, v' = Value.slice p n c := by
                    rcases hown3.2 with ⟨e, _⟩ | ⟨g, cap, cur, e, _⟩
                    · exact ⟨_, _, _, e⟩
                    · exact ⟨_, _, _, e⟩
                  refine hK.out _ _ trivial (fun _ => ?_)
                  have HP := Lib.hid (GrAt.put HG.out h9 (⟨⟨y0, y1, y2, y3, y4, y5⟩, ot, .slice sp yes.length scc, yes, no⟩) HEL.out.1 HEL.out.2 hgrow (by simpa [flat, encT, encPart, encTry] using hown3) hnb)
                  have hB4 := HG.out.blk.of (hgrow.block B HG.out.blk.lt (fun e => by have := owns_block HG.out.own B e.symm; have := HG.out.z1; omega))
                  have cf := hB4.cell 2
                  simp only [List.set_cons_succ, List.set_cons_zero, List.getElem?_cons_succ, List.getElem?_cons_zero] at cf
                  have cfz := hB4.frozen 2
                  clear hK K1 hown3 hgrow c0 hB4 hnb
                  try simp only [Act.put, List.setIfInBounds_toArray, List.set_cons_zero, List.set_cons_succ]
                  refine takeL (i := 14) rfl (v := ?vz33) (by kernel_rfl) (by kernel_rfl) (by kernel_rfl) (fun _ _ _ h => h) (Or.inl ⟨by rfl, fun _w _hSw => ?hyz33⟩) (by assumption) ?restz33
                  case hyz33 =>
                    (try dsimp only at _hSw)
                    go_simp
                    try with_reducible rfl
                  try simp only [Act.put, List.setIfInBounds_toArray, List.set_cons_zero, List.set_cons_succ]
                  refine takeL (i := 15) rfl (v := ?vz34) (by kernel_rfl) (by kernel_rfl) (by kernel_rfl) (fun _ _ _ h => h) (Or.inl ⟨by rfl, fun _w _hSw => ?hyz34⟩) (by assumption) ?restz34
                  case hyz34 =>
                    (try dsimp only at _hSw)
                    go_simp
                    try with_reducible rfl
                  try simp only [Act.put, List.setIfInBounds_toArray, List.set_cons_zero, List.set_cons_succ]
                  refine wpAnyH_ready (rs := [16]) (by kernel_rfl) (by simp) (readyL rfl (fun K1 hK => ?_) AllReadyH.nil)
                  go_simp
                  refine hK.out _ _ trivial (fun _ => ?_)
                  clear hK K1 cf cfz
                  try simp only [Act.put, List.setIfInBounds_toArray, List.set_cons_zero, List.set_cons_succ]
                  refine wpAnyH_done (by kernel_rfl) ?_ _
                  go_wp2
                  go_roundw
                  case rel =>
                    have hR : rdPs (k' + 1) (s2, b2) = _ := HE.out
                    exact ⟨k' + 1, by omega, by go_num, _, _, by rw [hR]; exact HP.out, by rw [hR]; exact HS.out.snoc rfl⟩
                  case measure => simp [intOf] <;> omega
                ·
                  go_simp
                  refine hK.out _ _ trivial (fun _ => ?_)
                  have hbl := below1 v1 (.cells #[.int .i64 y0, .int .i64 y1, .int .i64 y2, .int .i64 y3, .int .i64 y4, .int .i64 y5, .string ot, .slice sp yes.length scc, .bool no] 109)
                  have HG := Lib.hid (HG.out.below hbl)
                  have HEL := Lib.hid (And.intro (HEL.out.1.below hbl) (fun q hq => (⟨(HEL.out.2 q hq).1, Nat.lt_of_lt_of_le (HEL.out.2 q hq).2.1 hbl.size, (HEL.out.2 q hq).2.2⟩ : _ ∧ _ ∧ _)))
                  have HBX := Lib.hid (show BlkIs (v1.alloc (.cells #[.int .i64 y0, .int .i64 y1, .int .i64 y2, .int .i64 y3, .int .i64 y4, .int .i64 y5, .string ot, .slice sp yes.length scc, .bool no] 109)) v1.heap.size [.int .i64 y0, .int .i64 y1, .int .i64 y2, .int .i64 y3, .int .i64 y4, .int .i64 y5, .string ot, .slice sp yes.length scc, .bool no] 109 from BlkIs.alloc v1 _ 109)
                  have hB := HG.out.blk
                  have c0 := hB.cell 2
                  simp only [List.set_cons_succ, List.set_cons_zero, List.getElem?_cons_succ, List.getElem?_cons_zero] at c0
                  clear hB
                  clear hK K1 hbl
                  generalize v1.alloc (.cells #[.int .i64 y0, .int .i64 y1, .int .i64 y2, .int .i64 y3, .int .i64 y4, .int .i64 y5, .string ot, .slice sp yes.length scc, .bool no] 109) = v2 at HG HEL HBX c0 ⊢
                  generalize v1.heap.size = bx at HBX ⊢
                  try simp only [Act.put, List.setIfInBounds_toArray, List.set_cons_zero, List.set_cons_succ]
                  refine wpAnyH_ready (rs := [4]) (by kernel_rfl) (by simp) (readyL rfl (fun K1 hK => ?_) AllReadyH.nil)
                  go_simp
                  refine hK.out _ _ trivial (fun _ => ?_)
                  clear hK K1
                  try simp only [Act.put, List.setIfInBounds_toArray, List.set_cons_zero, List.set_cons_succ]
                  refine wpAnyH_ready (rs := [13]) (by kernel_rfl) (by simp) (readyL rfl (fun K1 hK => ?_) AllReadyH.nil)
                  rw [if_pos (by kernel_rfl)]
                  refine wp_append_own2 _ (.tmp 36) (.tmp 44) 94 rfl wt.heap.size 109 i2 zP 9 _ Tryz.underlying94 HI2.out HZ2.out hz21 rfl hz2s (by decide) v k' (flat encPart ps) rfl HG.out.own ⟨bx, 0, none⟩ 1 1 [.int .i64 y0, .int .i64 y1, .int .i64 y2, .int .i64 y3, .int .i64 y4, .int .i64 y5, .string ot, .slice sp yes.length scc, .bool no] rfl rfl ?_ ?_ ?_ ?_ HG.out.z2 ?_
                  · intro jj u hj
                    rw [Go.WideShapes.add_plain, Nat.zero_add, HBX.out.cell jj]
                    exact hj
                  · simp [Value.oneCell']
                  · unfold maxLen; omega
                  · have := Nat.mul_le_mul (show k' + 1 ≤ 8 by omega) hz22; omega
                  intro v' w4 hown3 hgrow hnb
                  obtain ⟨pv', nv', cv', rfl⟩ : ∃ p n c, v' = Value.slice p n c := by
                    rcases hown3.2 with ⟨e, _⟩ | ⟨g, cap, cur, e, _⟩
                    · exact ⟨_, _, _, e⟩
                    · exact ⟨_, _, _, e⟩
                  refine hK.out _ _ trivial (fun _ => ?_)
                  have HP := Lib.hid (GrAt.put HG.out h9 (⟨⟨y0, y1, y2, y3, y4, y5⟩, ot, .slice sp yes.length scc, yes, no⟩) HEL.out.1 HEL.out.2 hgrow (by simpa [flat, encT, encPart, encTry] using hown3) hnb)
                  have hB4 := HG.out.blk.of (hgrow.block B HG.out.blk.lt (fun e => by have := owns_block HG.out.own B e.symm; have := HG.out.z1; omega))
                  have cf := hB4.cell 2
                  simp only [List.set_cons_succ, List.set_cons_zero, List.getElem?_cons_succ, List.getElem?_cons_zero] at cf
                  have cfz := hB4.frozen 2
                  clear hK K1 hown3 hgrow c0 hB4 hnb
                  try simp only [Act.put, List.setIfInBounds_toArray, List.set_cons_zero, List.set_cons_succ]
                  refine takeL (i := 14) rfl (v := ?vz35) (by kernel_rfl) (by kernel_rfl) (by kernel_rfl) (fun _ _ _ h => h) (Or.inl ⟨by rfl, fun _w _hSw => ?hyz35⟩) (by assumption) ?restz35
                  case hyz35 =>
                    (try dsimp only at _hSw)
                    go_simp
                    try with_reducible rfl
                  try simp only [Act.put, List.setIfInBounds_toArray, List.set_cons_zero, List.set_cons_succ]
                  refine takeL (i := 15) rfl (v := ?vz36) (by kernel_rfl) (by kernel_rfl) (by kernel_rfl) (fun _ _ _ h => h) (Or.inl ⟨by rfl, fun _w _hSw => ?hyz36⟩) (by assumption) ?restz36
                  case hyz36 =>
                    (try dsimp only at _hSw)
                    go_simp
                    try with_reducible rfl
                  try simp only [Act.put, List.setIfInBounds_toArray, List.set_cons_zero, List.set_cons_succ]
                  refine wpAnyH_ready (rs := [16]) (by kernel_rfl) (by simp) (readyL rfl (fun K1 hK => ?_) AllReadyH.nil)
                  go_simp
                  refine hK.out _ _ trivial (fun _ => ?_)
                  clear hK K1 cf cfz
                  try simp only [Act.put, List.setIfInBounds_toArray, List.set_cons_zero, List.set_cons_succ]
                  refine wpAnyH_done (by kernel_rfl) ?_ _
                  go_wp2
                  go_roundw
                  case rel =>
                    have hR : rdPs (k' + 1) (s2, b2) = _ := HE.out
                    exact ⟨k' + 1, by omega, by go_num, _, _, by rw [hR]; exact HP.out, by rw [hR]; exact HS.out.snoc rfl⟩
                  case measure => simp [intOf] <;> omega
        · obtain rfl : k' = k := by omega
          have hll2 := rdPs_len k' (s2, b2)
          have hle2 := rdPs_le k' (s2, b2)
          obtain ⟨RP, hRP⟩ : ∃ R, R = rdPs k' (s2, b2) := ⟨_, rfl⟩
          rw [← hRP] at HG HS hll2 hle2
          have hX : rdRun (s, bad) = (⟨nm, tl, RP.1, (rdStep RP.2.1 RP.2.2 0 1).1 == 1⟩, (rdStep RP.2.1 RP.2.2 0 1).2) := by
            unfold rdRun
            simp only [← HX0.out, ← HC.out, Int.toNat_natCast, ← HRT.out, ← hRP, ← HNM.out]
          obtain ⟨pl, s3, b3⟩ := RP
          dsimp only at HG HS hll2 hle2 hX
          have hKF := fun W (h : RdAt b s3 b3 W) (hM : Met W) => readerInt b s3 b3 0 1 W h hM h9 (by omega)
          unfold IntPost at hKF
          obtain ⟨f, hf⟩ : ∃ f, f = rdStep s3 b3 0 1 := ⟨_, rfl⟩
          have hfl := rdStep_le s3 b3 0 1
          rw [← hf] at hKF hX hfl
          obtain ⟨x, sf, bf⟩ := f
          dsimp only at hKF hX hfl
          have KF := Lib.hid hKF
          have HXX := Lib.hid hX
          have KN := Lib.hid (fun W (h : RdAt b sf bf W) (hM : Met W) => show Calls Tryz.prog 46 #[.pointer (some ⟨b, 0, none⟩), .int .i64 1, .int .i64 0] W fun e w' => e = .returned (.int .i64 0) ∧ RdAt b sf true w' ∧ KeptB b W w' by
            have := readerInt b sf bf 1 0 W h hM h9 (by omega)
            unfold IntPost at this
            rw [rdStep_never] at this
            exact this)
          clear hKF hX hf hRP
          have hul : us.length = k' := HS1.out.1.trans hll1
          have hpl : ps.length = k' := HS.out.1.trans hll2
          have HG := Lib.hid (show GrAt 109 9 encPart PartV.vs PartV.yes w wt b B 2 wt.heap.size k' [.string nm, .slice pv nv cv, .slice none 0 0, .bool false] 96 v (s3, b3) ps wr from HG.out)
          have hrd := HG.out.rd
          have hmt := HG.out.met
          go_wp2_with fail
          refine (KF.out _ hrd hmt).mono ?_
          rintro e w5 ⟨rfl, hr5, hk5⟩
          have HG := Lib.hid (GrAt.read (st' := (sf, bf)) HG.out h9 hr5 hk5)
          clear hr5 hk5 hrd hmt
          have hB := HG.out.blk
          have c1 := hB.cell 3
          have f1 := hB.frozen 3
          simp only [List.set_cons_succ, List.set_cons_zero, List.getElem?_cons_succ, List.getElem?_cons_zero] at c1
          have HB6 := Lib.hid (show BlkIs (w5.setCell ⟨B, 3, none⟩ (.bool (x == 1))) B [.string nm, .slice pv nv cv, v, .bool (x == 1)] 96 from hB.set (o := 3) (.bool (x == 1)))
          have HT6 := Lib.hid (show TasksAt (w5.setCell ⟨B, 3, none⟩ (.bool (x == 1))) (.slice pv nv cv) us from by
            have hT := read_tasks HG1.out HG.out hul
            have hk2 : KeptG B w5 (w5.setCell ⟨B, 3, none⟩ (.bool (x == 1))) := KeptG.set B 3 w5 (.bool (x == 1))
            have z1 := HG1.out.z1
            exact ⟨hT.1.keptG hk2 (fun e => by have := owns_block HG1.out.own _ e; omega), fun j hj => (hT.2 j hj).keptG hk2 (fun e => by have := ((HG1.out.inn j hj).2 _ e).1; omega)⟩)
          have HR6 := Lib.hid (HG.out.rd.setO (show b ≠ B by omega) 3 (.bool (x == 1)))
          have HK6 := Lib.hid (HG.out.kept.setO bz hBw 3 (.bool (x == 1)))
          have HM6 := Lib.hid (show Met (w5.setCell ⟨B, 3, none⟩ (.bool (x == 1))) from HG.out.met.belowB ((Below.refl b w5).setCell (p := ⟨B, 3, none⟩) (by show b ≤ B; omega) _) h9)
          have HRUN := Lib.hid (fun (hk0 : 0 < k') => read_run HG1.out HG.out hul hpl hk0 (x == 1))
          clear hB HG
          go_upto_region 12 with fail
          clear c1 f1
          generalize w5.setCell ⟨B, 3, none⟩ (.bool (x == 1)) = W6 at HB6 HT6 HR6 HK6 HM6 HRUN ⊢
          generalize (x == 1) = ov at HB6 HRUN HXX ⊢
          have hrd := HR6.out
          go_wp2_with fail
          refine (readerOk b sf bf _ hrd).mono ?_
          rintro e w7 ⟨rfl, rfl⟩
          clear hrd
          cases bf with
          | true =>
            have hrd := HR6.out
            have hmt := HM6.out
            go_wp2_with fail
            refine (KN.out _ hrd hmt).mono ?_
            rintro e w8 ⟨rfl, hr8, hk8⟩
            have HK8 := Lib.hid (HK6.out.trans hk8)
            have HR8 := Lib.hid hr8
            clear hr8 hk8 hrd hmt
            go_wp2
            go_ret
            unfold ReadPost
            rw [HXX.out]
            exact .inr ⟨rfl, rfl, HR8.out, HK8.out⟩
          | false =>
            have hB := HB6.out
            have KM := Lib.hid (runMay nm (.slice pv nv cv) us B W6 ⟨hB.lt, hB.cell 0, hB.cell 1, HT6.out⟩ (HOKT.out us HS1.out) (by have := smallM; omega))
            have hme := HS1.out.may nm
            clear hB
            go_wp2_with fail
            refine KM.out.mono ?_
            rintro e w8 ⟨rfl, hb8⟩
            have HR8 := Lib.hid (HR6.out.below hb8)
            have HM8 := Lib.hid (HM6.out.below hb8)
            have HK8 := Lib.hid (HK6.out.trans (KeptB.of (Nat.lt_of_lt_of_le bz HK6.out.2.2) hb8))
            have HB8 := Lib.hid hb8
            clear hb8 KM
            obtain ⟨q, hq⟩ : ∃ q, q = mayP nm us := ⟨_, rfl⟩
            have HQ := Lib.hid hq
            rw [← hq] at hme ⊢
            have HME := Lib.hid hme
            clear hq hme
            cases q with
            | false =>
              have hrd := HR8.out
              have hmt := HM8.out
              go_wp2_with fail
              refine (KN.out _ hrd hmt).mono ?_
              rintro e w9 ⟨rfl, hr9, hk9⟩
              have HK9 := Lib.hid (HK8.out.trans hk9)
              have HR9 := Lib.hid hr9
              clear hr9 hk9 hrd hmt
              go_wp2
              go_ret
              unfold ReadPost
              rw [HXX.out]
              refine .inr ⟨?_, rfl, HR9.out, HK9.out⟩
              unfold okRd
              simp only
              rw [← HME.out]
              rfl
            | true =>
              go_wp2
              go_ret
              unfold ReadPost
              rw [HXX.out]
              have hp : pipeB nm us = true := by
                have h1 := HQ.out
                unfold mayP at h1
                cases h2 : pipeB nm us with
                | true => rfl
                | false => rw [h2] at h1; cases h1
              have hpos := (pipeB_len hp).1
              obtain ⟨g, tb, tc, c, J, ⟨z3, z4⟩, hrun⟩ := HRUN.out (by omega)
              refine .inl ⟨?_, B, g, tb, tc, c, J, _, rfl, hrun.below HB8.out, ⟨rfl, HS1.out, HS.out, rfl⟩, hBw, z3, HR8.out, HK8.out⟩
              unfold okRd
              simp only
              rw [← HME.out]
              rfl
end Go.Proofs.YtbbcicengfmhiaaGreatDoor

namespace Go.Proofs.YtbbcicengfmhiaaGreatDoor
set_option maxRecDepth 100000
open Go.RowKit

/-- behind w0 a run lies, at b -/
structure Rn (w0 : World) (b : Nat) (R : RunM) (w : World) : Prop where
  at_ : ∃ g tb tf tc c J, RAt b g (tvOf tb tf tc R) c J R w ∧ w0.heap.size ≤ g
  lo : w0.heap.size ≤ b
  bel : Below w0.heap.size w0 w
section
variable {w0 w w' : World} {b : Nat} {R : RunM}
theorem Rn.below (h : Rn w0 b R w) (hb : Below w.heap.size w w') : Rn w0 b R w' := by
  obtain ⟨⟨g, tb, tf, tc, c, J, h1, h2⟩, h3, h4⟩ := h
  exact ⟨⟨g, tb, tf, tc, c, J, h1.below hb, h2⟩, h3, h4.trans (hb.mono h4.size)⟩
theorem Rn.mono {wa : World} (h : Rn w0 b R w) (hb : Below wa.heap.size wa w0) : Rn wa b R w := by
  obtain ⟨⟨g, tb, tf, tc, c, J, h1, h2⟩, h3, h4⟩ := h
  have := hb.size
  exact ⟨⟨g, tb, tf, tc, c, J, h1, by omega⟩, by omega, hb.trans (h4.mono this)⟩
theorem Rn.met (h : Rn w0 b R w) (hM : Met w0) : Met w := hM.below h.bel
theorem Rn.turn {R' : RunM} {g tb tf tc c : Nat} {J : List Value} (h : Rn w0 b R w) (hg : w0.heap.size ≤ g) (h1 : RAt b g (tvOf tb tf tc R) c J R' w') (hk : KeptB g w w') (ht : R'.ts = R.ts) : Rn w0 b R' w' := by
  refine ⟨⟨g, tb, tf, tc, c, J, ?_, hg⟩, h.lo, h.bel.trans (hk.1 _ hg)⟩
  have : tvOf tb tf tc R' = tvOf tb tf tc R := by unfold tvOf; rw [ht]
  rw [this]
  exact h1
theorem takeM_ts (R : RunM) (i now wk n : Int) : (takeM R i now wk n).1.ts = R.ts := by
  unfold takeM
  split
  · split <;> rfl
  · rfl
theorem missM_ts (R : RunM) (i now : Int) : (missM R i now).1.ts = R.ts := by
  unfold missM
  split <;> rfl
theorem completeM_ts (R : RunM) (i now : Int) (o : ByteArray) : (completeM R i now o).1.ts = R.ts := by
  unfold completeM
  split
  · split <;> rfl
  · rfl
theorem letM_ts (R : RunM) (i now : Int) : (letM R i now).1.ts = R.ts := by
  unfold letM
  split <;> rfl
theorem cancelM_ts (R : RunM) : (cancelM R).1.ts = R.ts := by
  unfold cancelM
  split <;> rfl
theorem voteR_ts (R : RunM) (i who : Int) (yes : Bool) (vs : Value) : (voteR R i who yes vs).ts = R.ts := by
  unfold voteR
  cases yes <;> rfl
theorem rnStatus (h : Rn w0 b R w) (hn : R.ps.length ≤ 1000) : Calls Tryz.prog 26 #[.pointer (some ⟨b, 0, none⟩)] w fun e w' => e = .returned (.int .i64 (statusM R)) ∧ Rn w0 b R w' ∧ Below w.heap.size w w' := by
  obtain ⟨g, tb, tf, tc, c, J, h1, h2⟩ := h.at_
  refine (runStatus b g _ c J R w h1 hn).mono ?_
  rintro e w' ⟨rfl, hb⟩
  exact ⟨rfl, h.below hb, hb⟩
theorem rnBest (h : Rn w0 b R w) (hn : R.ps.length ≤ 1000) (now : Int) : Calls Tryz.prog 27 #[.pointer (some ⟨b, 0, none⟩), .int .i64 now] w fun e w' => e = .returned (.tuple #[.int .i64 (bestM R now).1, .int .i64 (bestM R now).2, .bool (decide (0 ≤ (bestM R now).1))]) ∧ Rn w0 b R w' ∧ Below w.heap.size w w' := by
  obtain ⟨g, tb, tf, tc, c, J, h1, h2⟩ := h.at_
  refine (runBest b g tb tf tc c J R now w h1 hn).mono ?_
  rintro e w' ⟨rfl, hb⟩
  exact ⟨rfl, h.below hb, hb⟩
theorem rnFin (h : Rn w0 b R w) (hn : R.ps.length ≤ 1000) (now wk n : Int) : Calls Tryz.prog 28 #[.pointer (some ⟨b, 0, none⟩), .int .i64 now, .int .i64 wk, .int .i64 n] w fun e w' => e = .returned (.tuple #[.int .i64 (hitI (hitM R now wk n)), .bool (hitM R now wk n).isSome]) ∧ Rn w0 b R w' ∧ Below w.heap.size w w' := by
  obtain ⟨g, tb, tf, tc, c, J, h1, h2⟩ := h.at_
  refine (runFin b g tb tf tc c J R now wk n w h1 hn).mono ?_
  rintro e w' ⟨rfl, hb⟩
  exact ⟨rfl, h.below hb, hb⟩
theorem rnState (h : Rn w0 b R w) (k : Nat) (hk : k < R.ps.length) : Calls Tryz.prog 34 #[.pointer (some ⟨b, 0, none⟩), .int .i64 (k : Int)] w fun e w' => e = .returned (.int .i64 R.ps[k]!.try_.st) ∧ Rn w0 b R w' ∧ Below w.heap.size w w' := by
  obtain ⟨g, tb, tf, tc, c, J, h1, h2⟩ := h.at_
  refine (runState b g _ c J R k w h1 hk).mono ?_
  rintro e w' ⟨rfl, rfl⟩
  exact ⟨rfl, h, Below.refl _ _⟩
theorem rnTake (h : Rn w0 b R w) (hn : R.ps.length ≤ 1000) (i now wk n : Int) (hnow : smallI now) (hti : ∀ j, j < R.ts.length → smallI R.ts[j]!.time) :
    Calls Tryz.prog 22 #[.pointer (some ⟨b, 0, none⟩), .int .i64 i, .int .i64 now, .int .i64 wk, .int .i64 n] w fun e w' => e = .returned (.int .i64 (takeM R i now wk n).2) ∧ Rn w0 b (takeM R i now wk n).1 w' := by
  obtain ⟨g, tb, tf, tc, c, J, h1, h2⟩ := h.at_
  refine (runTake b g tb tf tc c J R i now wk n w h1 hn hnow hti).mono ?_
  rintro e w' ⟨rfl, h3, h4⟩
  exact ⟨rfl, h.turn h2 h3 h4 (takeM_ts R i now wk n)⟩
theorem rnMiss (h : Rn w0 b R w) (hn : R.ps.length ≤ 1000) (i now : Int) (hmi : ∀ j, j < R.ps.length → smallI R.ps[j]!.try_.missed) (hnow : smallI now) :
    Calls Tryz.prog 24 #[.pointer (some ⟨b, 0, none⟩), .int .i64 i, .int .i64 now] w fun e w' => e = .returned (.int .i64 (missM R i now).2) ∧ Rn w0 b (missM R i now).1 w' := by
  obtain ⟨g, tb, tf, tc, c, J, h1, h2⟩ := h.at_
  refine (runMiss b g tb tf tc c J R i now w h1 hn hmi hnow).mono ?_
  rintro e w' ⟨rfl, h3, h4⟩
  exact ⟨rfl, h.turn h2 h3 h4 (missM_ts R i now)⟩
theorem rnComplete (h : Rn w0 b R w) (hn : R.ps.length ≤ 1000) (i now : Int) (o : ByteArray) (haf : AftIn R.ts) (hla : ∀ j, j < R.ts.length → R.ts[j]!.after.length ≤ maxLen) (hos : o.size ≤ maxLen) :
    Calls Tryz.prog 23 #[.pointer (some ⟨b, 0, none⟩), .int .i64 i, .int .i64 now, .string o] w fun e w' => e = .returned (.int .i64 (completeM R i now o).2) ∧ Rn w0 b (completeM R i now o).1 w' := by
  obtain ⟨g, tb, tf, tc, c, J, h1, h2⟩ := h.at_
  refine (runComplete b g tb tf tc c J R i now o w h1 hn haf hla hos).mono ?_
  rintro e w' ⟨rfl, h3, h4⟩
  exact ⟨rfl, h.turn h2 h3 h4 (completeM_ts R i now o)⟩
theorem rnVoteY (h : Rn w0 b R w) (hn : R.ps.length ≤ 1000) (i who : Int) (yes : Bool) (hy : ∀ j, j < R.ps.length → R.ps[j]!.yes.length ≤ 900) (he : voteE R i who yes = 0) :
    Calls Tryz.prog 29 #[.pointer (some ⟨b, 0, none⟩), .int .i64 i, .int .i64 who, .bool yes] w fun e w' => ∃ vs, e = .returned (.tuple #[.bool (voteMay R i who yes), .int .i64 0]) ∧ Rn w0 b (voteR R i who yes vs) w' := by
  obtain ⟨g, tb, tf, tc, c, J, h1, h2⟩ := h.at_
  refine (runVote b g tb tf tc c J R i who yes w h1 hn hy).mono ?_
  intro e w' hp
  unfold VtPost at hp
  rw [if_pos he] at hp
  obtain ⟨vs, rfl, h3, h4⟩ := hp
  exact ⟨vs, rfl, h.turn h2 h3 h4 (voteR_ts R i who yes vs)⟩
theorem rnLet (h : Rn w0 b R w) (hn : R.ps.length ≤ 1000) (i now : Int) (haf : AftIn R.ts) (hla : ∀ j, j < R.ts.length → R.ts[j]!.after.length ≤ maxLen) (hga : ∀ j, j < R.ts.length → 0 < R.ts[j]!.need → 0 < R.ts[j]!.after.length) :
    Calls Tryz.prog 30 #[.pointer (some ⟨b, 0, none⟩), .int .i64 i, .int .i64 now] w fun e w' => e = .returned (.tuple #[.string (letM R i now).2.1, .int .i64 (letM R i now).2.2]) ∧ Rn w0 b (letM R i now).1 w' := by
  obtain ⟨g, tb, tf, tc, c, J, h1, h2⟩ := h.at_
  refine (runLet b g tb tf tc c J R i now w h1 hn haf hla hga).mono ?_
  rintro e w' ⟨rfl, h3, h4⟩
  exact ⟨rfl, h.turn h2 h3 h4 (letM_ts R i now)⟩
theorem rnCancel (h : Rn w0 b R w) (hn : R.ps.length ≤ 1000) :
    Calls Tryz.prog 32 #[.pointer (some ⟨b, 0, none⟩)] w fun e w' => e = .returned (.int .i64 (cancelM R).2) ∧ Rn w0 b (cancelM R).1 w' := by
  obtain ⟨g, tb, tf, tc, c, J, h1, h2⟩ := h.at_
  refine (runCancel b g _ c J R w h1 hn).mono ?_
  rintro e w' ⟨rfl, h3, h4⟩
  refine ⟨rfl, ⟨⟨g, tb, tf, tc, c, J, ?_, h2⟩, h.lo, h.bel.trans (h4.1 _ h.lo)⟩⟩
  have : tvOf tb tf tc (cancelM R).1 = tvOf tb tf tc R := by unfold tvOf; rw [cancelM_ts]
  rw [this]
  exact h3
theorem rnInput (h : Rn w0 b R w) (hM : Met w0) (hn : R.ps.length ≤ 1000) (k : Nat) (hk : k < R.ps.length) (haf : AftIn R.ts) (hla : R.ts[k]!.after.length ≤ 1000) (hpos : 0 < R.ts[k]!.after.length) (ho : ∀ a : Nat, a < R.ps.length → R.ps[a]!.out.size ≤ 1000) :
    Calls Tryz.prog 33 #[.pointer (some ⟨b, 0, none⟩), .int .i64 (k : Int)] w fun e w' => e = .returned (.string ⟨(inpL R.ps R.ts[k]!.after).toArray⟩) ∧ Rn w0 b R w' ∧ Below w.heap.size w w' := by
  obtain ⟨g, tb, tf, tc, c, J, h1, h2⟩ := h.at_
  refine (runInput b g tb tf tc c J R k w h1 hn hk haf hla hpos ho (h.met hM)).mono ?_
  rintro e w' ⟨rfl, hb⟩
  exact ⟨rfl, h.below hb, hb⟩
theorem rnText (h : Rn w0 b R w) (hM : Met w0) (hok : okW R) (hlen : (runW R).length + 100000 ≤ 140737488355328) :
    Calls Tryz.prog 15 #[.pointer (some ⟨b, 0, none⟩)] w fun e w' => e = .returned (.string ⟨(runW R).toArray⟩) ∧ Below w.heap.size w w' := by
  obtain ⟨g, tb, tf, tc, c, J, h1, h2⟩ := h.at_
  exact textC b g tb tf tc c J R w h1 (h.met hM) hok hlen
theorem rnNew (nm : ByteArray) (v : Value) (ts : List TaskV) (now : Int) (hT : TasksAt w v ts) (hok : okTs ts) (hnm : nm.size ≤ maxLen) :
    Calls Tryz.prog 20 #[.agg #[.string nm, v], .int .i64 now] w fun e w' => Below w.heap.size w w' ∧ ((mayP nm ts = false ∧ e = .returned (.pointer none)) ∨ (mayP nm ts = true ∧ ∃ b us, e = .returned (.pointer (some ⟨b, 0, none⟩)) ∧ SameT us ts ∧ Rn w b (advanceM (newR nm us) now) w' ∧ ∀ j, j < ts.length → ∀ m, us[j]!.sl.ownBlock = some m → m < w'.heap.size)) := by
  refine (runNew nm v ts now w hT hok hnm).mono ?_
  rintro e w' ⟨hb, hp⟩
  refine ⟨hb, ?_⟩
  by_cases hm : mayP nm ts = false
  · rw [if_pos hm] at hp
    exact .inl ⟨hm, hp⟩
  · rw [if_neg hm] at hp
    obtain ⟨b, g, q, cap, us, rfl, h1, h2, h3, h4, h5, h6⟩ := hp
    exact .inr ⟨by simpa using hm, b, us, rfl, h2, ⟨⟨g, q, 0, cap, ts.length, [], h1, h4⟩, h3, hb⟩, h6⟩
end
theorem rnRead (s : ByteArray) (w : World) (hM : Met w) (hs : s.data.toList.length < 4294967281) :
    Calls Tryz.prog 12 #[.string s] w fun e w' => ∃ br, e = .returned (.pointer (some ⟨br, 0, none⟩)) ∧ Below w.heap.size w w' ∧ Calls Tryz.prog 13 #[.pointer (some ⟨br, 0, none⟩)] w' fun e w2 => Below w.heap.size w w2 ∧ RdAt br (rdRun (s.data.toList, false)).2.1 (!(okRd (rdRun (s.data.toList, false)))) w2 ∧
      ((okRd (rdRun (s.data.toList, false)) = true ∧ ∃ b R, e = .returned (.pointer (some ⟨b, 0, none⟩)) ∧ SameR R (rdRun (s.data.toList, false)).1 ∧ Rn w b R w2) ∨ (okRd (rdRun (s.data.toList, false)) = false ∧ e = .returned (.pointer none))) := by
  refine (readerNew s w).mono ?_
  rintro e w1 ⟨rfl, hr, hb⟩
  refine ⟨w.heap.size, rfl, hb, ?_⟩
  have h9 := hM.size
  refine (runRead w.heap.size s.data.toList false w1 hr (hM.below hb) h9 hs).mono ?_
  rintro e w2 (⟨h0, B, g, tb, tc, c, J, R, rfl, h1, h2, h3, h4, h5, h6⟩ | ⟨h0, rfl, h5, h6⟩)
  · have hbel : Below w.heap.size w w2 := hb.trans (h6.1 _ (Nat.le_refl _))
    have hz := hb.size
    rw [h0]
    exact ⟨hbel, h5, .inl ⟨rfl, B, R, rfl, h2, ⟨⟨g, tb, 0, tc, c, J, h1, by omega⟩, by omega, hbel⟩⟩⟩
  · rw [h0]
    exact ⟨hb.trans (h6.1 _ (Nat.le_refl _)), h5, .inr ⟨rfl, rfl⟩⟩
end Go.Proofs.YtbbcicengfmhiaaGreatDoor

namespace Go.Proofs.YtbbcicengfmhiaaGreatDoor
set_option maxRecDepth 100000
open Go.RowKit

def tsA (s0 s1 s2 : Value) : List TaskV := [⟨⟨#[97]⟩, s0, [], 0, 5, 0, 0, 0⟩, ⟨⟨#[98]⟩, s1, [0], 0, 5, 0, 0, 0⟩, ⟨⟨#[103]⟩, s2, [0], 0, 5, 1, 0, 0⟩]
def RA (s0 s1 s2 : Value) (ps : List PartV) : RunM := ⟨⟨#[112]⟩, tsA s0 s1 s2, ps, false⟩
def pN (t : TryV) (o : ByteArray) : PartV := ⟨t, o, .slice none 0 0, [], false⟩
def psA : List PartV := [pN ⟨1, 3, 0, 0, 0, 0⟩ ⟨#[]⟩, pN zT ⟨#[]⟩, pN zT ⟨#[]⟩]
def psB : List PartV := [pN ⟨2, 0, 0, 1, 1, 8⟩ ⟨#[]⟩, pN zT ⟨#[]⟩, pN zT ⟨#[]⟩]
def psC : List PartV := [pN ⟨3, 0, 0, 0, 0, 0⟩ ⟨#[120]⟩, pN ⟨1, 5, 0, 0, 0, 0⟩ ⟨#[]⟩, pN ⟨1, 5, 0, 0, 0, 0⟩ ⟨#[]⟩]
def psD (vs : Value) : List PartV := [pN ⟨3, 0, 0, 0, 0, 0⟩ ⟨#[120]⟩, pN ⟨1, 5, 0, 0, 0, 0⟩ ⟨#[]⟩, ⟨⟨1, 5, 0, 0, 0, 0⟩, ⟨#[]⟩, vs, [4], false⟩]
def psE : List PartV := [pN ⟨3, 0, 0, 0, 0, 0⟩ ⟨#[120]⟩, pN ⟨1, 5, 0, 0, 0, 0⟩ ⟨#[]⟩, pN ⟨3, 0, 0, 0, 0, 0⟩ ⟨#[120]⟩]
theorem awMay (s0 s1 s2 : Value) : mayP ⟨#[112]⟩ (tsA s0 s1 s2) = true := by kernel_rfl
theorem awNone : mayP ⟨#[]⟩ [] = false := by kernel_rfl
theorem aw1 (s0 s1 s2 : Value) : advanceM (newR ⟨#[112]⟩ (tsA s0 s1 s2)) 3 = RA s0 s1 s2 psA := by kernel_rfl
theorem aw2 (s0 s1 s2 : Value) : bestM (RA s0 s1 s2 psA) 3 = (0, 3) := by kernel_rfl
theorem aw3 (s0 s1 s2 : Value) : takeM (RA s0 s1 s2 psA) 0 3 1 1 = (RA s0 s1 s2 psB, 0) := by kernel_rfl
theorem aw4 (s0 s1 s2 : Value) : hitM (RA s0 s1 s2 psB) 4 1 1 = some 0 := by kernel_rfl
theorem aw5 (s0 s1 s2 : Value) : completeM (RA s0 s1 s2 psB) 0 5 ⟨#[120]⟩ = (RA s0 s1 s2 psC, 0) := by kernel_rfl
theorem aw6 (s0 s1 s2 : Value) : bestM (RA s0 s1 s2 psC) 5 = (1, 5) := by kernel_rfl
theorem aw7 (s0 s1 s2 : Value) : voteE (RA s0 s1 s2 psC) 2 4 true = 0 := by kernel_rfl
theorem aw8 (s0 s1 s2 : Value) : voteMay (RA s0 s1 s2 psC) 2 4 true = true := by kernel_rfl
theorem aw9 (s0 s1 s2 vs : Value) : voteR (RA s0 s1 s2 psC) 2 4 true vs = RA s0 s1 s2 (psD vs) := by kernel_rfl
theorem awA (s0 s1 s2 vs : Value) : letM (RA s0 s1 s2 (psD vs)) 2 6 = (RA s0 s1 s2 psE, ⟨#[120]⟩, 0) := by kernel_rfl
theorem awB (s0 s1 s2 : Value) : statusM (RA s0 s1 s2 psE) = 0 := by kernel_rfl
theorem awC (s0 s1 s2 : Value) : cancelM (RA s0 s1 s2 psE) = ({ RA s0 s1 s2 psE with over := true }, 0) := by kernel_rfl
theorem awD (s0 s1 s2 : Value) : statusM { RA s0 s1 s2 psE with over := true } = 3 := by kernel_rfl
theorem awE (s0 s1 s2 : Value) : takeM { RA s0 s1 s2 psE with over := true } 1 9 1 2 = ({ RA s0 s1 s2 psE with over := true }, 12) := by kernel_rfl
theorem awF (s0 s1 s2 : Value) : inpL (RA s0 s1 s2 psE).ps (RA s0 s1 s2 psE).ts[1]!.after = [49, 44, 120] := by kernel_rfl
theorem awG (s0 s1 s2 : Value) : runW (RA s0 s1 s2 psE) = runW (RA (.slice none 0 0) (.slice none 0 0) (.slice none 0 0) psE) := by kernel_rfl
theorem awH : rdRun (runW (RA (.slice none 0 0) (.slice none 0 0) (.slice none 0 0) psE), false) = (RA (.slice none 0 0) (.slice none 0 0) (.slice none 0 0) psE, ([], false)) := by kernel_rfl
theorem awI : (runW (RA (.slice none 0 0) (.slice none 0 0) (.slice none 0 0) psE)).length < 1000 := by decide +kernel
end Go.Proofs.YtbbcicengfmhiaaGreatDoor

namespace Go.Proofs.YtbbcicengfmhiaaGreatDoor
set_option maxRecDepth 100000
open Go.RowKit

theorem tsA_len (s0 s1 s2 : Value) : (tsA s0 s1 s2).length = 3 := rfl
theorem awAf (s0 s1 s2 : Value) : AftIn (tsA s0 s1 s2) := by
  intro j hj k hk
  match j, hj with
  | 0, _ => cases hk
  | 1, _ => match k, hk with | 0, _ => exact ⟨of_decide_eq_true (by kernel_rfl), of_decide_eq_true (by kernel_rfl)⟩
  | 2, _ => match k, hk with | 0, _ => exact ⟨of_decide_eq_true (by kernel_rfl), of_decide_eq_true (by kernel_rfl)⟩
theorem awLa (s0 s1 s2 : Value) : ∀ j, j < (tsA s0 s1 s2).length → (tsA s0 s1 s2)[j]!.after.length ≤ maxLen := by
  intro j hj
  have h8 := smallM
  match j, hj with
  | 0, _ => show 0 ≤ maxLen; omega
  | 1, _ => show 1 ≤ maxLen; omega
  | 2, _ => show 1 ≤ maxLen; omega
theorem awTi (s0 s1 s2 : Value) : ∀ j, j < (tsA s0 s1 s2).length → smallI (tsA s0 s1 s2)[j]!.time := by
  intro j hj
  match j, hj with
  | 0, _ => exact ⟨of_decide_eq_true (by kernel_rfl), of_decide_eq_true (by kernel_rfl)⟩
  | 1, _ => exact ⟨of_decide_eq_true (by kernel_rfl), of_decide_eq_true (by kernel_rfl)⟩
  | 2, _ => exact ⟨of_decide_eq_true (by kernel_rfl), of_decide_eq_true (by kernel_rfl)⟩
theorem awGa (s0 s1 s2 : Value) : ∀ j, j < (tsA s0 s1 s2).length → 0 < (tsA s0 s1 s2)[j]!.need → 0 < (tsA s0 s1 s2)[j]!.after.length := by
  intro j hj
  match j, hj with
  | 0, _ => intro h; cases h
  | 1, _ => intro _; show 0 < 1; exact of_decide_eq_true (by kernel_rfl)
  | 2, _ => intro _; show 0 < 1; exact of_decide_eq_true (by kernel_rfl)
theorem awOk (s0 s1 s2 : Value) : okTs (tsA s0 s1 s2) := by
  have h8 := smallM
  refine ⟨by rw [tsA_len]; omega, fun j hj => ?_⟩
  match j, hj with
  | 0, _ => exact ⟨of_decide_eq_true (by kernel_rfl), by show 1 ≤ maxLen; omega, by show 0 ≤ maxLen; omega, fun k hk => by cases hk⟩
  | 1, _ => exact ⟨of_decide_eq_true (by kernel_rfl), by show 1 ≤ maxLen; omega, by show 1 ≤ maxLen; omega, fun k hk => by match k, hk with | 0, _ => exact ⟨of_decide_eq_true (by kernel_rfl), of_decide_eq_true (by kernel_rfl)⟩⟩
  | 2, _ => exact ⟨of_decide_eq_true (by kernel_rfl), by show 1 ≤ maxLen; omega, by show 1 ≤ maxLen; omega, fun k hk => by match k, hk with | 0, _ => exact ⟨of_decide_eq_true (by kernel_rfl), of_decide_eq_true (by kernel_rfl)⟩⟩
theorem awSame {us : List TaskV} {s0 s1 s2 : Value} (h : SameT us (tsA s0 s1 s2)) : ∃ r0 r1 r2, us = tsA r0 r1 r2 := by
  obtain ⟨hl, hat⟩ := h
  match us, hl with
  | [u0, u1, u2], _ =>
    have h0 := hat 0 (of_decide_eq_true (by kernel_rfl))
    have h1 := hat 1 (of_decide_eq_true (by kernel_rfl))
    have h2 := hat 2 (of_decide_eq_true (by kernel_rfl))
    refine ⟨u0.sl, u1.sl, u2.sl, ?_⟩
    show [u0, u1, u2] = _
    rw [show u0 = { (tsA s0 s1 s2)[0]! with sl := u0.sl } from h0, show u1 = { (tsA s0 s1 s2)[1]! with sl := u1.sl } from h1, show u2 = { (tsA s0 s1 s2)[2]! with sl := u2.sl } from h2]
    rfl
theorem awW (s0 s1 s2 : Value) : okW (RA s0 s1 s2 psE) := by
  have sm : ∀ x : Int, 0 ≤ x → x ≤ 100 → okI x := fun x a b => ⟨by omega, by omega⟩
  refine ⟨by show 3 ≤ 1000; exact of_decide_eq_true (by kernel_rfl), fun j hj => ?_, fun j hj => ?_⟩
  · match j, hj with
    | 0, _ => exact ⟨of_decide_eq_true (by kernel_rfl), fun k hk => (by cases hk), sm _ (of_decide_eq_true (by kernel_rfl)) (of_decide_eq_true (by kernel_rfl)), sm _ (of_decide_eq_true (by kernel_rfl)) (of_decide_eq_true (by kernel_rfl)), sm _ (of_decide_eq_true (by kernel_rfl)) (of_decide_eq_true (by kernel_rfl)), sm _ (of_decide_eq_true (by kernel_rfl)) (of_decide_eq_true (by kernel_rfl)), of_decide_eq_true (by kernel_rfl)⟩
    | 1, _ => exact ⟨of_decide_eq_true (by kernel_rfl), fun k hk => (by match k, hk with | 0, _ => exact sm _ (of_decide_eq_true (by kernel_rfl)) (of_decide_eq_true (by kernel_rfl))), sm _ (of_decide_eq_true (by kernel_rfl)) (of_decide_eq_true (by kernel_rfl)), sm _ (of_decide_eq_true (by kernel_rfl)) (of_decide_eq_true (by kernel_rfl)), sm _ (of_decide_eq_true (by kernel_rfl)) (of_decide_eq_true (by kernel_rfl)), sm _ (of_decide_eq_true (by kernel_rfl)) (of_decide_eq_true (by kernel_rfl)), of_decide_eq_true (by kernel_rfl)⟩
    | 2, _ => exact ⟨of_decide_eq_true (by kernel_rfl), fun k hk => (by match k, hk with | 0, _ => exact sm _ (of_decide_eq_true (by kernel_rfl)) (of_decide_eq_true (by kernel_rfl))), sm _ (of_decide_eq_true (by kernel_rfl)) (of_decide_eq_true (by kernel_rfl)), sm _ (of_decide_eq_true (by kernel_rfl)) (of_decide_eq_true (by kernel_rfl)), sm _ (of_decide_eq_true (by kernel_rfl)) (of_decide_eq_true (by kernel_rfl)), sm _ (of_decide_eq_true (by kernel_rfl)) (of_decide_eq_true (by kernel_rfl)), of_decide_eq_true (by kernel_rfl)⟩
  · match j, hj with
    | 0, _ => exact ⟨⟨sm _ (of_decide_eq_true (by kernel_rfl)) (of_decide_eq_true (by kernel_rfl)), sm _ (of_decide_eq_true (by kernel_rfl)) (of_decide_eq_true (by kernel_rfl)), sm _ (of_decide_eq_true (by kernel_rfl)) (of_decide_eq_true (by kernel_rfl)), sm _ (of_decide_eq_true (by kernel_rfl)) (of_decide_eq_true (by kernel_rfl)), sm _ (of_decide_eq_true (by kernel_rfl)) (of_decide_eq_true (by kernel_rfl)), sm _ (of_decide_eq_true (by kernel_rfl)) (of_decide_eq_true (by kernel_rfl))⟩, of_decide_eq_true (by kernel_rfl), fun k hk => by cases hk⟩
    | 1, _ => exact ⟨⟨sm _ (of_decide_eq_true (by kernel_rfl)) (of_decide_eq_true (by kernel_rfl)), sm _ (of_decide_eq_true (by kernel_rfl)) (of_decide_eq_true (by kernel_rfl)), sm _ (of_decide_eq_true (by kernel_rfl)) (of_decide_eq_true (by kernel_rfl)), sm _ (of_decide_eq_true (by kernel_rfl)) (of_decide_eq_true (by kernel_rfl)), sm _ (of_decide_eq_true (by kernel_rfl)) (of_decide_eq_true (by kernel_rfl)), sm _ (of_decide_eq_true (by kernel_rfl)) (of_decide_eq_true (by kernel_rfl))⟩, of_decide_eq_true (by kernel_rfl), fun k hk => by cases hk⟩
    | 2, _ => exact ⟨⟨sm _ (of_decide_eq_true (by kernel_rfl)) (of_decide_eq_true (by kernel_rfl)), sm _ (of_decide_eq_true (by kernel_rfl)) (of_decide_eq_true (by kernel_rfl)), sm _ (of_decide_eq_true (by kernel_rfl)) (of_decide_eq_true (by kernel_rfl)), sm _ (of_decide_eq_true (by kernel_rfl)) (of_decide_eq_true (by kernel_rfl)), sm _ (of_decide_eq_true (by kernel_rfl)) (of_decide_eq_true (by kernel_rfl)), sm _ (of_decide_eq_true (by kernel_rfl)) (of_decide_eq_true (by kernel_rfl))⟩, of_decide_eq_true (by kernel_rfl), fun k hk => by cases hk⟩
theorem hitS : hitI (some 0) = 0 := rfl
def PipeP (w : World) (e : Ending) (w' : World) : Prop := ∃ p c s0 s1 s2, e = .returned (.agg #[.string ⟨#[112]⟩, .slice p 3 c]) ∧ TasksAt w' (.slice p 3 c) (tsA s0 s1 s2) ∧ Below w.heap.size w w'
theorem SlAt.of_row {α : Type} [Inhabited α] {k : Nat} {enc : α → List Value} (hk : ∀ x, (enc x).length = k) {xs : List α} {J : List Value} {w : World} {g T c : Nat} (h : BlkIs w g (flat enc xs ++ J) T) (hc : xs.length ≤ c) : SlAt k enc w (.slice (some ⟨g, 0, none⟩) xs.length c) xs :=
  ⟨some ⟨g, 0, none⟩, c, rfl, ⟨hc, fun e => nomatch e⟩, fun _ => ⟨g, 0, rfl, h.lt, fun j hj i u hu => by
    rw [Nat.zero_add]
    exact flat_at hk h hj (by have := (List.getElem?_eq_some_iff.1 hu).1; rw [hk] at this; exact this) hu⟩⟩
set_option maxHeartbeats 2000000 in
theorem pipeC (w : World) : Calls Tryz.prog 44 #[] w (PipeP w) := by
  have z1 : (w.alloc (.cells #[.string ⟨#[112]⟩, .slice (some ⟨w.heap.size + 1 + 1 + 1, 0, none⟩) 3 3] 46)).heap.size = w.heap.size + 1 := Array.size_push _
  have z2 : ((w.alloc (.cells #[.string ⟨#[112]⟩, .slice (some ⟨w.heap.size + 1 + 1 + 1, 0, none⟩) 3 3] 46)).alloc (.cells #[.int .i64 0] 3)).heap.size = w.heap.size + 1 + 1 := (show ((w.alloc (.cells #[.string ⟨#[112]⟩, .slice (some ⟨w.heap.size + 1 + 1 + 1, 0, none⟩) 3 3] 46)).alloc (.cells #[.int .i64 0] 3)).heap.size = (w.alloc (.cells #[.string ⟨#[112]⟩, .slice (some ⟨w.heap.size + 1 + 1 + 1, 0, none⟩) 3 3] 46)).heap.size + 1 from Array.size_push _).trans (congrArg (· + 1) z1)
  have z3 : (((w.alloc (.cells #[.string ⟨#[112]⟩, .slice (some ⟨w.heap.size + 1 + 1 + 1, 0, none⟩) 3 3] 46)).alloc (.cells #[.int .i64 0] 3)).alloc (.cells #[.int .i64 0] 3)).heap.size = w.heap.size + 1 + 1 + 1 := (show (((w.alloc (.cells #[.string ⟨#[112]⟩, .slice (some ⟨w.heap.size + 1 + 1 + 1, 0, none⟩) 3 3] 46)).alloc (.cells #[.int .i64 0] 3)).alloc (.cells #[.int .i64 0] 3)).heap.size = ((w.alloc (.cells #[.string ⟨#[112]⟩, .slice (some ⟨w.heap.size + 1 + 1 + 1, 0, none⟩) 3 3] 46)).alloc (.cells #[.int .i64 0] 3)).heap.size + 1 from Array.size_push _).trans (congrArg (· + 1) z2)
  have b1 := below1 w (.cells #[.string ⟨#[112]⟩, .slice (some ⟨w.heap.size + 1 + 1 + 1, 0, none⟩) 3 3] 46)
  have b2 := below1 (w.alloc (.cells #[.string ⟨#[112]⟩, .slice (some ⟨w.heap.size + 1 + 1 + 1, 0, none⟩) 3 3] 46)) (.cells #[.int .i64 0] 3)
  have b3 := below1 ((w.alloc (.cells #[.string ⟨#[112]⟩, .slice (some ⟨w.heap.size + 1 + 1 + 1, 0, none⟩) 3 3] 46)).alloc (.cells #[.int .i64 0] 3)) (.cells #[.int .i64 0] 3)
  have b4 := below1 (((w.alloc (.cells #[.string ⟨#[112]⟩, .slice (some ⟨w.heap.size + 1 + 1 + 1, 0, none⟩) 3 3] 46)).alloc (.cells #[.int .i64 0] 3)).alloc (.cells #[.int .i64 0] 3)) (.cells #[.string ⟨#[97]⟩, .slice none 0 0, .int .i64 0, .int .i64 5, .int .i64 0, .int .i64 0, .int .u16 0, .string ⟨#[98]⟩, .slice (some ⟨w.heap.size + 1, 0, none⟩) 1 1, .int .i64 0, .int .i64 5, .int .i64 0, .int .i64 0, .int .u16 0, .string ⟨#[103]⟩, .slice (some ⟨w.heap.size + 1 + 1, 0, none⟩) 1 1, .int .i64 0, .int .i64 5, .int .i64 1, .int .i64 0, .int .u16 0] 100)
  have k1 := BlkIs.alloc (w.alloc (.cells #[.string ⟨#[112]⟩, .slice (some ⟨w.heap.size + 1 + 1 + 1, 0, none⟩) 3 3] 46)) [.int .i64 0] 3
  have k2 := BlkIs.alloc ((w.alloc (.cells #[.string ⟨#[112]⟩, .slice (some ⟨w.heap.size + 1 + 1 + 1, 0, none⟩) 3 3] 46)).alloc (.cells #[.int .i64 0] 3)) [.int .i64 0] 3
  have k3 := BlkIs.alloc (((w.alloc (.cells #[.string ⟨#[112]⟩, .slice (some ⟨w.heap.size + 1 + 1 + 1, 0, none⟩) 3 3] 46)).alloc (.cells #[.int .i64 0] 3)).alloc (.cells #[.int .i64 0] 3)) [.string ⟨#[97]⟩, .slice none 0 0, .int .i64 0, .int .i64 5, .int .i64 0, .int .i64 0, .int .u16 0, .string ⟨#[98]⟩, .slice (some ⟨w.heap.size + 1, 0, none⟩) 1 1, .int .i64 0, .int .i64 5, .int .i64 0, .int .i64 0, .int .u16 0, .string ⟨#[103]⟩, .slice (some ⟨w.heap.size + 1 + 1, 0, none⟩) 1 1, .int .i64 0, .int .i64 5, .int .i64 1, .int .i64 0, .int .u16 0] 100
  rw [z1] at k1
  rw [z2] at k2
  rw [z3] at k3
  have k1 := (BlkIs.below k1 b3).below b4
  have k2 := BlkIs.below k2 b4
  have HT := Lib.hid (show TasksAt ((((w.alloc (.cells #[.string ⟨#[112]⟩, .slice (some ⟨w.heap.size + 1 + 1 + 1, 0, none⟩) 3 3] 46)).alloc (.cells #[.int .i64 0] 3)).alloc (.cells #[.int .i64 0] 3)).alloc (.cells #[.string ⟨#[97]⟩, .slice none 0 0, .int .i64 0, .int .i64 5, .int .i64 0, .int .i64 0, .int .u16 0, .string ⟨#[98]⟩, .slice (some ⟨w.heap.size + 1, 0, none⟩) 1 1, .int .i64 0, .int .i64 5, .int .i64 0, .int .i64 0, .int .u16 0, .string ⟨#[103]⟩, .slice (some ⟨w.heap.size + 1 + 1, 0, none⟩) 1 1, .int .i64 0, .int .i64 5, .int .i64 1, .int .i64 0, .int .u16 0] 100)) (.slice (some ⟨w.heap.size + 1 + 1 + 1, 0, none⟩) 3 3) (tsA (.slice none 0 0) (.slice (some ⟨w.heap.size + 1, 0, none⟩) 1 1) (.slice (some ⟨w.heap.size + 1 + 1, 0, none⟩) 1 1)) from
    ⟨SlAt.of_row (enc := encT) (J := []) encT_len (xs := tsA (.slice none 0 0) (.slice (some ⟨w.heap.size + 1, 0, none⟩) 1 1) (.slice (some ⟨w.heap.size + 1 + 1, 0, none⟩) 1 1)) k3 (Nat.le_refl _), fun j hj => by
      match j, hj with
      | 0, _ => exact SlAt.nil 1 encI _
      | 1, _ => exact SlAt.of_row (enc := encI) (J := []) (xs := [0]) (fun _ => rfl) k1 (Nat.le_refl _)
      | 2, _ => exact SlAt.of_row (enc := encI) (J := []) (xs := [0]) (fun _ => rfl) k2 (Nat.le_refl _)⟩)
  have HB := Lib.hid (show Below w.heap.size w ((((w.alloc (.cells #[.string ⟨#[112]⟩, .slice (some ⟨w.heap.size + 1 + 1 + 1, 0, none⟩) 3 3] 46)).alloc (.cells #[.int .i64 0] 3)).alloc (.cells #[.int .i64 0] 3)).alloc (.cells #[.string ⟨#[97]⟩, .slice none 0 0, .int .i64 0, .int .i64 5, .int .i64 0, .int .i64 0, .int .u16 0, .string ⟨#[98]⟩, .slice (some ⟨w.heap.size + 1, 0, none⟩) 1 1, .int .i64 0, .int .i64 5, .int .i64 0, .int .i64 0, .int .u16 0, .string ⟨#[103]⟩, .slice (some ⟨w.heap.size + 1 + 1, 0, none⟩) 1 1, .int .i64 0, .int .i64 5, .int .i64 1, .int .i64 0, .int .u16 0] 100)) from ((b1.trans (b2.mono (by rw [z1]; omega))).trans (b3.mono (by rw [z2]; omega))).trans (b4.mono (by rw [z3]; omega)))
  clear z1 z2 z3 b1 b2 b3 b4 k1 k2 k3
  go_enter Tryz.func44, Tryz.ntmps44
  go_wp2
  refine bodyPost_ret (v := .agg #[.string ⟨#[112]⟩, .slice (some ⟨w.heap.size + 1 + 1 + 1, 0, none⟩) 3 3]) (by rw [results_cellG rfl]; go_simp) rfl ?_
  exact ⟨_, _, _, _, _, rfl, HT.out, HB.out⟩
set_option maxHeartbeats 8000000 in
theorem awake13 (w : World) (hM : Met w) : Calls Tryz.prog 11 #[] w fun e w' => e = .returned (.bool true) ∧ Below w.heap.size w w' := by
  have HM := Lib.hid hM
  have KP := Lib.hid (pipeC w)
  clear hM
  go_enter Tryz.func11, Tryz.ntmps11
  go_wp2_with fail
  refine KP.out.mono ?_
  rintro e w1 ⟨p, c, r0, r1, r2, rfl, hT, hb⟩
  have HB1 := Lib.hid hb
  have KN := Lib.hid (rnNew ⟨#[112]⟩ (.slice p 3 c) (tsA r0 r1 r2) 3 hT (awOk r0 r1 r2) (by have := smallM; show 1 ≤ maxLen; omega))
  clear hb hT KP
  go_wp2_with fail
  refine KN.out.mono ?_
  rintro e w2 ⟨hb, (⟨hf, _⟩ | ⟨_, b, us, rfl, hs, hr, _⟩)⟩
  · rw [awMay] at hf
    cases hf
  obtain ⟨s0, s1, s2, rfl⟩ := awSame hs
  rw [aw1] at hr
  have HR := Lib.hid (hr.mono HB1.out)
  have KN2 := Lib.hid (fun W => rnNew (w := W) ⟨#[]⟩ (.slice none 0 0) [] 0 ⟨SlAt.nil _ _ _, fun j hj => absurd hj (by simp)⟩ ⟨Nat.zero_le _, fun j hj => absurd hj (by simp)⟩ (by show 0 ≤ maxLen; omega))
  clear hr hs hb KN HB1
  go_wp2_with fail
  refine (KN2.out w2).mono ?_
  rintro e w3 ⟨hb, (⟨_, rfl⟩ | ⟨hf, _⟩)⟩
  rotate_left
  · rw [awNone] at hf
    cases hf
  have HR := Lib.hid (HR.out.below hb)
  clear hb KN2
  have K := rnBest HR.out (by show 3 ≤ 1000; omega) 3
  rw [aw2] at K
  have K := Lib.hid K
  go_wp2_with fail
  refine K.out.mono ?_
  rintro e w4 ⟨rfl, hr, _⟩
  have HR := Lib.hid hr
  clear hr K
  have K := rnTake HR.out (by show 3 ≤ 1000; omega) 0 3 1 1 ⟨by omega, by omega⟩ (awTi s0 s1 s2)
  rw [aw3] at K
  have K := Lib.hid K
  go_wp2_with fail
  refine K.out.mono ?_
  rintro e w5 ⟨rfl, hr⟩
  have HR := Lib.hid hr
  clear hr K
  have K := rnFin HR.out (by show 3 ≤ 1000; omega) 4 1 1
  rw [aw4, hitS] at K
  have K := Lib.hid K
  go_wp2_with fail
  refine K.out.mono ?_
  rintro e w6 ⟨rfl, hr, _⟩
  have HR := Lib.hid hr
  clear hr K
  have K := rnComplete HR.out (by show 3 ≤ 1000; omega) 0 5 ⟨#[120]⟩ (awAf s0 s1 s2) (awLa s0 s1 s2) (by have := smallM; show 1 ≤ maxLen; omega)
  rw [aw5] at K
  have K := Lib.hid K
  go_wp2_with fail
  refine K.out.mono ?_
  rintro e w7 ⟨rfl, hr⟩
  have HR := Lib.hid hr
  clear hr K
  have K := rnBest HR.out (by show 3 ≤ 1000; omega) 5
  rw [aw6] at K
  have K := Lib.hid K
  go_wp2_with fail
  refine K.out.mono ?_
  rintro e w8 ⟨rfl, hr, _⟩
  have HR := Lib.hid hr
  clear hr K
  have K := rnVoteY HR.out (by show 3 ≤ 1000; omega) 2 4 true (fun j hj => by match j, hj with | 0, _ => exact Nat.zero_le _ | 1, _ => exact Nat.zero_le _ | 2, _ => exact Nat.zero_le _) (aw7 s0 s1 s2)
  rw [aw8] at K
  have K := Lib.hid K
  go_wp2_with fail
  refine K.out.mono ?_
  rintro e w9 ⟨vs, rfl, hr⟩
  have HR := Lib.hid hr
  clear hr K
  have HR := Lib.hid (show Rn w b (RA s0 s1 s2 (psD vs)) w9 from by have := HR.out; rw [aw9] at this; exact this)
  have K := rnLet HR.out (by show 3 ≤ 1000; omega) 2 6 (awAf s0 s1 s2) (awLa s0 s1 s2) (awGa s0 s1 s2)
  rw [awA] at K
  have K := Lib.hid K
  go_wp2_with fail
  refine K.out.mono ?_
  rintro e w10 ⟨rfl, hr⟩
  have HR := Lib.hid hr
  clear hr K
  have K := Lib.hid (rnText HR.out HM.out (awW s0 s1 s2) (by rw [awG]; have := awI; omega))
  go_wp2_with fail
  refine K.out.mono ?_
  rintro e w11 ⟨rfl, hb⟩
  have HR := Lib.hid (HR.out.below hb)
  clear hb K
  have hwz : ((⟨(runW (RA s0 s1 s2 psE)).toArray⟩ : ByteArray).data.toList) = runW (RA (.slice none 0 0) (.slice none 0 0) (.slice none 0 0) psE) := by rw [awG]
  have K := rnRead ⟨(runW (RA s0 s1 s2 psE)).toArray⟩ w11 (HR.out.met HM.out) (by rw [hwz]; have := awI; omega)
  rw [hwz, awH] at K
  have K := Lib.hid K
  clear hwz
  generalize htx : (⟨(runW (RA s0 s1 s2 psE)).toArray⟩ : ByteArray) = tx at *
  have HTX := Lib.hid htx
  clear htx
  go_wp2_with fail
  refine K.out.mono ?_
  rintro e w12 ⟨br, rfl, hb, k⟩
  have K := Lib.hid k
  clear hb k
  go_wp2_with fail
  refine K.out.mono ?_
  rintro e w13 ⟨hb, hrd, (⟨_, bx, RX, rfl, hsame, hx⟩ | ⟨hf, _⟩)⟩
  rotate_left
  · rw [show okRd (RA (.slice none 0 0) (.slice none 0 0) (.slice none 0 0) psE, ([], false)) = true by kernel_rfl] at hf
    cases hf
  have HX := Lib.hid (hx.mono HR.out.bel)
  have HR := Lib.hid (HR.out.below hb)
  have HSM := Lib.hid hsame
  clear hb hrd hx hsame K
  have K := rnInput HR.out HM.out (by show 3 ≤ 1000; omega) 1 (by show 1 < 3; omega) (awAf s0 s1 s2) (by show 1 ≤ 1000; omega) (by show 0 < 1; omega) (fun a ha => by match a, ha with | 0, _ => exact of_decide_eq_true (by kernel_rfl) | 1, _ => exact of_decide_eq_true (by kernel_rfl) | 2, _ => exact of_decide_eq_true (by kernel_rfl))
  rw [awF] at K
  have K := Lib.hid K
  go_wp2_with fail
  refine K.out.mono ?_
  rintro e w14 ⟨rfl, hr, hbx⟩
  have HR := Lib.hid hr
  have HX := Lib.hid (HX.out.below hbx)
  clear hbx
  clear hr K
  have K := rnState HR.out 2 (by show 2 < 3; omega)
  rw [show (RA s0 s1 s2 psE).ps[2]!.try_.st = 3 from rfl] at K
  have K := Lib.hid K
  go_wp2_with fail
  refine K.out.mono ?_
  rintro e w15 ⟨rfl, hr, hbx⟩
  have HR := Lib.hid hr
  have HX := Lib.hid (HX.out.below hbx)
  clear hbx
  clear hr K
  have K := rnStatus HR.out (by show 3 ≤ 1000; omega)
  rw [awB] at K
  have K := Lib.hid K
  go_wp2_with fail
  refine K.out.mono ?_
  rintro e w16 ⟨rfl, hr, hbx⟩
  have HR := Lib.hid hr
  have HX := Lib.hid (HX.out.below hbx)
  clear hbx
  clear hr K
  have K := rnText HX.out HM.out (rdRun_okW (st := (runW (RA (.slice none 0 0) (.slice none 0 0) (.slice none 0 0) psE), false)) (by rw [awH]; exact HSM.out)) (by rw [HSM.out.text]; have := awI; omega)
  rw [HSM.out.text, ← awG s0 s1 s2, HTX.out] at K
  have K := Lib.hid K
  go_wp2_with fail
  refine K.out.mono ?_
  rintro e w17 ⟨rfl, hb⟩
  have HR := Lib.hid (HR.out.below hb)
  clear hb K HX
  have K := rnText HR.out HM.out (awW s0 s1 s2) (by rw [awG]; have := awI; omega)
  rw [HTX.out] at K
  have K := Lib.hid K
  go_wp2_with fail
  refine K.out.mono ?_
  rintro e w18 ⟨rfl, hb⟩
  have HR := Lib.hid (HR.out.below hb)
  clear hb K
  have K := rnCancel HR.out (by show 3 ≤ 1000; omega)
  rw [awC] at K
  have K := Lib.hid K
  go_wp2_with fail
  refine K.out.mono ?_
  rintro e w19 ⟨rfl, hr⟩
  have HR := Lib.hid hr
  clear hr K
  have K := rnStatus HR.out (by show 3 ≤ 1000; omega)
  rw [awD] at K
  have K := Lib.hid K
  go_wp2_with fail
  refine K.out.mono ?_
  rintro e w20 ⟨rfl, hr, _⟩
  have HR := Lib.hid hr
  clear hr K
  have K := rnTake HR.out (by show 3 ≤ 1000; omega) 1 9 1 2 ⟨by omega, by omega⟩ (awTi s0 s1 s2)
  rw [awE] at K
  have K := Lib.hid K
  go_wp2_with fail
  refine K.out.mono ?_
  rintro e w21 ⟨rfl, hr⟩
  have HR := Lib.hid hr
  clear hr K
  go_wp2
  go_ret
  exact ⟨rfl, HR.out.bel⟩
end Go.Proofs.YtbbcicengfmhiaaGreatDoor

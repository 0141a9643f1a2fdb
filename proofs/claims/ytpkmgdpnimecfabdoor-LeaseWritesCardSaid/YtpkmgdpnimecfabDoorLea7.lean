/- A try read. -/
import Derived.Test.YtpkmgdpnimecfabDoorLea6
namespace Go.Proofs.YtpkmgdpnimecfabDoor
open Go.RowKit

theorem results_cellY {fn : Func} {p : Tmp} {ty : TypeId} (h : fn.results = #[.cell p ty]) (tmps : Array Value) (P : Program) (w : World) :
    (results fn tmps).run P w = ((asAddr (tmps.getD p undef)).run P w).andThen fun a w₁ => (loadVar ty a).run P w₁ := by
  simp only [results, h]
  simp [Sem.run_bind, Result.andThen]
theorem readK (b : Nat) (st : List UInt8 × Bool) (hi : Int) (h5 : 7 ≤ b) (hs : st.1.length < 4294967281) (r : Int × (List UInt8 × Bool)) (hr : r = rd st hi) (W : World) (h : RdAt b st.1 st.2 W) (hM : Met W) :
    Calls Tryd.prog 44 #[.pointer (some ⟨b, 0, none⟩), .int .i64 0, .int .i64 hi] W fun e w' => e = .returned (.int .i64 r.1) ∧ RdAt b r.2.1 r.2.2 w' ∧ KeptB b W w' := by
  have := readerInt b st.1 st.2 0 hi W h hM h5 hs
  unfold IntPost at this
  rw [hr]
  exact this
theorem readN (b : Nat) (s : List UInt8) (bad : Bool) (h5 : 7 ≤ b) (hs : s.length < 4294967281) (W : World) (h : RdAt b s bad W) (hM : Met W) :
    Calls Tryd.prog 44 #[.pointer (some ⟨b, 0, none⟩), .int .i64 1, .int .i64 0] W fun e w' => e = .returned (.int .i64 0) ∧ RdAt b s true w' ∧ KeptB b W w' := by
  have := readerInt b s bad 1 0 W h hM h5 hs
  unfold IntPost at this
  rw [rdStep_never] at this
  exact this
set_option maxRecDepth 100000 in
set_option maxHeartbeats 8000000 in
theorem leaseRead (b : Nat) (s0 : List UInt8) (bad : Bool) (w : World) (h : RdAt b s0 bad w) (hM : Met w) (h5 : 7 ≤ b) (hs : s0.length < 4294967281) : Calls Tryd.prog 57 #[.pointer (some ⟨b, 0, none⟩)] w (SixPost b (s0, bad) w) := by
  have bz := h.1
  obtain ⟨r1, h11⟩ : ∃ r, r = rd (s0, bad) 4 := ⟨_, rfl⟩
  obtain ⟨r2, h12⟩ : ∃ r, r = rd r1.2 1000000 := ⟨_, rfl⟩
  obtain ⟨r3, h13⟩ : ∃ r, r = rd r2.2 6 := ⟨_, rfl⟩
  obtain ⟨r4, h14⟩ : ∃ r, r = rd r3.2 1000000 := ⟨_, rfl⟩
  obtain ⟨r5, h15⟩ : ∃ r, r = rd r4.2 1000000 := ⟨_, rfl⟩
  obtain ⟨r6, h16⟩ : ∃ r, r = rd r5.2 1000000 := ⟨_, rfl⟩
  have HSX : six (s0, bad) = ⟨r1.1, r2.1, r3.1, r4.1, r5.1, r6.1, r6.2⟩ := by rw [h16, h15, h14, h13, h12, h11]; rfl
  have l1 : r1.2.1.length < 4294967281 := by have := rd_len (s0, bad) 4; rw [← h11] at this; have h0 := hs; (try simp only at this); (try simp only at h0); omega
  have k1 := readK b (s0, bad) 4 h5 hs r1 h11
  have l2 : r2.2.1.length < 4294967281 := by have := rd_len r1.2 1000000; rw [← h12] at this; have h0 := l1; (try simp only at this); (try simp only at h0); omega
  have k2 := readK b r1.2 1000000 h5 l1 r2 h12
  have l3 : r3.2.1.length < 4294967281 := by have := rd_len r2.2 6; rw [← h13] at this; have h0 := l2; (try simp only at this); (try simp only at h0); omega
  have k3 := readK b r2.2 6 h5 l2 r3 h13
  have l4 : r4.2.1.length < 4294967281 := by have := rd_len r3.2 1000000; rw [← h14] at this; have h0 := l3; (try simp only at this); (try simp only at h0); omega
  have k4 := readK b r3.2 1000000 h5 l3 r4 h14
  have l5 : r5.2.1.length < 4294967281 := by have := rd_len r4.2 1000000; rw [← h15] at this; have h0 := l4; (try simp only at this); (try simp only at h0); omega
  have k5 := readK b r4.2 1000000 h5 l4 r5 h15
  have l6 : r6.2.1.length < 4294967281 := by have := rd_len r5.2 1000000; rw [← h16] at this; have h0 := l5; (try simp only at this); (try simp only at h0); omega
  have k6 := readK b r5.2 1000000 h5 l5 r6 h16
  have k7 := readN b r6.2.1 r6.2.2 h5 l6
  clear h11 h12 h13 h14 h15 h16 l1 l2 l3 l4 l5 l6
  obtain ⟨n1, s1, b1⟩ := r1
  obtain ⟨n2, s2, b2⟩ := r2
  obtain ⟨n3, s3, b3⟩ := r3
  obtain ⟨n4, s4, b4⟩ := r4
  obtain ⟨n5, s5, b5⟩ := r5
  obtain ⟨n6, s6, b6⟩ := r6
  simp only at k1 k2 k3 k4 k5 k6 k7 HSX
  have HSX2 := Lib.hid HSX
  have K1 := Lib.hid k1
  have K2 := Lib.hid k2
  have K3 := Lib.hid k3
  have K4 := Lib.hid k4
  have K5 := Lib.hid k5
  have K6 := Lib.hid k6
  have K7 := Lib.hid k7
  have KO := Lib.hid (leaseRight n1 n2 n3 n4 n5 n6)
  generalize hrt : rightT n1 n2 n3 n4 n5 n6 = rt at KO
  have HRT := Lib.hid hrt
  have b1 := below1 w (.cells #[.int .i64 (0), .int .i64 (0), .int .i64 (0), .int .i64 (0), .int .i64 (0), .int .i64 (0)] 84)
  have HT := Lib.hid (TxAt.mk w 0 0 0 0 0 0)
  have HR := Lib.hid (h.below b1)
  have HM := Lib.hid (hM.below b1)
  have HK := Lib.hid (KeptB.of bz b1)
  have hne : w.heap.size ≠ b := by omega
  clear HSX hrt b1 h hM k1 k2 k3 k4 k5 k6 k7
  go_enter Tryd.func57, Tryd.ntmps57
  go_wp2_with fail
  refine (K1.out _ HR.out HM.out).mono ?_
  rintro e w1 ⟨rfl, hr, hk⟩
  have HT := Lib.hid (HT.out.kept hk hne)
  have HM := Lib.hid (hk.met HM.out h5)
  have HK := Lib.hid (HK.out.trans hk)
  have HR := Lib.hid hr
  clear hr hk
  go_wp2_with fail
  refine (K2.out _ HR.out HM.out).mono ?_
  rintro e w2 ⟨rfl, hr, hk⟩
  have HT := Lib.hid (HT.out.kept hk hne)
  have HM := Lib.hid (hk.met HM.out h5)
  have HK := Lib.hid (HK.out.trans hk)
  have HR := Lib.hid hr
  clear hr hk
  go_wp2_with fail
  refine (K3.out _ HR.out HM.out).mono ?_
  rintro e w3 ⟨rfl, hr, hk⟩
  have HT := Lib.hid (HT.out.kept hk hne)
  have HM := Lib.hid (hk.met HM.out h5)
  have HK := Lib.hid (HK.out.trans hk)
  have HR := Lib.hid hr
  clear hr hk
  go_wp2_with fail
  refine (K4.out _ HR.out HM.out).mono ?_
  rintro e w4 ⟨rfl, hr, hk⟩
  have HT := Lib.hid (HT.out.kept hk hne)
  have HM := Lib.hid (hk.met HM.out h5)
  have HK := Lib.hid (HK.out.trans hk)
  have HR := Lib.hid hr
  clear hr hk
  go_wp2_with fail
  refine (K5.out _ HR.out HM.out).mono ?_
  rintro e w5 ⟨rfl, hr, hk⟩
  have HT := Lib.hid (HT.out.kept hk hne)
  have HM := Lib.hid (hk.met HM.out h5)
  have HK := Lib.hid (HK.out.trans hk)
  have HR := Lib.hid hr
  clear hr hk
  go_wp2_with fail
  refine (K6.out _ HR.out HM.out).mono ?_
  rintro e w6 ⟨rfl, hr, hk⟩
  have HT := Lib.hid (HT.out.kept hk hne)
  have HM := Lib.hid (hk.met HM.out h5)
  have HK := Lib.hid (HK.out.trans hk)
  have HR := Lib.hid hr
  clear hr hk
  go_wp2_with fail
  have b2 := below1 w6 (.cells #[.int .i64 (n1), .int .i64 (n2), .int .i64 (n3), .int .i64 (n4), .int .i64 (n5), .int .i64 (n6)] 84)
  have HX := Lib.hid (TxAt.mk w6 n1 n2 n3 n4 n5 n6)
  have HT := Lib.hid (HT.out.below b2)
  have HR := Lib.hid (HR.out.below b2)
  have HM := Lib.hid (HM.out.below b2)
  have hbz6 : b < w6.heap.size := Nat.lt_of_lt_of_le bz HK.out.2.2
  have hw6 : w.heap.size ≤ w6.heap.size := HK.out.2.2
  have HK := Lib.hid (HK.out.trans (KeptB.of hbz6 b2))
  have HR7z := HR.out.1
  clear b2
  refine (readerOk b s6 b6 _ HR.out).mono ?_
  rintro e w7 ⟨rfl, rfl⟩
  cases b6 with
  | true =>
    go_wp2_with fail
    refine (K7.out _ HR.out HM.out).mono ?_
    rintro e w8 ⟨rfl, hr, hk⟩
    have HT := Lib.hid (HT.out.kept hk hne)
    have HK := Lib.hid (HK.out.trans hk)
    have HR := Lib.hid hr
    clear hr hk
    obtain ⟨d0, d1, d2, d3, d4, d5⟩ := HT.out.cells
    have f0 := HT.out.frozen 0
    have f1 := HT.out.frozen 1
    have f2 := HT.out.frozen 2
    have f3 := HT.out.frozen 3
    have f4 := HT.out.frozen 4
    have f5 := HT.out.frozen 5
    go_wp2
    refine bodyPost_ret (v := (.agg #[.int .i64 (0), .int .i64 (0), .int .i64 (0), .int .i64 (0), .int .i64 (0), .int .i64 (0)])) (by rw [results_cellY rfl]; go_simp) rfl ?_
    unfold SixPost
    rw [HSX2.out]
    refine .inr ⟨?_, rfl, ((((((HR.out).setO (show b ≠ w.heap.size by omega) 0 _).setO (show b ≠ w.heap.size by omega) 1 _).setO (show b ≠ w.heap.size by omega) 2 _).setO (show b ≠ w.heap.size by omega) 3 _).setO (show b ≠ w.heap.size by omega) 4 _).setO (show b ≠ w.heap.size by omega) 5 _, ((((((HK.out).setN bz (Nat.le_refl _) 0 _).setN bz (Nat.le_refl _) 1 _).setN bz (Nat.le_refl _) 2 _).setN bz (Nat.le_refl _) 3 _).setN bz (Nat.le_refl _) 4 _).setN bz (Nat.le_refl _) 5 _⟩
    unfold okSix
    simp only
    rfl
  | false =>
    obtain ⟨c0, c1, c2, c3, c4, c5⟩ := HX.out.cells
    go_wp2_with fail
    refine (KO.out _).mono ?_
    rintro e w8 ⟨rfl, hb⟩
    have HT := Lib.hid (HT.out.below hb)
    have HX := Lib.hid (HX.out.below hb)
    have HR := Lib.hid (HR.out.below hb)
    have HM := Lib.hid (HM.out.below hb)
    have HK := Lib.hid (HK.out.trans (KeptB.of HR7z hb))
    clear hb c0 c1 c2 c3 c4 c5
    cases rt with
    | false =>
      go_wp2_with fail
      refine (K7.out _ HR.out HM.out).mono ?_
      rintro e w9 ⟨rfl, hr, hk⟩
      have HT := Lib.hid (HT.out.kept hk hne)
      have HK := Lib.hid (HK.out.trans hk)
      have HR := Lib.hid hr
      clear hr hk
      obtain ⟨d0, d1, d2, d3, d4, d5⟩ := HT.out.cells
      have f0 := HT.out.frozen 0
      have f1 := HT.out.frozen 1
      have f2 := HT.out.frozen 2
      have f3 := HT.out.frozen 3
      have f4 := HT.out.frozen 4
      have f5 := HT.out.frozen 5
      go_wp2
      refine bodyPost_ret (v := (.agg #[.int .i64 (0), .int .i64 (0), .int .i64 (0), .int .i64 (0), .int .i64 (0), .int .i64 (0)])) (by rw [results_cellY rfl]; go_simp) rfl ?_
      unfold SixPost
      rw [HSX2.out]
      refine .inr ⟨?_, rfl, ((((((HR.out).setO (show b ≠ w.heap.size by omega) 0 _).setO (show b ≠ w.heap.size by omega) 1 _).setO (show b ≠ w.heap.size by omega) 2 _).setO (show b ≠ w.heap.size by omega) 3 _).setO (show b ≠ w.heap.size by omega) 4 _).setO (show b ≠ w.heap.size by omega) 5 _, ((((((HK.out).setN bz (Nat.le_refl _) 0 _).setN bz (Nat.le_refl _) 1 _).setN bz (Nat.le_refl _) 2 _).setN bz (Nat.le_refl _) 3 _).setN bz (Nat.le_refl _) 4 _).setN bz (Nat.le_refl _) 5 _⟩
      unfold okSix
      simp only
      rw [HRT.out]
      rfl
    | true =>
      obtain ⟨c0, c1, c2, c3, c4, c5⟩ := HX.out.cells
      obtain ⟨d0, d1, d2, d3, d4, d5⟩ := HT.out.cells
      have f0 := HT.out.frozen 0
      have f1 := HT.out.frozen 1
      have f2 := HT.out.frozen 2
      have f3 := HT.out.frozen 3
      have f4 := HT.out.frozen 4
      have f5 := HT.out.frozen 5
      go_wp2
      refine bodyPost_ret (v := (.agg #[.int .i64 (n1), .int .i64 (n2), .int .i64 (n3), .int .i64 (n4), .int .i64 (n5), .int .i64 (n6)])) (by rw [results_cellY rfl]; go_simp) rfl ?_
      unfold SixPost
      rw [HSX2.out]
      refine .inl ⟨?_, rfl, ((((((HR.out).setO (show b ≠ w.heap.size by omega) 0 _).setO (show b ≠ w.heap.size by omega) 1 _).setO (show b ≠ w.heap.size by omega) 2 _).setO (show b ≠ w.heap.size by omega) 3 _).setO (show b ≠ w.heap.size by omega) 4 _).setO (show b ≠ w.heap.size by omega) 5 _, ((((((HK.out).setN bz (Nat.le_refl _) 0 _).setN bz (Nat.le_refl _) 1 _).setN bz (Nat.le_refl _) 2 _).setN bz (Nat.le_refl _) 3 _).setN bz (Nat.le_refl _) 4 _).setN bz (Nat.le_refl _) 5 _⟩
      unfold okSix
      simp only
      rw [HRT.out]
      rfl
end Go.Proofs.YtpkmgdpnimecfabDoor

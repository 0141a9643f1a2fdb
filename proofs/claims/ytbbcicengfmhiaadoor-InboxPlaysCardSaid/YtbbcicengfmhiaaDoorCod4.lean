/- A codec.Reader takes a number, a text. No condition but the text's size. -/
import Derived.Test.YtbbcicengfmhiaaDoorCod3
namespace Go.Proofs.YtbbcicengfmhiaaDoor
open Go.RowKit

def rdStep (s : List UInt8) (bad : Bool) (lo hi : Int) : Int × List UInt8 × Bool :=
  if bad = true then (0, s, true) else match rdInt s lo hi with | some (n, r) => (n, r, false) | none => (0, s, true)
theorem rdStep_none {s : List UInt8} {lo hi : Int} (h : rdInt s lo hi = none) : rdStep s false lo hi = (0, s, true) := by simp [rdStep, h]
theorem rdStep_some {s r : List UInt8} {lo hi n : Int} (h : rdInt s lo hi = some (n, r)) : rdStep s false lo hi = (n, r, false) := by simp [rdStep, h]
theorem cut_len (s : List UInt8) : (Lib.cut s [44]).1.length ≤ s.length := by
  unfold Lib.cut
  split
  · simp; omega
  · simp
def IntPost (b : Nat) (s : List UInt8) (bad : Bool) (lo hi : Int) (w : World) (e : Ending) (w' : World) : Prop :=
  e = .returned (.int .i64 (rdStep s bad lo hi).1) ∧ RdAt b (rdStep s bad lo hi).2.1 (rdStep s bad lo hi).2.2 w' ∧ KeptB b w w'
theorem IntPost.none {b : Nat} {s : List UInt8} {lo hi : Int} {w w' : World} (h : rdInt s lo hi = none) (hr : RdAt b s true w') (hk : KeptB b w w') : IntPost b s false lo hi w (.returned (.int .i64 0)) w' := by
  unfold IntPost
  rw [rdStep_none h]
  exact ⟨rfl, hr, hk⟩
theorem IntPost.some {b : Nat} {s r : List UInt8} {lo hi n : Int} {w w' : World} (h : rdInt s lo hi = some (n, r)) (hr : RdAt b r false w') (hk : KeptB b w w') : IntPost b s false lo hi w (.returned (.int .i64 n)) w' := by
  unfold IntPost
  rw [rdStep_some h]
  exact ⟨rfl, hr, hk⟩

set_option maxRecDepth 100000 in
set_option maxHeartbeats 2000000 in
theorem readerInt (b : Nat) (s : List UInt8) (bad : Bool) (lo hi : Int) (w : World) (h : RdAt b s bad w) (hM : Met w) (h5 : 9 ≤ b) (hs : s.length < 4294967281) :
    Calls Tryd.prog 84 #[.pointer (some ⟨b, 0, none⟩), .int .i64 lo, .int .i64 hi] w (IntPost b s bad lo hi w) := by
  have HR := Lib.hid h
  have HM := Lib.hid hM
  obtain ⟨h0, ⟨h1, h2⟩, h3, h4⟩ := h
  clear hM
  cases bad with
  | true =>
    go_enter Tryd.func84, Tryd.ntmps84
    go_wp2
    go_ret
    exact ⟨rfl, HR.out, KeptB.refl _ _⟩
  | false =>
    have hc := cutC s
    have hl := cut_len s
    have HI := Lib.hid (show rdInt s lo hi = rdInt s lo hi from rfl)
    obtain ⟨X, hX⟩ : ∃ X, X = rdInt s lo hi := ⟨_, rfl⟩
    have HX := Lib.hid hX
    rw [rdInt] at hX
    generalize Lib.cut s [44] = cu at hc hl hX
    obtain ⟨p, r, ok⟩ := cu
    dsimp only at hc hl hX
    have HC := Lib.hid hc
    have HX2 := Lib.hid hX
    clear hc hX
    go_enter Tryd.func84, Tryd.ntmps84
    go_wp2_with fail
    refine (HC.out _ HM.out hs).mono ?_
    rintro e w1 ⟨rfl, hb⟩
    have HK := Lib.hid (KeptB.of h0 hb)
    have HR1 := Lib.hid (HR.out.below hb)
    have HM1 := Lib.hid (HM.out.below hb)
    clear hb h1 h2 h3 h4
    cases ok with
    | false =>
      have hN : rdInt s lo hi = none := by rw [← HX.out, HX2.out]; rfl
      have HN := Lib.hid hN
      clear hN
      go_wp2_with fail
      refine (readerFail b s false _ HR1.out).mono ?_
      rintro e w2 ⟨rfl, hr2, hk2⟩
      have H2 := Lib.hid (And.intro hr2 (HK.out.trans hk2))
      clear hr2 hk2
      go_wp2
      go_ret
      exact IntPost.none HN.out H2.out.1 H2.out.2
    | true =>
      go_wp2_with fail
      refine (atoiC p _ HM1.out (by omega)).mono ?_
      rintro e w2 ⟨hb, hq⟩
      have HK2 := Lib.hid (HK.out.trans (KeptB.of HR1.out.1 hb))
      have HR2 := Lib.hid (HR1.out.below hb)
      have HM2 := Lib.hid (HM1.out.below hb)
      clear hb
      have hX3 := HX2.out
      simp only [if_true] at hX3
      rcases ha : Lib.atoiAll p with v | _ | _
      rotate_left
      · skip
        rw [ha] at hq hX3
        obtain ⟨v, N, rfl⟩ := hq
        have HN := Lib.hid (show rdInt s lo hi = none by rw [← HX.out, hX3])
        clear hX3 ha
        go_wp2_with fail
        refine (readerFail b s false _ HR2.out).mono ?_
        rintro e w3 ⟨rfl, hr2, hk2⟩
        have H2 := Lib.hid (And.intro hr2 (HK2.out.trans hk2))
        clear hr2 hk2
        go_wp2
        go_ret
        exact IntPost.none HN.out H2.out.1 H2.out.2
      · skip
        rw [ha] at hq hX3
        obtain ⟨v, N, rfl⟩ := hq
        have HN := Lib.hid (show rdInt s lo hi = none by rw [← HX.out, hX3])
        clear hX3 ha
        go_wp2_with fail
        refine (readerFail b s false _ HR2.out).mono ?_
        rintro e w3 ⟨rfl, hr2, hk2⟩
        have H2 := Lib.hid (And.intro hr2 (HK2.out.trans hk2))
        clear hr2 hk2
        go_wp2
        go_ret
        exact IntPost.none HN.out H2.out.1 H2.out.2
      · skip
        rw [ha] at hq hX3
        subst hq
        have hv := Lib.atoiAll_bounds ha
        clear ha
        dsimp only at hX3
        go_wp2_with fail
        refine (itoaC v hv _ HM2.out).mono ?_
        rintro e w3 ⟨rfl, hb⟩
        have HK3 := Lib.hid (HK2.out.trans (KeptB.of HR2.out.1 hb))
        have HR3 := Lib.hid (HR2.out.below hb)
        clear hb
        by_cases he : Lib.itoa v = p
        · have hX4 : X = if lo ≤ v ∧ v ≤ hi then some (v, r) else none := by rw [hX3]; simp only [he, true_and]
          clear hX3
          subst he
          generalize (⟨(Lib.itoa v).toArray⟩ : ByteArray) = sx
          cases t1 : decide (v < lo) with
          | true =>
            have HN := Lib.hid (show rdInt s lo hi = none by
              rw [← HX.out, hX4, if_neg (by simp only [decide_eq_true_eq] at t1; omega)])
            clear hX4
            go_wp2_with fail
            refine (readerFail b s false _ HR3.out).mono ?_
            rintro e w4 ⟨rfl, hr2, hk2⟩
            have H2 := Lib.hid (And.intro hr2 (HK3.out.trans hk2))
            clear hr2 hk2
            go_wp2
            go_ret
            exact IntPost.none HN.out H2.out.1 H2.out.2
          | false =>
            cases t2 : decide (hi < v) with
            | true =>
              have HN := Lib.hid (show rdInt s lo hi = none by
                rw [← HX.out, hX4, if_neg (by simp only [decide_eq_true_eq] at t2; omega)])
              clear hX4
              go_wp2_with fail
              refine (readerFail b s false _ HR3.out).mono ?_
              rintro e w4 ⟨rfl, hr2, hk2⟩
              have H2 := Lib.hid (And.intro hr2 (HK3.out.trans hk2))
              clear hr2 hk2
              go_wp2
              go_ret
              exact IntPost.none HN.out H2.out.1 H2.out.2
            | false =>
              have HN := Lib.hid (show rdInt s lo hi = some (v, r) by
                rw [← HX.out, hX4, if_pos (by simp only [decide_eq_false_iff_not] at t1 t2; omega)])
              clear hX4
              have hf := HR3.out.2.2.1
              have hc0 := HR3.out.2.1.1
              have hz := HR3.out.1
              have H2 := Lib.hid (HR3.out.setText (t := r))
              go_wp2
              go_ret
              exact IntPost.some HN.out H2.out (HK3.out.trans (KeptB.set _ _))
        · have hX4 : X = none := by rw [hX3]; simp only [he, false_and, if_false]
          have HN := Lib.hid (show rdInt s lo hi = none by rw [← HX.out, hX4])
          have e1 : ¬ ((⟨(Lib.itoa v).toArray⟩ : ByteArray).toList = (⟨p.toArray⟩ : ByteArray).toList) := by
            rw [ByteArray.toList_eq, ByteArray.toList_eq]
            simpa using he
          clear hX3 hX4 he
          generalize (⟨(Lib.itoa v).toArray⟩ : ByteArray) = sx at e1 ⊢
          generalize (⟨p.toArray⟩ : ByteArray) = sp at e1 ⊢
          go_wp2_with fail
          refine (readerFail b s false _ HR3.out).mono ?_
          rintro e w4 ⟨rfl, hr2, hk2⟩
          have H2 := Lib.hid (And.intro hr2 (HK3.out.trans hk2))
          clear hr2 hk2
          go_wp2
          go_ret
          exact IntPost.none HN.out H2.out.1 H2.out.2

/-- what is taken as a text -/
def rdText (s : List UInt8) (bad : Bool) (most : Int) : List UInt8 × List UInt8 × Bool :=
  if (rdStep s bad 0 most).2.2 = true then ([], (rdStep s bad 0 most).2.1, true)
  else if ((rdStep s bad 0 most).2.1.length : Int) < (rdStep s bad 0 most).1 then ([], (rdStep s bad 0 most).2.1, true)
  else ((rdStep s bad 0 most).2.1.take (rdStep s bad 0 most).1.toNat, (rdStep s bad 0 most).2.1.drop (rdStep s bad 0 most).1.toNat, false)

def TextPost (b : Nat) (s : List UInt8) (bad : Bool) (most : Int) (w : World) (e : Ending) (w' : World) : Prop :=
  e = .returned (.string ⟨(rdText s bad most).1.toArray⟩) ∧ RdAt b (rdText s bad most).2.1 (rdText s bad most).2.2 w' ∧ KeptB b w w'
theorem rdStep_bounds {s : List UInt8} {bad : Bool} {lo hi : Int} (h : (rdStep s bad lo hi).2.2 = false) : lo ≤ (rdStep s bad lo hi).1 ∧ (rdStep s bad lo hi).1 ≤ hi ∧ (rdStep s bad lo hi).2.1.length ≤ s.length := by
  unfold rdStep at h ⊢
  split at h
  · cases h
  · rename_i hb
    rw [if_neg hb]
    cases hr : rdInt s lo hi with
    | none => rw [hr] at h; cases h
    | some nr =>
      obtain ⟨n, r⟩ := nr
      simp only
      unfold rdInt at hr
      split at hr
      · split at hr
        · split at hr
          · rename_i h3
            injection hr with hr
            injection hr with h4 h5
            subst h4
            refine ⟨h3.2.1, h3.2.2, ?_⟩
            rw [← h5]
            unfold Lib.cut
            split <;> simp
          · cases hr
        · cases hr
        · cases hr
      · cases hr

set_option maxRecDepth 100000 in
set_option maxHeartbeats 2000000 in
theorem readerText (b : Nat) (s : List UInt8) (bad : Bool) (most : Int) (w : World) (h : RdAt b s bad w) (hM : Met w) (h5 : 9 ≤ b) (hs : s.length < 4294967281) :
    Calls Tryd.prog 89 #[.pointer (some ⟨b, 0, none⟩), .int .i64 most] w (TextPost b s bad most w) := by
  have hbd := rdStep_bounds (s := s) (bad := bad) (lo := 0) (hi := most)
  have HI := Lib.hid (readerInt b s bad 0 most w h hM h5 hs)
  obtain ⟨X, hX⟩ : ∃ X, X = rdText s bad most := ⟨_, rfl⟩
  have HX := Lib.hid hX
  rw [rdText] at hX
  unfold IntPost at HI
  generalize rdStep s bad 0 most = st at hbd HI hX
  obtain ⟨n, r, bd⟩ := st
  dsimp only at hbd HI hX
  have HX2 := Lib.hid hX
  clear hX
  go_enter Tryd.func89, Tryd.ntmps89
  go_wp2_with fail
  refine HI.out.mono ?_
  rintro e w1 ⟨rfl, hr, hk⟩
  have HR := Lib.hid hr
  have HK := Lib.hid hk
  clear hr hk h hM
  go_wp2_with fail
  refine (readerOk b r bd _ HR.out).mono ?_
  rintro e w2 ⟨rfl, rfl⟩
  cases bd with
  | true =>
    have HE := Lib.hid (show rdText s bad most = ([], r, true) by rw [← HX.out, HX2.out]; rfl)
    go_wp2
    go_ret
    unfold TextPost
    rw [HE.out]
    exact ⟨rfl, HR.out, HK.out⟩
  | false =>
    obtain ⟨b0, b1, b2⟩ := hbd rfl
    obtain ⟨k, rfl⟩ : ∃ k : Nat, n = k := ⟨n.toNat, by omega⟩
    have hc0 := HR.out.2.1.1
    have hz := HR.out.1
    have hf := HR.out.2.2.1
    have hsz : ((⟨r.toArray⟩ : ByteArray).size : Int) = (r.length : Int) := by simp [ByteArray.size]
    cases t1 : decide (r.length < k) with
    | true =>
      have HE := Lib.hid (show rdText s bad most = ([], r, true) by
        rw [← HX.out, HX2.out]
        simp only [Bool.false_eq_true, if_false]
        rw [if_pos (by simp only [decide_eq_true_eq] at t1; omega)])
      go_wp2_with fail
      refine (readerFail b r false _ HR.out).mono ?_
      rintro e w2 ⟨rfl, hr2, hk2⟩
      have H2 := Lib.hid (And.intro hr2 (HK.out.trans hk2))
      clear hr2 hk2
      go_wp2
      go_ret
      unfold TextPost
      rw [HE.out]
      exact ⟨rfl, H2.out.1, H2.out.2⟩
    | false =>
      have HE := Lib.hid (show rdText s bad most = (r.take k, r.drop k, false) by
        rw [← HX.out, HX2.out]
        simp only [Bool.false_eq_true, if_false]
        rw [if_neg (by simp only [decide_eq_false_iff_not] at t1; omega)]
        simp)
      have H2 := Lib.hid (HR.out.setText (t := r.drop k))
      have hkr : k ≤ r.length := by simp only [decide_eq_false_iff_not] at t1; omega
      have x1 : (⟨r.toArray⟩ : ByteArray).extract 0 k = ⟨(r.take k).toArray⟩ := by
        apply ByteArray.ext
        simp [ByteArray.data_extract]
      have x2 : (⟨r.toArray⟩ : ByteArray).extract k r.length = ⟨(r.drop k).toArray⟩ := by
        apply ByteArray.ext
        simp only [ByteArray.data_extract, List.extract_toArray, List.extract_eq_take_drop]
        rw [List.take_of_length_le (by simp)]
      have X1 := Lib.hid x1
      have X2 := Lib.hid x2
      clear x1 x2
      go_wp2
      rw [X1.out, X2.out]
      go_ret
      unfold TextPost
      rw [HE.out]
      exact ⟨rfl, H2.out, HK.out.trans (KeptB.set _ _)⟩
end Go.Proofs.YtbbcicengfmhiaaDoor

/- RunReads: of any text a run that stands there is written as it stood, and may be run; else the reader stops. Every input. -/
import Derived.Test.YtbbcicengfmhiaaGreatDoorM11
import Derived.Test.YtbbcicengfmhiaaGreatDoorRefU
namespace Go.Proofs.YtbbcicengfmhiaaGreatDoor
set_option maxRecDepth 100000
open Go.ChangeShapes Go.WideShapes Go.ChangeAt Go.RowKit Go.Deep Go.Joins

theorem SameT.trans {a b c : List TaskV} (h : SameT a b) (k : SameT b c) : SameT a c := by
  refine ⟨h.1.trans k.1, fun j hj => ?_⟩
  have h1 := h.2 j (by rw [k.1]; exact hj)
  have h2 := k.2 j hj
  rw [h1, h2]
theorem rnPipe {w0 w : World} {b : Nat} {R : RunM} (h : Rn w0 b R w) (hbig : R.ts.length ≤ 1000) (hpos : 0 < R.ts.length) (hla : ∀ j, j < R.ts.length → R.ts[j]!.after.length ≤ 1000) :
    Calls Tryz.prog 17 #[.pointer (some ⟨b, 0, none⟩)] w fun e w' => ∃ q cap us, e = .returned (.agg #[.string R.nm, .slice (some ⟨q, 0, none⟩) R.ts.length cap]) ∧ TasksAt w' (.slice (some ⟨q, 0, none⟩) R.ts.length cap) us ∧ SameT us R.ts ∧ Below w.heap.size w w' := by
  obtain ⟨g, tb, tf, tc, c, J, h1, h2⟩ := h.at_
  exact runPipe b g tb tf tc c J R w h1 hbig hpos hla
/-- what was read without a fault: its text stands ahead -/
theorem reads_text {s : ByteArray} {R : RunM} (hok : okRd (rdRun (s.data.toList, false)) = true) (h : SameR R (rdRun (s.data.toList, false)).1) : (⟨(runW R).toArray⟩ : ByteArray).size ≤ s.size ∧ s.extract 0 (⟨(runW R).toArray⟩ : ByteArray).size = ⟨(runW R).toArray⟩ := by
  unfold okRd at hok
  simp only [Bool.and_eq_true, Bool.not_eq_true'] at hok
  obtain ⟨_, hb⟩ := rdRun_back hok.1
  rw [← h.text] at hb
  have hl : s.size = (runW R).length + (rdRun (s.data.toList, false)).2.1.length := by
    have := congrArg List.length hb
    simp only [List.length_append] at this
    rw [← this]
    simp
  have ht : (⟨(runW R).toArray⟩ : ByteArray).size = (runW R).length := by show (runW R).toArray.size = _; simp
  refine ⟨by omega, ?_⟩
  apply ByteArray.ext
  rw [ht]
  simp only [ByteArray.data_extract]
  apply Array.ext'
  rw [Array.toList_extract]
  simp only [List.extract_eq_take_drop, List.drop_zero, Nat.sub_zero]
  rw [show s.data.toList = runW R ++ (rdRun (s.data.toList, false)).2.1 from hb]
  simp
theorem reads_in {s : ByteArray} {R : RunM} (hok : okRd (rdRun (s.data.toList, false)) = true) (h : SameR R (rdRun (s.data.toList, false)).1) : R.nm.size ≤ 8 ∧ mayP R.nm R.ts = true ∧ ∀ us, SameT us R.ts → okTs us := by
  unfold okRd at hok
  simp only [Bool.and_eq_true] at hok
  refine ⟨?_, by rw [h.nm, h.ts.may]; exact hok.2, fun us hu => ?_⟩
  · rw [h.nm]
    show (rdText s.data.toList false 8).1.toArray.size ≤ 8
    rw [List.size_toArray]
    exact rdText_in _ _ 8
  · have hk := rdStep_io (rdText s.data.toList false 8).2.1 (rdText s.data.toList false 8).2.2 1 8 (by decide) (by decide)
    exact rdTs_ok (k := (rdStep (rdText s.data.toList false 8).2.1 (rdText s.data.toList false 8).2.2 1 8).1.toNat) (st := (rdStep (rdText s.data.toList false 8).2.1 (rdText s.data.toList false 8).2.2 1 8).2) (hu.trans h.ts) (by omega)
set_option maxHeartbeats 8000000 in
theorem runReads_walk (s : ByteArray) (w : World) (hM : Met w) (hsz : s.size ≤ maxLen) : Calls Tryz.prog 4 #[.string s] w fun e w' => e = .returned (.bool true) ∧ Below w.heap.size w w' := by
  have HM := Lib.hid hM
  unfold maxLen at hsz
  clear hM
  by_cases hl : 2000 < s.size
  · have hlz : (2000 : Int) < (s.size : Int) := by omega
    go_enter Tryz.func4, Tryz.ntmps4
    go_wp2_with fail
    refine (awake13 w HM.out).mono ?_
    rintro e w1 ⟨rfl, hb⟩
    have HB := Lib.hid hb
    clear hb
    go_wp2_with fail
    refine (awake13 w1 (HM.out.below HB.out)).mono ?_
    rintro e w2 ⟨rfl, hb⟩
    have HB := Lib.hid (HB.out.trans (hb.mono HB.out.size))
    clear hb
    go_wp2
    go_ret
    exact ⟨rfl, HB.out⟩
  · have hlz : ¬ (2000 : Int) < (s.size : Int) := by omega
    have hl2 : s.data.toList.length = s.size := by simp
    have KT := Lib.hid (fun R h1 h2 => reads_text (s := s) (R := R) h1 h2)
    have KI := Lib.hid (fun R h1 h2 => reads_in (s := s) (R := R) h1 h2)
    have KW := Lib.hid (fun R h => rdRun_okW (st := (s.data.toList, false)) (R := R) h)
    have KR := Lib.hid (fun W (hW : Met W) => rnRead s W hW (by rw [hl2]; omega))
    clear hl2
    generalize rdRun (s.data.toList, false) = X at *
    go_enter Tryz.func4, Tryz.ntmps4
    go_wp2_with fail
    refine (awake13 w HM.out).mono ?_
    rintro e w1 ⟨rfl, hb⟩
    have HB := Lib.hid hb
    have HM1 := Lib.hid (HM.out.below hb)
    clear hb
    go_wp2_with fail
    refine (KR.out w1 HM1.out).mono ?_
    rintro e w2 ⟨br, rfl, hb, k⟩
    have K := Lib.hid k
    clear hb k KR
    go_wp2_with fail
    refine K.out.mono ?_
    rintro e w3 ⟨hb, hrd, (⟨hok, b, R, rfl, hs, hr⟩ | ⟨hok, rfl⟩)⟩
    · rw [hok] at hrd
      have HRD := Lib.hid (show RdAt br X.2.1 false w3 from hrd)
      have HR := Lib.hid (hr.mono HB.out)
      obtain ⟨ht1, ht2⟩ := KT.out R hok hs
      obtain ⟨hi1, hi2, hi3⟩ := KI.out R hok hs
      have HI := Lib.hid hi3
      have HMY := Lib.hid hi2
      have hpb : pipeB R.nm R.ts = true := by
        unfold mayP at hi2
        simp only [Bool.and_eq_true] at hi2
        exact hi2.1
      have hpl := pipeB_len hpb
      have HAL := Lib.hid (fun j (hj : j < R.ts.length) => (show R.ts[j]!.after.length ≤ 1000 from by have := pipeB_afterLen hpb hj; omega))
      have hlen : (runW R).length ≤ s.size := ht1
      have KTX := Lib.hid (rnText HR.out HM.out (KW.out R hs) (by omega))
      generalize htx : (⟨(runW R).toArray⟩ : ByteArray) = tx at *
      clear hb hrd hok hs hr hi2 hi3 KT KI KW K hpb htx hlen
      have htz : (tx.size : Int) ≤ (s.size : Int) := by omega
      go_wp2_with fail
      refine KTX.out.mono ?_
      rintro e w4 ⟨rfl, hb⟩
      have HR4 := Lib.hid (HR.out.below hb)
      have HRD4 := Lib.hid (HRD.out.below hb)
      clear hb KTX
      have hrd := HRD4.out
      go_wp2_with fail
      refine (readerOk br _ _ _ hrd).mono ?_
      rintro e w5 ⟨rfl, rfl⟩
      clear hrd
      have KP := Lib.hid (rnPipe HR4.out (by omega) (by omega) HAL.out)
      go_wp2_with fail
      refine KP.out.mono ?_
      rintro e w5 ⟨q, cap, us, rfl, hT, hS, hb⟩
      have HB5 := Lib.hid (HR4.out.bel.trans (hb.mono HR4.out.bel.size))
      have hmy : mayP R.nm us = true := by rw [hS.may]; exact HMY.out
      have hul : R.ts.length = us.length := hS.1.symm
      have KM := refMay R.nm (.slice (some ⟨q, 0, none⟩) R.ts.length cap) us w5 hT (HI.out us hS) (by unfold maxLen; omega) (by omega)
      have KM := Lib.hid KM
      have HY := Lib.hid hmy
      clear hT hS hb KP hmy hul
      go_wp2_with fail
      refine KM.out.mono ?_
      rintro e w6 ⟨hb, z, rfl, hz⟩
      obtain rfl : z = true := hz HY.out
      have HB6 := Lib.hid (HB5.out.trans (hb.mono HB5.out.size))
      clear hb hz KM
      go_wp2
      go_ret
      exact ⟨rfl, HB6.out⟩
    · rw [hok] at hrd
      have hrd' : RdAt br X.2.1 true w3 := hrd
      have HB3 := Lib.hid (HB.out.trans (hb.mono HB.out.size))
      clear hb hrd hok K KT KI KW
      go_wp2_with fail
      refine (readerOk br _ _ _ hrd').mono ?_
      rintro e w4 ⟨rfl, rfl⟩
      clear hrd'
      go_wp2
      go_ret
      exact ⟨rfl, HB3.out⟩

theorem runReads_lifted (os : Os) (started : os.Started) (H : Type) (enc : TypeId × Value → H) :
    ReturnsInHanded {} Tryz.checked os 4 .any (fun w args => (Rows.runReadsSpec.pre enc Tryz.prog Tryz.f4 [] false w args ∧ laidMetH Tryz.prog laidL w) ∧ sizedMet enc Tryz.prog Tryz.f4 (OpenSpec.ofChange Rows.runReadsSpec) false w args) (Rows.runReadsSpec.post enc Tryz.prog Tryz.f4 false true false false) := by
  refine law_liftD started Tryz.func4 (by kernel_rfl) (by kernel_rfl) rfl (by kernel_rfl) ?_
    (ChangeSpec.witness_shaped (enc := enc) (C := Tryz.checked) (os := os) (X := fun w _ => laidMetH Tryz.prog laidL w) false (World.laidAll Tryz.prog os laidL) #[.string ⟨#[]⟩] 8 rfl (shapedL os _) (by kernel_rfl) (by kernel_rfl) (by kernel_rfl) (laid_metL os _)) ?_
  · intro ds hd
    rw [Tryz.params4] at hd
    match ds, hd with
    | [d0], _ => rfl
  · intro W base args ds ps hM hval hA
    rw [Tryz.params4] at hA hval
    obtain ⟨v0, vs0, d0, ds0, p0, q0, hargs, rfl, rfl, h0, r0⟩ := trodAll_cons hA
    obtain ⟨rfl, rfl, rfl⟩ := trodAll_nil r0
    obtain rfl : args = #[v0] := by cases args; simp_all
    obtain ⟨s, rfl⟩ := okWide_string Tryz.underlying9 (hval 0 9 v0 rfl rfl)
    obtain ⟨fuel, hf⟩ := h0
    obtain ⟨s', h9, _, hs⟩ := DataW.trod_string Tryz.underlying9 hf
    simp [Value.cells] at h9
    subst h9
    exact runReads_walk s _ hM hs

theorem runReads_row : Rows.RunReadsSaid :=
  OpenClaim.holds_of_wide 4 Tryz.f4 rfl rfl rfl rfl rfl rfl rfl ⟨rfl, rfl, rfl, rfl, rfl⟩ rfl rfl rfl rfl rfl (by kernel_rfl) Tryz.func4 (by kernel_rfl)
    (of_decide_eq_true (by kernel_rfl)) (by unfold Func.isWrapper; first | (rw [if_pos (by decide +kernel)]; kernel_rfl) | (rw [if_neg (by decide +kernel)]; exact ⟨rfl, rfl⟩))
    (fun os started H enc _ => runReads_lifted os started H enc)
theorem runReads_holds : Rows.RunReadsCardSaid :=
  Claim7.holds_tied_plain_at .later [] [.data, .data, .data, .sentinel, .sentinel] true (true, "2f13b6cc92835c72b660c9667954f9a291f485fe2b50b279bce080c968671950") true
    runReads_row (fun _ h => by cases h) (by kernel_rfl) (fun _ h => by cases h) runReads_row_tie rfl ⟨rfl, rfl⟩ (by kernel_rfl) rfl
    (fun f fn hf hfn => by
      obtain rfl : f = 4 := Option.some.inj ((show Tryz.prog.funcNamed "lockage/lockagelaw13.RunReads" = some 4 by kernel_rfl).symm.trans hf) |>.symm
      obtain rfl : fn = Tryz.f4 := (Option.some.inj (Tryz.func4.symm.trans hfn)).symm
      exact ⟨by kernel_rfl, fun j t ht => by
        rw [Tryz.params4] at ht
        have hm : t ∈ [9] := by simpa using Array.mem_of_getElem? ht
        have hall : ([9].all fun u => !Tryz.prog.wantsStandIn u) = true := by kernel_rfl
        exact (show Tryz.prog.wantsStandIn t = false by simpa using List.all_eq_true.1 hall t hm)⟩)
    (by kernel_rfl)
end Go.Proofs.YtbbcicengfmhiaaGreatDoor

/- CodecStops: once something was wrong nothing is read any more; a text that is cut off isn't read whole. Every input. -/
import Derived.Test.YtpkmgdpnimecfabDoorAwk6
import Derived.Test.YtpkmgdpnimecfabDoorOpn
import Derived.Deep.DeepCutAuto
namespace Go.Proofs.YtpkmgdpnimecfabDoor
open Go.ChangeShapes Go.WideShapes Go.ChangeAt Go.RowKit

theorem rdText_bad (s : List UInt8) (m : Int) : rdText s true m = ([], s, true) := by simp [rdText, rdStep]
theorem take_num {n : Int} (t : List UInt8) {k : Nat} : (numL n ++ t).take k = if k ≤ (Lib.itoa n).length then (Lib.itoa n).take k else Lib.itoa n ++ 44 :: t.take (k - (Lib.itoa n).length - 1) := by
  unfold numL
  rw [List.append_assoc]
  split
  · rename_i h
    rw [List.take_append_of_le_length h]
  · rename_i h
    rw [List.take_append, List.take_of_length_le (by omega)]
    congr 1
    simp only [List.cons_append, List.nil_append]
    rw [show k - (Lib.itoa n).length = (k - (Lib.itoa n).length - 1) + 1 by omega, List.take_succ_cons]
    simp
theorem rdStep_len {s : List UInt8} {bad : Bool} {lo hi : Int} : (rdStep s bad lo hi).2.1.length ≤ s.length := by
  cases h : (rdStep s bad lo hi).2.2 with
  | false => exact (rdStep_bounds h).2.2
  | true =>
    unfold rdStep at h ⊢
    split at h
    · rename_i hb
      rw [if_pos hb]
      exact Nat.le_refl _
    · rename_i hb
      rw [if_neg hb]
      cases hr : rdInt s lo hi with
      | none => exact Nat.le_refl _
      | some nr => rw [hr] at h; cases h
/-- a text that is cut off isn't read whole -/
theorem stops_cut {n : Int} (hn : okI n) (s : List UInt8) (hs : s.length ≤ 300) {k : Nat} (hk : k < (numL n ++ textL s).length) :
    let st := rdStep ((numL n ++ textL s).take k) false n n
    let tt := rdText st.2.1 st.2.2 300
    (!tt.2.2 && tt.2.1.isEmpty) = false := by
  have hL : okI (s.length : Int) := ⟨by omega, by omega⟩
  rw [take_num]
  split
  · rename_i h
    have : rdStep ((Lib.itoa n).take k) false n n = (0, (Lib.itoa n).take k, true) := rdStep_none (rdInt_miss _ (fun c hc => itoa_mem c (List.mem_of_mem_take hc)))
    simp only [this, rdText_bad]
    rfl
  · rename_i h
    have h1 : rdStep (Lib.itoa n ++ 44 :: (textL s).take (k - (Lib.itoa n).length - 1)) false n n = (n, (textL s).take (k - (Lib.itoa n).length - 1), false) := by
      refine rdStep_some ?_
      rw [rdInt_num _ hn.1 hn.2, if_pos ⟨Int.le_refl _, Int.le_refl _⟩]
    simp only [h1]
    have hk2 : k - (Lib.itoa n).length - 1 < (textL s).length := by
      simp only [List.length_append, numL, List.length_cons, List.length_nil] at hk
      omega
    generalize k - (Lib.itoa n).length - 1 = j at hk2
    unfold textL at hk2 ⊢
    rw [take_num]
    split
    · have h2 : rdStep ((Lib.itoa (s.length : Int)).take j) false 0 300 = (0, (Lib.itoa (s.length : Int)).take j, true) := rdStep_none (rdInt_miss _ (fun c hc => itoa_mem c (List.mem_of_mem_take hc)))
      unfold rdText
      simp only [h2]
      rfl
    · rename_i h3
      have h4 : rdStep (Lib.itoa (s.length : Int) ++ 44 :: s.take (j - (Lib.itoa (s.length : Int)).length - 1)) false 0 300 = ((s.length : Int), s.take (j - (Lib.itoa (s.length : Int)).length - 1), false) := by
        refine rdStep_some ?_
        rw [rdInt_num _ hL.1 hL.2, if_pos ⟨by omega, by omega⟩]
      have h5 : (((s.take (j - (Lib.itoa (s.length : Int)).length - 1)).length : Nat) : Int) < (s.length : Int) := by
        simp only [numL, List.length_append, List.length_cons, List.length_nil] at hk2
        rw [List.length_take]
        omega
      unfold rdText
      simp only [h4]
      rw [if_neg (by simp), if_pos h5]
      rfl
theorem stops_all {n : Int} (hn : okI n) (t : List UInt8) : rdStep (numL n ++ t) false 1 0 = (0, numL n ++ t, true) := by
  refine rdStep_none ?_
  have : numL n ++ t = Lib.itoa n ++ 44 :: t := by simp [numL]
  rw [this, rdInt_num _ hn.1 hn.2, if_neg (by omega)]

set_option maxRecDepth 100000 in
set_option maxHeartbeats 4000000 in
theorem codecStops_walk (n : Int) (s : ByteArray) (cut : Int) (hn : okI n) (w : World) (hM : Met w) :
    Calls Tryd.prog 10 #[.int .i64 n, .string s, .int .i64 cut] w fun e w' => e = .returned (.bool true) ∧ Below w.heap.size w w' := by
  have h5 := hM.size
  have HM := Lib.hid hM
  have ON := Lib.hid hn
  clear hM hn
  go_enter Tryd.func10, Tryd.ntmps10
  go_wp2_with fail
  refine (awake06 _ HM.out).mono ?_
  rintro e w1 ⟨rfl, hb⟩
  have HB1 := Lib.hid hb
  have HM1 := Lib.hid (HM.out.below hb)
  clear hb
  cases t1 : decide ((300 : Int) < (s.size : Int)) with
  | true =>
    go_wp2_with fail
    refine (awake06 _ HM1.out).mono ?_
    rintro e w2 ⟨rfl, hb⟩
    go_wp2
    go_ret
    exact ⟨rfl, HB1.out.trans (hb.mono HB1.out.size)⟩
  | false =>
    have hs300 : s.size ≤ 300 := by simp at t1; omega
    have hsl : s.data.toList.length = s.size := by rw [Array.length_toList]; rfl
    have HS := Lib.hid (And.intro hs300 hsl)
    have hz1 := HB1.out.size
    go_upto_region 4 with fail
    have hb0 := below2 w1 (.cells #[.pointer none, .slice none 0 0] 59) (.cells #[.int .i64 n] 3)
    have hW : WrAt (w1.heap.size + 2) (w1.heap.size + 2) w1.heap.size [] ((w1.alloc (.cells #[.pointer none, .slice none 0 0] 59)).alloc (.cells #[.int .i64 n] 3)) :=
      WrAt.fresh _ (by omega) (by simp) (alloc_at2 _ _ _)
    have hc : ((w1.alloc (.cells #[.pointer none, .slice none 0 0] 59)).alloc (.cells #[.int .i64 n] 3)).cell? ⟨w1.heap.size + 1, 0, none⟩ = some (.int .i64 n) := by go_simp
    have H0 := Lib.hid (And.intro hb0 (And.intro hW hc))
    clear hb0 hW hc hsl
    go_wp2_with fail
    generalize ((w1.alloc (.cells #[.pointer none, .slice none 0 0] 59)).alloc (.cells #[.int .i64 n] 3)) = W1 at H0 ⊢
    have q := writerInt (w1.heap.size + 2) (w1.heap.size + 2) w1.heap.size (w1.heap.size + 1) 0 1 [] [n] W1 H0.out.2.1 (HM1.out.below H0.out.1) (by omega) (by
      intro j hj
      have : j = 0 := by simp at hj; omega
      subst this
      exact ON.out) (by simp) (by omega) (.inr (by simp)) (by
      intro j hj
      have : j = 0 := by simp at hj; omega
      subst this
      exact H0.out.2.2)
    rw [show ([] ++ numsL [n]) = numL n by simp [numsL]] at q
    refine q.mono ?_
    rintro e w2 ⟨rfl, ⟨T2, hW2⟩, hk2⟩
    have HB := Lib.hid (H0.out.1.trans (hk2.1 _ (Nat.le_refl _)))
    have HW := Lib.hid hW2
    clear hW2 hk2 q
    go_wp2_with fail
    have H3 := Lib.hid (show (w2.alloc (.cells #[.string s] 9)).cell? ⟨w2.heap.size, 0, none⟩ = some (.string s) by go_simp)
    have q := writerText (w1.heap.size + 2) T2 w1.heap.size w2.heap.size 0 1 (numL n) s (w2.alloc (.cells #[.string s] 9)) (HW.out.below (below1 _ _)) ((HM1.out.below HB.out).below (below1 _ _)) (by omega) (by
      have h1 := numL_len ON.out
      omega) (by have := HW.out.1; omega) H3.out
    refine q.mono ?_
    rintro e w3 ⟨rfl, ⟨T3, hW3⟩, hk3⟩
    have HB3 := Lib.hid ((HB.out.trans ((below1 w2 (.cells #[.string s] 9)).mono HB.out.size)).trans (hk3.1 _ (Nat.le_refl _)))
    have HW3 := Lib.hid hW3
    clear hW3 hk3 q
    obtain ⟨all, hall⟩ : ∃ a, a = numL n ++ textL s.data.toList := ⟨_, rfl⟩
    have hal : all.length ≤ 400 ∧ 0 < all.length := by
      have h1 := numL_len ON.out
      have h2 := numL_len (n := (s.data.toList.length : Int)) ⟨by omega, by have := HS.out.2; omega⟩
      have h3 := HS.out.2
      rw [hall]
      unfold textL
      simp only [List.length_append]
      have h4 : 0 < (numL n).length := List.length_pos_iff.2 (numL_ne n)
      omega
    rw [← hall] at HW3
    have HA := Lib.hid hall
    obtain ⟨A, hA⟩ : ∃ A : ByteArray, A = ⟨all.toArray⟩ := ⟨_, rfl⟩
    have hAs : A.size = all.length := by rw [hA]; exact List.size_toArray
    have q := writerString (w1.heap.size + 2) T3 w1.heap.size _ w3 HW3.out (List.length_pos_iff.1 hal.2)
    rw [← hA] at q
    have HAA := Lib.hid (show A.data.toList = all by rw [hA])
    clear hall hA
    go_wp2_with fail
    refine q.mono ?_
    rintro e w4 ⟨rfl, hk4⟩
    have HB4 := Lib.hid (HB3.out.trans (hk4.1.mono (by omega)))
    clear hk4 q
    obtain ⟨m, hm, hm2, hcut⟩ : ∃ m : Nat, m < all.length ∧ (m : Int) < (A.size : Int) ∧ (IntKind.u64.wrap cut).tmod (A.size : Int) = (m : Int) := by
      obtain ⟨x, ⟨x0, x1⟩, hx⟩ := umod cut (A.size : Int) (by omega)
      exact ⟨x.toNat, by omega, by omega, by omega⟩
    have HSZ := Lib.hid hAs
    have HAL := Lib.hid hal
    have hA0 : ¬ ((A.size : Int) = 0) := by omega
    have hAw : IntKind.u64.wrap (A.size : Int) = (A.size : Int) := by simp [IntKind.wrap, IntKind.signed, IntKind.bits]; omega
    have hw64 : wrap64 (m : Int) = (m : Int) := by simp only [wrap64]; omega
    clear hAs hal
    go_upto_region 7 with fail
    go_wp2_with fail
    have hxe : (A.extract 0 m).data.toList = all.take m := by
      rw [ByteArray.data_extract, Array.toList_extract, HAA.out]
      simp [List.extract_eq_take_drop]
    have q := readerNew (A.extract 0 m) w4
    rw [hxe] at q
    refine q.mono ?_
    rintro e w5 ⟨rfl, hr5, hb5⟩
    have HB5 := Lib.hid (HB4.out.trans (hb5.mono HB4.out.size))
    have HR5 := Lib.hid hr5
    have hz4 := HB4.out.size
    clear hr5 hb5 q hxe
    have hlen5 : (all.take m).length < 4294967281 := by have := HAL.out.1; rw [List.length_take]; omega
    have HST := Lib.hid (stops_cut (n := n) ON.out s.data.toList (by have := HS.out; omega) (k := m) (by rw [← HA.out]; exact hm))
    dsimp only at HST
    rw [← HA.out] at HST
    go_wp2_with fail
    have q1 := readerInt w4.heap.size (all.take m) false n n w5 HR5.out (HM1.out.below HB5.out) (by omega) hlen5
    unfold IntPost at q1
    have hbd := rdStep_len (s := all.take m) (bad := false) (lo := n) (hi := n)
    generalize rdStep (all.take m) false n n = st at q1 HST hbd
    refine q1.mono ?_
    rintro e w6 ⟨rfl, hr6, hk6⟩
    have HR6 := Lib.hid hr6
    have HB6 := Lib.hid (HB5.out.trans (hk6.1 _ (by omega)))
    clear q1 hr6 hk6
    go_wp2_with fail
    have q1 := readerText w4.heap.size st.2.1 st.2.2 300 w6 HR6.out (HM1.out.below HB6.out) (by omega) (by omega)
    unfold TextPost at q1
    generalize rdText st.2.1 st.2.2 300 = tt at q1 HST
    refine q1.mono ?_
    rintro e w7 ⟨rfl, hr7, hk7⟩
    have HR7 := Lib.hid hr7
    have HB7 := Lib.hid (HB6.out.trans (hk7.1 _ (by omega)))
    clear q1 hr7 hk7
    go_wp2_with fail
    have q1 := readerDone w4.heap.size tt.2.1 tt.2.2 w7 HR7.out
    rw [HST.out] at q1
    refine q1.mono ?_
    rintro e w' ⟨rfl, rfl⟩
    clear q1
    go_wp2_with fail
    have q := readerNew A w7
    rw [HAA.out] at q
    refine q.mono ?_
    rintro e w8 ⟨rfl, hr8, hb8⟩
    have HB8 := Lib.hid (HB7.out.trans (hb8.mono HB7.out.size))
    have HR8 := Lib.hid hr8
    have hz7 := HB7.out.size
    clear hr8 hb8 q
    have hlen8 : all.length < 4294967281 := by have := HAL.out.1; omega
    go_wp2_with fail
    have q1 := readerInt w7.heap.size all false 1 0 w8 HR8.out (HM1.out.below HB8.out) (by omega) hlen8
    unfold IntPost at q1
    rw [show rdStep all false 1 0 = (0, all, true) by rw [HA.out]; exact stops_all ON.out _] at q1
    refine q1.mono ?_
    rintro e w9 ⟨rfl, hr9, hk9⟩
    have HR9 := Lib.hid hr9
    have HB9 := Lib.hid (HB8.out.trans (hk9.1 _ (by omega)))
    clear q1 hr9 hk9
    go_wp2_with fail
    have q1 := readerInt w7.heap.size all true n n w9 HR9.out (HM1.out.below HB9.out) (by omega) hlen8
    unfold IntPost at q1
    rw [show rdStep all true n n = (0, all, true) from rfl] at q1
    refine q1.mono ?_
    rintro e w10 ⟨rfl, hr10, hk10⟩
    have HR10 := Lib.hid hr10
    have HB10 := Lib.hid (HB9.out.trans (hk10.1 _ (by omega)))
    clear q1 hr10 hk10
    go_wp2_with fail
    have q1 := readerText w7.heap.size all true 300 w10 HR10.out (HM1.out.below HB10.out) (by omega) hlen8
    unfold TextPost at q1
    rw [rdText_bad] at q1
    refine q1.mono ?_
    rintro e w11 ⟨rfl, hr11, hk11⟩
    have HR11 := Lib.hid hr11
    have HB11 := Lib.hid (HB10.out.trans (hk11.1 _ (by omega)))
    clear q1 hr11 hk11
    go_wp2_with fail
    refine (readerOk w7.heap.size all true w11 HR11.out).mono ?_
    rintro e w' ⟨rfl, rfl⟩
    go_wp2_with fail
    refine (readerDone w7.heap.size all true w11 HR11.out).mono ?_
    rintro e w' ⟨rfl, rfl⟩
    go_wp2
    go_ret
    exact ⟨by simp, HB1.out.trans (HB11.out.mono HB1.out.size)⟩

theorem okI_of {n : Int} (h : (Lit.int .i64 n).wf = true) : okI n := by
  simp [Lit.wf, IntKind.min, IntKind.max, IntKind.bits, IntKind.signed] at h
  exact ⟨by omega, by omega⟩
set_option maxRecDepth 100000 in
theorem codecStops_lifted (os : Os) (started : os.Started) (H : Type) (enc : TypeId × Value → H) :
    ReturnsInHanded {} Tryd.checked os 10 .any (fun w args => (Rows.codecStopsSpec.pre enc Tryd.prog Tryd.f10 [] false w args ∧ laidMetH Tryd.prog laidL w) ∧ sizedMet enc Tryd.prog Tryd.f10 (OpenSpec.ofChange Rows.codecStopsSpec) false w args) (Rows.codecStopsSpec.post enc Tryd.prog Tryd.f10 false true false false) := by
  refine law_liftD started Tryd.func10 (by kernel_rfl) (by kernel_rfl) rfl (by kernel_rfl) ?_
    (ChangeSpec.witness_shaped (enc := enc) (C := Tryd.checked) (os := os) (X := fun w _ => laidMetH Tryd.prog laidL w) false (World.doorLaid Tryd.prog 69 os) #[.int .i64 0, .string ⟨#[]⟩, .int .i64 0] 8 rfl (World.shaped_of_RefB (by kernel_rfl) (by kernel_rfl)) (by kernel_rfl) (by kernel_rfl) (by kernel_rfl) (door_met os _)) ?_
  · intro ds hd
    rw [Tryd.params10] at hd
    match ds, hd with
    | [d0, d1, d2], _ => rfl
  · intro W base args ds ps hM hval hA
    rw [Tryd.params10] at hA hval
    obtain ⟨v0, vs0, d0, ds0, p0, q0, hargs, rfl, rfl, h0, r0⟩ := trodAll_cons hA
    obtain ⟨v1, vs1, d1, ds1, p1, q1, rfl, rfl, rfl, h1, r1⟩ := trodAll_cons r0
    obtain ⟨v2, vs2, d2, ds2, p2, q2, rfl, rfl, rfl, h2, r2⟩ := trodAll_cons r1
    obtain ⟨rfl, rfl, rfl⟩ := trodAll_nil r2
    obtain rfl : args = #[v0, v1, v2] := by cases args; simp_all
    obtain ⟨a0, rfl, _, _, w0⟩ := open_int Tryd.underlying3 (hval 0 3 v0 rfl rfl) h0
    obtain ⟨s, rfl⟩ := okWide_string Tryd.underlying9 (hval 1 9 v1 rfl rfl)
    obtain ⟨a2, rfl, _, _, w2⟩ := open_int Tryd.underlying3 (hval 2 3 v2 rfl rfl) h2
    exact codecStops_walk _ _ _ (okI_of w0) _ hM

theorem codecStops_row : Rows.CodecStopsSaid :=
  OpenClaim.holds_of_wide 10 Tryd.f10 rfl rfl rfl rfl rfl rfl rfl ⟨rfl, rfl, rfl, rfl, rfl⟩ rfl rfl rfl rfl rfl (by kernel_rfl) Tryd.func10 (by kernel_rfl)
    (of_decide_eq_true (by kernel_rfl)) (by unfold Func.isWrapper; first | (rw [if_pos (by decide +kernel)]; kernel_rfl) | (rw [if_neg (by decide +kernel)]; exact ⟨rfl, rfl⟩))
    (fun os started H enc _ => codecStops_lifted os started H enc)
theorem codecStops_holds : Rows.CodecStopsCardSaid :=
  Claim7.holds_tied_plain_at .later [] [.data, .data, .data, .sentinel, .sentinel] true (true, "cfe63c5658b6bd1a0fc7e38934e65126801f8a0fa6b3d3db120216d21a504323") true
    codecStops_row (fun _ h => by cases h) (by kernel_rfl) (fun _ h => by cases h) codecStops_row_tie rfl ⟨rfl, rfl⟩ (by kernel_rfl) rfl
    (fun f fn hf hfn => by
      obtain rfl : f = 10 := Option.some.inj ((show Tryd.prog.funcNamed "lockage/lockagelaw06.CodecStops" = some 10 by kernel_rfl).symm.trans hf) |>.symm
      obtain rfl : fn = Tryd.f10 := (Option.some.inj (Tryd.func10.symm.trans hfn)).symm
      exact ⟨by kernel_rfl, fun j t ht => by
        rw [Tryd.params10] at ht
        have hm : t ∈ [3, 9, 3] := by simpa using Array.mem_of_getElem? ht
        have hall : ([3, 9, 3].all fun u => !Tryd.prog.wantsStandIn u) = true := by kernel_rfl
        exact (show Tryd.prog.wantsStandIn t = false by simpa using List.all_eq_true.1 hall t hm)⟩)
    (by kernel_rfl)
end Go.Proofs.YtpkmgdpnimecfabDoor

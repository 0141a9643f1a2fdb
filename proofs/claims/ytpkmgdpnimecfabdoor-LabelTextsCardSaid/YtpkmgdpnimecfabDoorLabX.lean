/- LabelTexts: unlike labels have unlike texts; what joins two is read from its text. Every input. -/
import Derived.Test.YtpkmgdpnimecfabDoorLat
import Derived.Test.YtpkmgdpnimecfabDoorAwk1
import Derived.Test.YtpkmgdpnimecfabDoorOpn
import Derived.Test.YtpkmgdpnimecfabDoorTk
namespace Go.Proofs.YtpkmgdpnimecfabDoor
open Go.ChangeShapes Go.WideShapes Go.ChangeAt Go.RowKit

theorem right_join {a b : Int} (ha : rightLv a = true) (hb : rightLv b = true) : rightLv (joinLv a b) = true := by
  have := right_le ha
  have := right_le hb
  unfold joinLv
  split <;> assumption
theorem lp_txt {a : Int} {x : Nat} (h : rightLv a = true) (hx : x < 65536) : LpRes (txtL a x) = .tuple #[(.agg #[.int .i64 (a), .int .u16 ((x : Nat) : Int)]), .int .i64 0] := by
  unfold LpRes
  rw [parseL_txt h hx]
theorem texts_same {a b : Int} {x y : Nat} (ha : rightLv a = true) (hx : x < 65536) (hb : rightLv b = true) (hy : y < 65536) :
    ((⟨(txtL a x).toArray⟩ : ByteArray).toList == (⟨(txtL b y).toArray⟩ : ByteArray).toList) = sameB a x b y := by
  cases h : sameB a x b y with
  | true =>
    unfold sameB at h
    simp at h
    obtain ⟨rfl, rfl⟩ := h
    simp
  | false =>
    have hne : txtL a x ≠ txtL b y := fun e => by
      obtain ⟨rfl, rfl⟩ := txtL_inj ha hx hb hy e
      rw [sameB_self] at h
      cases h
    rw [ByteArray.toList_eq, ByteArray.toList_eq]
    simpa using hne
set_option maxRecDepth 100000 in
set_option maxHeartbeats 16000000 in
theorem labelTexts_walk (a b : Int) (x y : Nat) (hx : x < 65536) (hy : y < 65536) (w : World) (hM : Met w) :
    Calls Tryd.prog 8 #[(.agg #[.int .i64 (a), .int .u16 ((x : Nat) : Int)]), (.agg #[.int .i64 (b), .int .u16 ((y : Nat) : Int)])] w fun e w' => e = .returned (.bool true) ∧ Below w.heap.size w w' := by
  have HM := Lib.hid hM
  have KA := Lib.hid (fun W => ref01Right a x W)
  have KB := Lib.hid (fun W => ref01Right b y W)
  have HX := Lib.hid hx
  have HY := Lib.hid hy
  generalize hra : rightLv a = ra at KA
  generalize hrb : rightLv b = rb at KB
  have RA := Lib.hid hra
  have RB := Lib.hid hrb
  clear hM hx hy hra hrb
  go_enter Tryd.func8, Tryd.ntmps8
  have HB := Lib.hid (below1 w (.cells #[.int .i64 (a), .int .u16 ((x : Nat) : Int)] 26))
  have HX1 := Lib.hid (LBx.mk w a x)
  have HA := Lib.hid (below1 (w.alloc (.cells #[.int .i64 a, .int .u16 ((x : Nat) : Int)] 26)) (.cells #[.int .i64 (b), .int .u16 ((y : Nat) : Int)] 26))
  have HB := Lib.hid (HB.out.trans (HA.out.mono HB.out.size))
  have HX1 := Lib.hid (HX1.out.below HA.out)
  have HX2 := Lib.hid (LBx.mk2 (b := w.heap.size + 1) (w.alloc (.cells #[.int .i64 a, .int .u16 ((x : Nat) : Int)] 26)) (b) (y) (by simp))
  obtain ⟨z1, c10, c11, _, _⟩ := HX1.out
  obtain ⟨z2, c20, c21, _, _⟩ := HX2.out
  go_wp2_with fail
  clear c10 c11 z1 c20 c21 z2
  refine (awake01 _ (HM.out.below HB.out)).mono ?_
  rintro e w1 ⟨rfl, hb⟩
  have HB := Lib.hid (HB.out.trans (hb.mono HB.out.size))
  have HX1 := Lib.hid (HX1.out.below hb)
  have HX2 := Lib.hid (HX2.out.below hb)
  clear hb
  obtain ⟨z1, c10, c11, _, _⟩ := HX1.out
  obtain ⟨z2, c20, c21, _, _⟩ := HX2.out
  go_wp2_with fail
  clear c10 c11 z1 c20 c21 z2
  refine (KA.out _).mono ?_
  rintro e w2 ⟨rfl, hb⟩
  have HB := Lib.hid (HB.out.trans (hb.mono HB.out.size))
  have HX1 := Lib.hid (HX1.out.below hb)
  have HX2 := Lib.hid (HX2.out.below hb)
  clear hb
  obtain ⟨z1, c10, c11, _, _⟩ := HX1.out
  obtain ⟨z2, c20, c21, _, _⟩ := HX2.out
  cases ra with
  | false =>
    go_wp2_with fail
    refine (awake01 _ (HM.out.below HB.out)).mono ?_
    rintro e wz ⟨rfl, hb⟩
    have HB := Lib.hid (HB.out.trans (hb.mono HB.out.size))
    clear hb
    go_wp2
    go_ret
    exact ⟨rfl, HB.out⟩
  | true =>
    go_wp2_with fail
    clear c10 c11 z1 c20 c21 z2
    refine (KB.out _).mono ?_
    rintro e w3 ⟨rfl, hb⟩
    have HB := Lib.hid (HB.out.trans (hb.mono HB.out.size))
    have HX1 := Lib.hid (HX1.out.below hb)
    have HX2 := Lib.hid (HX2.out.below hb)
    clear hb
    obtain ⟨z1, c10, c11, _, _⟩ := HX1.out
    obtain ⟨z2, c20, c21, _, _⟩ := HX2.out
    cases rb with
    | false =>
      go_wp2_with fail
      refine (awake01 _ (HM.out.below HB.out)).mono ?_
      rintro e wz ⟨rfl, hb⟩
      have HB := Lib.hid (HB.out.trans (hb.mono HB.out.size))
      clear hb
      go_wp2
      go_ret
      exact ⟨rfl, HB.out⟩
    | true =>
      have HJX := Lib.hid (mOr_lt HX.out HY.out)
      have HLP := Lib.hid (lp_txt (right_join RA.out RB.out) HJX.out)
      have k27 := fun W => labelJoin a b x y HX.out HY.out W
      have k1 := fun W => labelLeq a (joinLv a b) x (mOr x y) HX.out HJX.out W
      rw [leqB_left a b HX.out HY.out] at k1
      have k2 := fun W => labelLeq b (joinLv a b) y (mOr x y) HY.out HJX.out W
      rw [leqB_right a b HX.out HY.out] at k2
      generalize joinLv a b = jl at k27 k1 k2 HLP
      generalize mOr x y = jx at k27 k1 k2 HLP HJX
      have k3 := fun W (h : Met W) => labelText jl jx HJX.out W h
      have k4 := fun W (h : Met W) => labelParse (txtL jl jx) W h
      rw [HLP.out] at k4
      have k5 := fun W (h : Met W) => labelText a x HX.out W h
      have k6 := fun W (h : Met W) => labelText b y HY.out W h
      have hS := texts_same RA.out HX.out RB.out HY.out
      have hZ : (⟨(txtL a x).toArray⟩ : ByteArray).size = 6 := by rw [show (⟨(txtL a x).toArray⟩ : ByteArray).size = (txtL a x).length from rfl, txtL_len RA.out]
      generalize (⟨(txtL jl jx).toArray⟩ : ByteArray) = TJ at k3 k4
      generalize (⟨(txtL a x).toArray⟩ : ByteArray) = TA at k5 hS hZ
      generalize (⟨(txtL b y).toArray⟩ : ByteArray) = TB at k6 hS
      have hE := fun W => run_eqL' a b x y W
      generalize sameB a x b y = sm at hE hS
      have hgu := eqGuard26
      have K27 := Lib.hid k27
      have K1 := Lib.hid k1
      have K2 := Lib.hid k2
      have K3 := Lib.hid k3
      have K4 := Lib.hid k4
      have K5 := Lib.hid k5
      have K6 := Lib.hid k6
      have HE := Lib.hid hE
      have HS := Lib.hid hS
      have HZ := Lib.hid hZ
      clear k27 k1 k2 k3 k4 k5 k6 hE hS hZ HLP KA KB
      go_wp2_with fail
      clear c10 c11 z1 c20 c21 z2
      refine (K27.out _).mono ?_
      rintro e w4 ⟨rfl, hb⟩
      have HB := Lib.hid (HB.out.trans (hb.mono HB.out.size))
      have HX1 := Lib.hid (HX1.out.below hb)
      have HX2 := Lib.hid (HX2.out.below hb)
      clear hb
      obtain ⟨z1, c10, c11, _, _⟩ := HX1.out
      obtain ⟨z2, c20, c21, _, _⟩ := HX2.out
      go_wp2_with fail
      clear c10 c11 z1 c20 c21 z2
      refine (K3.out _ (HM.out.below HB.out)).mono ?_
      rintro e w5 ⟨rfl, hb⟩
      have HB := Lib.hid (HB.out.trans (hb.mono HB.out.size))
      have HX1 := Lib.hid (HX1.out.below hb)
      have HX2 := Lib.hid (HX2.out.below hb)
      clear hb
      obtain ⟨z1, c10, c11, _, _⟩ := HX1.out
      obtain ⟨z2, c20, c21, _, _⟩ := HX2.out
      go_wp2_with fail
      clear c10 c11 z1 c20 c21 z2
      refine (K4.out _ (HM.out.below HB.out)).mono ?_
      rintro e w6 ⟨rfl, hb⟩
      have HB := Lib.hid (HB.out.trans (hb.mono HB.out.size))
      have HX1 := Lib.hid (HX1.out.below hb)
      have HX2 := Lib.hid (HX2.out.below hb)
      clear hb
      obtain ⟨z1, c10, c11, _, _⟩ := HX1.out
      obtain ⟨z2, c20, c21, _, _⟩ := HX2.out
      go_upto_region 4 with fail
      clear c10 c11 z1 c20 c21 z2
      have HA := Lib.hid (below1 w6 (.cells #[.int .i64 (jl), .int .u16 ((jx : Nat) : Int)] 26))
      obtain ⟨W, hW⟩ : ∃ W, W = w6.alloc (.cells #[.int .i64 (jl), .int .u16 ((jx : Nat) : Int)] 26) := ⟨_, rfl⟩
      rw [← hW]
      have HBW : Hid (Below w.heap.size w W) := Lib.hid (by rw [hW]; exact HB.out.trans (HA.out.mono HB.out.size))
      have HX1 : Hid (LBx w.heap.size a x W) := Lib.hid (by rw [hW]; exact HX1.out.below HA.out)
      have HX2 : Hid (LBx (w.heap.size + 1) b y W) := Lib.hid (by rw [hW]; exact HX2.out.below HA.out)
      have HX3 : Hid (LBx w6.heap.size jl jx W) := Lib.hid (by rw [hW]; exact LBx.mk w6 jl jx)
      clear hW HA
      obtain ⟨z1, c10, c11, _, _⟩ := HX1.out
      obtain ⟨z2, c20, c21, _, _⟩ := HX2.out
      obtain ⟨z3, c30, c31, _, _⟩ := HX3.out
      have HMW := Lib.hid (HM.out.below HBW.out)
      have K5 : Hid (∀ w', (fun w' => (∀ b o, b < (W).heap.size → w'.cell? ⟨b, o, none⟩ = (W).cell? ⟨b, o, none⟩) ∧ Below (W).heap.size (W) w') w' → Calls Tryd.prog 36 #[(.agg #[.int .i64 (a), .int .u16 ((x : Nat) : Int)])] w' fun e w'' => e = .returned (.string TA) ∧ Below w'.heap.size w' w'') := Lib.hid (fun w' h => K5.out w' (HMW.out.below h.2))
      have K6 : Hid (∀ w', (fun w' => (∀ b o, b < (W).heap.size → w'.cell? ⟨b, o, none⟩ = (W).cell? ⟨b, o, none⟩) ∧ Below (W).heap.size (W) w') w' → Calls Tryd.prog 36 #[(.agg #[.int .i64 (b), .int .u16 ((y : Nat) : Int)])] w' fun e w'' => e = .returned (.string TB) ∧ Below w'.heap.size w' w'') := Lib.hid (fun w' h => K6.out w' (HMW.out.below h.2))
      clear HX1 HX2 HX3 HB
      generalize w.heap.size + 1 = b2 at *
      generalize w6.heap.size = b3 at *
      have hE := HE.out
      have hS := HS.out
      have hZ := HZ.out
      clear HE HS HZ
      refine wp_region_held_drew (S := (fun w' => (∀ b o, b < (W).heap.size → w'.cell? ⟨b, o, none⟩ = (W).cell? ⟨b, o, none⟩) ∧ Below (W).heap.size (W) w')) (by kernel_rfl) (stay0 _) (fun hHeld => ?_)
      try dsimp only [List.size_toArray, List.length_cons, List.length_nil]
      refine takeL (i := 0) rfl (v := ?v0a) (by kernel_rfl) (by kernel_rfl) (by kernel_rfl) (fun _ _ _ h => h) (Or.inl ⟨by rfl, fun _w _hSw => ?hy0a⟩) (by assumption) ?rest0a
      case hy0a =>
        (try dsimp only at _hSw)
        go_simp
        try with_reducible rfl
      try simp only [Act.put, List.setIfInBounds_toArray, List.set_cons_zero, List.set_cons_succ]
      refine takeL (i := 2) rfl (v := ?v2a) (by kernel_rfl) (by kernel_rfl) (by kernel_rfl) (fun _ _ _ h => h) (Or.inl ⟨by rfl, fun _w _hSw => ?hy2a⟩) (by assumption) ?rest2a
      case hy2a =>
        (try dsimp only at _hSw)
        go_simp
        try with_reducible rfl
      try simp only [Act.put, List.setIfInBounds_toArray, List.set_cons_zero, List.set_cons_succ]
      refine takeL (i := 5) rfl (v := ?v5a) (by kernel_rfl) (by kernel_rfl) (by kernel_rfl) (fun _ _ _ h => h) (Or.inl ⟨by rfl, fun _w _hSw => ?hy5a⟩) (by assumption) ?rest5a
      case hy5a =>
        (try dsimp only at _hSw)
        go_simp
        try with_reducible rfl
      try simp only [Act.put, List.setIfInBounds_toArray, List.set_cons_zero, List.set_cons_succ]
      refine takeL (i := 6) rfl (v := ?v6a) (by kernel_rfl) (by kernel_rfl) (by kernel_rfl) (fun _ _ _ h => h) (Or.inl ⟨by rfl, fun _w _hSw => ?hy6a⟩) (by assumption) ?rest6a
      case hy6a =>
        (try dsimp only at _hSw)
        go_simp
        try with_reducible rfl
      try simp only [Act.put, List.setIfInBounds_toArray, List.set_cons_zero, List.set_cons_succ]
      refine takeL (i := 7) rfl (v := ?v7a) (by kernel_rfl) (by kernel_rfl) (by kernel_rfl) (fun _ _ _ h => h) (Or.inl ⟨by rfl, fun _w _hSw => ?hy7a⟩) (by assumption) ?rest7a
      case hy7a =>
        (try dsimp only at _hSw)
        go_simp
        try with_reducible rfl
      try simp only [Act.put, List.setIfInBounds_toArray, List.set_cons_zero, List.set_cons_succ]
      refine wpAnyH_ready (rs := [1]) (by kernel_rfl) (by simp) (readyL rfl (fun K hK => ?_) AllReadyH.nil)
      go_simp
      with_reducible refine (K5.out _ ‹_›).mono ?_
      rintro e w' ⟨rfl, hb⟩
      try dsimp only
      refine hK.out _ _ (stay ‹_› ‹_›) (fun hHeld => ?_)
      clear hK K
      try simp only [Act.put, List.setIfInBounds_toArray, List.set_cons_zero, List.set_cons_succ]
      refine wpAnyH_ready (rs := [3]) (by kernel_rfl) (by simp) (readyL rfl (fun K hK => ?_) AllReadyH.nil)
      go_simp
      with_reducible refine (K6.out _ ‹_›).mono ?_
      rintro e w' ⟨rfl, hb⟩
      try dsimp only
      refine hK.out _ _ (stay ‹_› ‹_›) (fun hHeld => ?_)
      clear hK K
      try simp only [Act.put, List.setIfInBounds_toArray, List.set_cons_zero, List.set_cons_succ]
      refine takeL (i := 4) rfl (v := ?v4a) (by kernel_rfl) (by kernel_rfl) (by kernel_rfl) (fun _ _ _ h => h) (Or.inl ⟨by rfl, fun _w _hSw => ?hy4a⟩) (by assumption) ?rest4a
      case hy4a =>
        (try dsimp only at _hSw)
        go_simp
        try with_reducible rfl
      try simp only [Act.put, List.setIfInBounds_toArray, List.set_cons_zero, List.set_cons_succ]
      refine takeL (i := 8) rfl (v := ?v8a) (by kernel_rfl) (by kernel_rfl) (by kernel_rfl) (fun _ _ _ h => h) (Or.inl ⟨by rfl, fun _w _hSw => ?hy8a⟩) (by assumption) ?rest8a
      case hy8a =>
        (try dsimp only at _hSw)
        go_simp
        try with_reducible rfl
      try simp only [Act.put, List.setIfInBounds_toArray, List.set_cons_zero, List.set_cons_succ]
      refine takeL (i := 9) rfl (v := ?v9a) (by kernel_rfl) (by kernel_rfl) (by kernel_rfl) (fun _ _ _ h => h) (Or.inl ⟨by rfl, fun _w _hSw => ?hy9a⟩) (by assumption) ?rest9a
      case hy9a =>
        (try dsimp only at _hSw)
        go_simp
        try with_reducible rfl
      try simp only [Act.put, List.setIfInBounds_toArray, List.set_cons_zero, List.set_cons_succ]
      refine takeL (i := 10) rfl (v := ?v10a) (by kernel_rfl) (by kernel_rfl) (by kernel_rfl) (fun _ _ _ h => h) (Or.inl ⟨by rfl, fun _w _hSw => ?hy10a⟩) (by assumption) ?rest10a
      case hy10a =>
        (try dsimp only at _hSw)
        go_simp
        try with_reducible rfl
      try simp only [Act.put, List.setIfInBounds_toArray, List.set_cons_zero, List.set_cons_succ]
      refine takeL (i := 11) rfl (v := ?v11a) (by kernel_rfl) (by kernel_rfl) (by kernel_rfl) (fun _ _ _ h => h) (Or.inl ⟨by rfl, fun _w _hSw => ?hy11a⟩) (by assumption) ?rest11a
      case hy11a =>
        (try dsimp only at _hSw)
        go_simp
        try with_reducible rfl
      try simp only [Act.put, List.setIfInBounds_toArray, List.set_cons_zero, List.set_cons_succ]
      refine takeL (i := 12) rfl (v := ?v12a) (by kernel_rfl) (by kernel_rfl) (by kernel_rfl) (fun _ _ _ h => h) (Or.inl ⟨by rfl, fun _w _hSw => ?hy12a⟩) (by assumption) ?rest12a
      case hy12a =>
        (try dsimp only at _hSw)
        go_simp
        try with_reducible rfl
      try simp only [Act.put, List.setIfInBounds_toArray, List.set_cons_zero, List.set_cons_succ]
      refine takeL (i := 13) rfl (v := ?v13a) (by kernel_rfl) (by kernel_rfl) (by kernel_rfl) (fun _ _ _ h => h) (Or.inl ⟨by rfl, fun _w _hSw => ?hy13a⟩) (by assumption) ?rest13a
      case hy13a =>
        (try dsimp only at _hSw)
        go_simp
        try with_reducible rfl
      try simp only [Act.put, List.setIfInBounds_toArray, List.set_cons_zero, List.set_cons_succ]
      refine takeL (i := 14) rfl (v := ?v14a) (by kernel_rfl) (by kernel_rfl) (by kernel_rfl) (fun _ _ _ h => h) (Or.inl ⟨by rfl, fun _w _hSw => ?hy14a⟩) (by assumption) ?rest14a
      case hy14a =>
        (try dsimp only at _hSw)
        go_simp
        try with_reducible rfl
      try simp only [Act.put, List.setIfInBounds_toArray, List.set_cons_zero, List.set_cons_succ]
      refine takeL (i := 15) rfl (v := ?v15a) (by kernel_rfl) (by kernel_rfl) (by kernel_rfl) (fun _ _ _ h => h) (Or.inl ⟨by rfl, fun _w _hSw => ?hy15a⟩) (by assumption) ?rest15a
      case hy15a =>
        (try dsimp only at _hSw)
        go_simp
        try with_reducible rfl
      try simp only [Act.put, List.setIfInBounds_toArray, List.set_cons_zero, List.set_cons_succ]
      refine wpAnyH_ready (rs := [16]) (by kernel_rfl) (by simp) (readyL rfl (fun K hK => ?_) AllReadyH.nil)
      go_simp
      with_reducible refine (K1.out _).mono ?_
      rintro e w' ⟨rfl, hb⟩
      try dsimp only
      refine hK.out _ _ (stay ‹_› ‹_›) (fun hHeld => ?_)
      clear hK K
      try simp only [Act.put, List.setIfInBounds_toArray, List.set_cons_zero, List.set_cons_succ]
      refine takeL (i := 17) rfl (v := ?v17a) (by kernel_rfl) (by kernel_rfl) (by kernel_rfl) (fun _ _ _ h => h) (Or.inl ⟨by rfl, fun _w _hSw => ?hy17a⟩) (by assumption) ?rest17a
      case hy17a =>
        (try dsimp only at _hSw)
        go_simp
        try with_reducible rfl
      try simp only [Act.put, List.setIfInBounds_toArray, List.set_cons_zero, List.set_cons_succ]
      refine takeL (i := 18) rfl (v := ?v18a) (by kernel_rfl) (by kernel_rfl) (by kernel_rfl) (fun _ _ _ h => h) (Or.inl ⟨by rfl, fun _w _hSw => ?hy18a⟩) (by assumption) ?rest18a
      case hy18a =>
        (try dsimp only at _hSw)
        go_simp
        try with_reducible rfl
      try simp only [Act.put, List.setIfInBounds_toArray, List.set_cons_zero, List.set_cons_succ]
      refine takeL (i := 19) rfl (v := ?v19a) (by kernel_rfl) (by kernel_rfl) (by kernel_rfl) (fun _ _ _ h => h) (Or.inl ⟨by rfl, fun _w _hSw => ?hy19a⟩) (by assumption) ?rest19a
      case hy19a =>
        (try dsimp only at _hSw)
        go_simp
        try with_reducible rfl
      try simp only [Act.put, List.setIfInBounds_toArray, List.set_cons_zero, List.set_cons_succ]
      refine takeL (i := 20) rfl (v := ?v20a) (by kernel_rfl) (by kernel_rfl) (by kernel_rfl) (fun _ _ _ h => h) (Or.inl ⟨by rfl, fun _w _hSw => ?hy20a⟩) (by assumption) ?rest20a
      case hy20a =>
        (try dsimp only at _hSw)
        go_simp
        try with_reducible rfl
      try simp only [Act.put, List.setIfInBounds_toArray, List.set_cons_zero, List.set_cons_succ]
      refine wpAnyH_ready (rs := [21]) (by kernel_rfl) (by simp) (readyL rfl (fun K hK => ?_) AllReadyH.nil)
      go_simp
      with_reducible refine (K2.out _).mono ?_
      rintro e w' ⟨rfl, hb⟩
      try dsimp only
      refine hK.out _ _ (stay ‹_› ‹_›) (fun hHeld => ?_)
      clear hK K
      try simp only [Act.put, List.setIfInBounds_toArray, List.set_cons_zero, List.set_cons_succ]
      refine takeL (i := 22) rfl (v := ?v22a) (by kernel_rfl) (by kernel_rfl) (by kernel_rfl) (fun _ _ _ h => h) (Or.inl ⟨by rfl, fun _w _hSw => ?hy22a⟩) (by assumption) ?rest22a
      case hy22a =>
        (try dsimp only at _hSw)
        go_simp
        try with_reducible rfl
      try simp only [Act.put, List.setIfInBounds_toArray, List.set_cons_zero, List.set_cons_succ]
      refine takeL (i := 23) rfl (v := ?v23a) (by kernel_rfl) (by kernel_rfl) (by kernel_rfl) (fun _ _ _ h => h) (Or.inl ⟨by rfl, fun _w _hSw => ?hy23a⟩) (by assumption) ?rest23a
      case hy23a =>
        (try dsimp only at _hSw)
        go_simp
        try with_reducible rfl
      try simp only [Act.put, List.setIfInBounds_toArray, List.set_cons_zero, List.set_cons_succ]
      refine takeL (i := 24) rfl (v := ?v24a) (by kernel_rfl) (by kernel_rfl) (by kernel_rfl) (fun _ _ _ h => h) (Or.inl ⟨by rfl, fun _w _hSw => ?hy24a⟩) (by assumption) ?rest24a
      case hy24a =>
        (try dsimp only at _hSw)
        go_simp
        try with_reducible rfl
      try simp only [Act.put, List.setIfInBounds_toArray, List.set_cons_zero, List.set_cons_succ]
      refine wpAnyH_ready (rs := [25]) (by kernel_rfl) (by simp) (readyL rfl (fun K hK => ?_) AllReadyH.nil)
      go_simp
      with_reducible refine (K5.out _ ‹_›).mono ?_
      rintro e w' ⟨rfl, hb⟩
      try dsimp only
      refine hK.out _ _ (stay ‹_› ‹_›) (fun hHeld => ?_)
      clear hK K
      try simp only [Act.put, List.setIfInBounds_toArray, List.set_cons_zero, List.set_cons_succ]
      refine takeL (i := 26) rfl (v := ?v26a) (by kernel_rfl) (by kernel_rfl) (by kernel_rfl) (fun _ _ _ h => h) (Or.inl ⟨by rfl, fun _w _hSw => ?hy26a⟩) (by assumption) ?rest26a
      case hy26a =>
        (try dsimp only at _hSw)
        go_simp
        try with_reducible rfl
      try simp only [Act.put, List.setIfInBounds_toArray, List.set_cons_zero, List.set_cons_succ]
      refine takeL (i := 27) rfl (v := ?v27a) (by kernel_rfl) (by kernel_rfl) (by kernel_rfl) (fun _ _ _ h => h) (Or.inl ⟨by rfl, fun _w _hSw => ?hy27a⟩) (by assumption) ?rest27a
      case hy27a =>
        (try dsimp only at _hSw)
        go_simp
        try with_reducible rfl
      try simp only [Act.put, List.setIfInBounds_toArray, List.set_cons_zero, List.set_cons_succ]
      refine takeL (i := 28) rfl (v := ?v28a) (by kernel_rfl) (by kernel_rfl) (by kernel_rfl) (fun _ _ _ h => h) (Or.inl ⟨by rfl, fun _w _hSw => ?hy28a⟩) (by assumption) ?rest28a
      case hy28a =>
        (try dsimp only at _hSw)
        go_simp
        try with_reducible rfl
      try simp only [Act.put, List.setIfInBounds_toArray, List.set_cons_zero, List.set_cons_succ]
      refine takeL (i := 29) rfl (v := ?v29a) (by kernel_rfl) (by kernel_rfl) (by kernel_rfl) (fun _ _ _ h => h) (Or.inl ⟨by rfl, fun _w _hSw => ?hy29a⟩) (by assumption) ?rest29a
      case hy29a =>
        (try dsimp only at _hSw)
        go_simp
        try with_reducible rfl
      try simp only [Act.put, List.setIfInBounds_toArray, List.set_cons_zero, List.set_cons_succ]
      refine wpAnyH_done (by kernel_rfl) ?_ _
      go_wp2_with fail
      go_wp2
      go_ret
      exact ⟨by simp, stayEnd HBW.out HBW.out.size ‹_›⟩

theorem okI_of {n : Int} (h : (Lit.int .i64 n).wf = true) : okI n := by
  simp [Lit.wf, IntKind.min, IntKind.max, IntKind.bits, IntKind.signed] at h
  exact ⟨by omega, by omega⟩
set_option maxRecDepth 100000 in
theorem labelTexts_lifted (os : Os) (started : os.Started) (H : Type) (enc : TypeId × Value → H) :
    ReturnsInHanded {} Tryd.checked os 8 .any (fun w args => (Rows.labelTextsSpec.pre enc Tryd.prog Tryd.f8 [] false w args ∧ laidMetH Tryd.prog laidL w) ∧ sizedMet enc Tryd.prog Tryd.f8 (OpenSpec.ofChange Rows.labelTextsSpec) false w args) (Rows.labelTextsSpec.post enc Tryd.prog Tryd.f8 false true false false) := by
  refine law_liftD started Tryd.func8 (by kernel_rfl) (by kernel_rfl) rfl (by kernel_rfl) ?_
    (ChangeSpec.witness_shaped (enc := enc) (C := Tryd.checked) (os := os) (X := fun w _ => laidMetH Tryd.prog laidL w) false (World.doorLaid Tryd.prog 69 os) #[.agg #[.int .i64 0, .int .u16 0], .agg #[.int .i64 0, .int .u16 0]] 8 rfl (World.shaped_of_RefB (by kernel_rfl) (by kernel_rfl)) (by kernel_rfl) (by kernel_rfl) (by kernel_rfl) (door_met os _)) ?_
  · intro ds hd
    rw [Tryd.params8] at hd
    match ds, hd with
    | [d0, d1], _ => rfl
  · intro W base args ds ps hM hval hA
    rw [Tryd.params8] at hA hval
    obtain ⟨v0, vs0, d0, ds0, p0, q0, hargs, rfl, rfl, h0, r0⟩ := trodAll_cons hA
    obtain ⟨v1, vs1, d1, ds1, p1, q1, rfl, rfl, rfl, h1, r1⟩ := trodAll_cons r0
    obtain ⟨rfl, rfl, rfl⟩ := trodAll_nil r1
    obtain rfl : args = #[v0, v1] := by cases args; simp_all
    obtain ⟨cs0, rfl, n0, y0, g0⟩ := open_struct fields26 (hval 0 26 v0 rfl rfl) h0
    obtain ⟨a0, x0, _, hx0, rfl⟩ := lbl_of g0
    obtain ⟨cs1, rfl, n1, y1, g1⟩ := open_struct fields26 (hval 1 26 v1 rfl rfl) h1
    obtain ⟨a1, x1, _, hx1, rfl⟩ := lbl_of g1
    exact labelTexts_walk a0 a1 x0 x1 hx0 hx1 _ hM

theorem labelTexts_row : Rows.LabelTextsSaid :=
  OpenClaim.holds_of_wide 8 Tryd.f8 rfl rfl rfl rfl rfl rfl rfl ⟨rfl, rfl, rfl, rfl, rfl⟩ rfl rfl rfl rfl rfl (by kernel_rfl) Tryd.func8 (by kernel_rfl)
    (of_decide_eq_true (by kernel_rfl)) (by unfold Func.isWrapper; first | (rw [if_pos (by decide +kernel)]; kernel_rfl) | (rw [if_neg (by decide +kernel)]; exact ⟨rfl, rfl⟩))
    (fun os started H enc _ => labelTexts_lifted os started H enc)
theorem labelTexts_holds : Rows.LabelTextsCardSaid :=
  Claim7.holds_tied_plain_at .later [] [.data, .data, .data, .sentinel, .sentinel] true (true, "cfe63c5658b6bd1a0fc7e38934e65126801f8a0fa6b3d3db120216d21a504323") true
    labelTexts_row (fun _ h => by cases h) (by kernel_rfl) (fun _ h => by cases h) labelTexts_row_tie rfl ⟨rfl, rfl⟩ (by kernel_rfl) rfl
    (fun f fn hf hfn => by
      obtain rfl : f = 8 := Option.some.inj ((show Tryd.prog.funcNamed "lockage/lockagelaw01.LabelTexts" = some 8 by kernel_rfl).symm.trans hf) |>.symm
      obtain rfl : fn = Tryd.f8 := (Option.some.inj (Tryd.func8.symm.trans hfn)).symm
      exact ⟨by kernel_rfl, fun j t ht => by
        rw [Tryd.params8] at ht
        have hm : t ∈ [26, 26] := by simpa using Array.mem_of_getElem? ht
        have hall : ([26, 26].all fun u => !Tryd.prog.wantsStandIn u) = true := by kernel_rfl
        exact (show Tryd.prog.wantsStandIn t = false by simpa using List.all_eq_true.1 hall t hm)⟩)
    (by kernel_rfl)
end Go.Proofs.YtpkmgdpnimecfabDoor

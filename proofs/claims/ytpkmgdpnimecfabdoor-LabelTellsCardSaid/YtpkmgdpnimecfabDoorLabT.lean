/- LabelTells: of any two labels all that is told is the document's. Every input. -/
import Derived.Test.YtpkmgdpnimecfabDoorLat
import Derived.Test.YtpkmgdpnimecfabDoorAwk1
import Derived.Test.YtpkmgdpnimecfabDoorOpn
import Derived.Test.YtpkmgdpnimecfabDoorTk
namespace Go.Proofs.YtpkmgdpnimecfabDoor
open Go.ChangeShapes Go.WideShapes Go.ChangeAt Go.RowKit

set_option maxRecDepth 100000 in
set_option maxHeartbeats 16000000 in
theorem labelTells_walk (a b : Int) (x y : Nat) (hx : x < 65536) (hy : y < 65536) (w : World) (hM : Met w) :
    Calls Tryd.prog 4 #[(.agg #[.int .i64 (a), .int .u16 ((x : Nat) : Int)]), (.agg #[.int .i64 (b), .int .u16 ((y : Nat) : Int)])] w fun e w' => e = .returned (.bool true) ∧ Below w.heap.size w w' := by
  have HM := Lib.hid hM
  have k23 := fun W => ref01Right a x W
  have k26 := fun W => labelRight a x W
  have k24 := fun h W => ref01Text a x h hx W
  have k36 := fun W (h : Met W) => labelText a x hx W h
  have HT := Lib.hid (show rightLv a = false → (⟨(txtL a x).toArray⟩ : ByteArray) = ⟨#[]⟩ from fun h => by rw [txtL_wrong h])
  generalize (⟨(txtL a x).toArray⟩ : ByteArray) = T at k24 k36 HT
  have k27 := fun W => labelJoin a b x y hx hy W
  have k19 := fun W => ref01Join a b x y hx hy W
  have k28 := fun W => labelMeet a b x y hx hy W
  have k29 := fun W => ref01Meet a b x y hx hy W
  have k30 := fun W => labelLeq a b x y hx hy W
  have k31 := fun W => ref01Leq a b x y hx hy W
  have k32 := fun W => labelLess a b x y hx hy W
  have k33 := fun W => labelOff a b x y hx hy W
  have k34 := fun W => ref01Off a b x y hx hy W
  have k35 := fun W => labelOver a b x y hx hy W
  have k41 := fun W => ref01Leq b a y x hy hx W
  have hN := fun W => run_neqL' a b x y W
  have hJ := fun W => run_eqL' (joinLv a b) (joinLv a b) (mOr x y) (mOr x y) W
  rw [sameB_self] at hJ
  have hQ := fun W => run_eqL' (meetLv a b) (meetLv a b) (mAnd x y) (mAnd x y) W
  rw [sameB_self] at hQ
  have hO := fun W => run_eqL' (offLv a b) (offLv a b) (mNot x y) (mNot x y) W
  rw [sameB_self] at hO
  unfold lessB at k32
  generalize joinLv a b = jl at k27 k19 hJ
  generalize mOr x y = jx at k27 k19 hJ
  generalize meetLv a b = ml at k28 k29 hQ
  generalize mAnd x y = mx at k28 k29 hQ
  generalize offLv a b = ol at k33 k34 hO
  generalize mNot x y = ox at k33 k34 hO
  generalize leqB a x b y = q at k30 k31 k32
  generalize sameB a x b y = sm at k32 hN
  generalize leqB b y a x = p at k35 k41
  have hgu := eqGuard26
  have K24 := Lib.hid k24
  clear k24
  generalize hra : rightLv a = r at k23 k26 HT
  have RA := Lib.hid hra
  clear hra
  have K23 := Lib.hid k23
  have K26 := Lib.hid k26
  have K36 := Lib.hid k36
  have K27 := Lib.hid k27
  have K19 := Lib.hid k19
  have K28 := Lib.hid k28
  have K29 := Lib.hid k29
  have K30 := Lib.hid k30
  have K31 := Lib.hid k31
  have K32 := Lib.hid k32
  have K33 := Lib.hid k33
  have K34 := Lib.hid k34
  have K35 := Lib.hid k35
  have K41 := Lib.hid k41
  clear hM hx hy k23 k26 k36 k27 k19 k28 k29 k30 k31 k32 k33 k34 k35 k41
  go_enter Tryd.func4, Tryd.ntmps4
  have HB := Lib.hid (below1 w (.cells #[.int .i64 (a), .int .u16 ((x : Nat) : Int)] 26))
  have HX1 := Lib.hid (LBx.mk w a x)
  have HA := Lib.hid (below1 (w.alloc (.cells #[.int .i64 a, .int .u16 ((x : Nat) : Int)] 26)) (.cells #[.int .i64 (b), .int .u16 ((y : Nat) : Int)] 26))
  have HB := Lib.hid (HB.out.trans (HA.out.mono HB.out.size))
  have HX1 := Lib.hid (HX1.out.below HA.out)
  have HX2 := Lib.hid (LBx.mk2 (b := w.heap.size + 1) (w.alloc (.cells #[.int .i64 a, .int .u16 ((x : Nat) : Int)] 26)) (b) (y) (by simp))
  obtain ⟨z1, c10, c11, _, _⟩ := HX1.out
  obtain ⟨z2, c20, c21, _, _⟩ := HX2.out
  go_wp2_with fail
  clear c10 c11 z1 c20 c21 z2
  refine (K23.out _).mono ?_
  rintro e w1 ⟨rfl, hb⟩
  have HB := Lib.hid (HB.out.trans (hb.mono HB.out.size))
  have HX1 := Lib.hid (HX1.out.below hb)
  have HX2 := Lib.hid (HX2.out.below hb)
  clear hb
  obtain ⟨z1, c10, c11, _, _⟩ := HX1.out
  obtain ⟨z2, c20, c21, _, _⟩ := HX2.out
  go_upto_if 9 with fail
  go_cut [6] (fun s6 wx => s6 = .string T ∧ Below w.heap.size w wx ∧ LBx w.heap.size a x wx ∧ LBx (w.heap.size + 1) b y wx)
  case first =>
    cases r with
    | false =>
      go_wp2_with fail
      go_meet
      case rel => exact ⟨by rw [HT.out (by trivial)], HB.out, HX1.out, HX2.out⟩
    | true =>
      go_wp2_with fail
      refine (K24.out RA.out _).mono ?_
      rintro e w2 ⟨rfl, hb⟩
      have HB := Lib.hid (HB.out.trans (hb.mono HB.out.size))
      have HX1 := Lib.hid (HX1.out.below hb)
      have HX2 := Lib.hid (HX2.out.below hb)
      clear hb
      go_wp2_with fail
      go_meet
      case rel => exact ⟨rfl, HB.out, HX1.out, HX2.out⟩
  case rest =>
    obtain ⟨rfl, hBW, hX1, hX2⟩ := hcut
    have HBW := Lib.hid hBW
    clear HB HX1 HX2 c10 c11 c20 c21 z1 z2
    obtain ⟨z1, c10, c11, _, _⟩ := hX1
    obtain ⟨z2, c20, c21, _, _⟩ := hX2
    clear hBW
    generalize w.heap.size + 1 = b2 at *
    go_upto_region 5 with fail
    simp only [List.append_eq, List.cons_append, List.nil_append]
    have HMW := Lib.hid (HM.out.below HBW.out)
    have K25 : Hid (∀ w', (fun w' => (∀ b o, b < (wc).heap.size → w'.cell? ⟨b, o, none⟩ = (wc).cell? ⟨b, o, none⟩) ∧ Below (wc).heap.size (wc) w') w' → Calls Tryd.prog 25 #[] w' fun e w'' => e = .returned (.bool true) ∧ Below w'.heap.size w' w'') := Lib.hid (fun w' h => awake01 w' (HMW.out.below h.2))
    have K36 : Hid (∀ w', (fun w' => (∀ b o, b < (wc).heap.size → w'.cell? ⟨b, o, none⟩ = (wc).cell? ⟨b, o, none⟩) ∧ Below (wc).heap.size (wc) w') w' → Calls Tryd.prog 36 #[(.agg #[.int .i64 (a), .int .u16 ((x : Nat) : Int)])] w' fun e w'' => e = .returned (.string T) ∧ Below w'.heap.size w' w'') := Lib.hid (fun w' h => K36.out w' (HMW.out.below h.2))
    cases q with
    | true =>
      refine wp_region_held_drew (S := (fun w' => (∀ b o, b < (wc).heap.size → w'.cell? ⟨b, o, none⟩ = (wc).cell? ⟨b, o, none⟩) ∧ Below (wc).heap.size (wc) w')) (by kernel_rfl) (stay0 _) (fun hHeld => ?_)
      try dsimp only [List.size_toArray, List.length_cons, List.length_nil]
      refine wpAnyH_ready (rs := [0]) (by kernel_rfl) (by simp) (readyL rfl (fun K hK => ?_) AllReadyH.nil)
      go_simp
      with_reducible refine (K25.out _ ‹_›).mono ?_
      rintro e w' ⟨rfl, hb⟩
      try dsimp only
      refine hK.out _ _ (stay ‹_› ‹_›) (fun hHeld => ?_)
      clear hK K
      try simp only [Act.put, List.setIfInBounds_toArray, List.set_cons_zero, List.set_cons_succ]
      refine takeL (i := 1) rfl (v := ?v1a) (by kernel_rfl) (by kernel_rfl) (by kernel_rfl) (fun _ _ _ h => h) (Or.inl ⟨by rfl, fun _w _hSw => ?hy1a⟩) (by assumption) ?rest1a
      case hy1a =>
        (try dsimp only at _hSw)
        go_simp
        try with_reducible rfl
      try simp only [Act.put, List.setIfInBounds_toArray, List.set_cons_zero, List.set_cons_succ]
      refine takeL (i := 2) rfl (v := ?v2a) (by kernel_rfl) (by kernel_rfl) (by kernel_rfl) (fun _ _ _ h => h) (Or.inl ⟨by rfl, fun _w _hSw => ?hy2a⟩) (by assumption) ?rest2a
      case hy2a =>
        (try dsimp only at _hSw)
        go_simp
        try with_reducible rfl
      try simp only [Act.put, List.setIfInBounds_toArray, List.set_cons_zero, List.set_cons_succ]
      refine takeL (i := 4) rfl (v := ?v4a) (by kernel_rfl) (by kernel_rfl) (by kernel_rfl) (fun _ _ _ h => h) (Or.inl ⟨by rfl, fun _w _hSw => ?hy4a⟩) (by assumption) ?rest4a
      case hy4a =>
        (try dsimp only at _hSw)
        go_simp
        try with_reducible rfl
      try simp only [Act.put, List.setIfInBounds_toArray, List.set_cons_zero, List.set_cons_succ]
      refine wpAnyH_ready (rs := [3]) (by kernel_rfl) (by simp) (readyL rfl (fun K hK => ?_) AllReadyH.nil)
      go_simp
      with_reducible refine (K26.out _).mono ?_
      rintro e w' ⟨rfl, hb⟩
      try dsimp only
      refine hK.out _ _ (stay ‹_› ‹_›) (fun hHeld => ?_)
      clear hK K
      try simp only [Act.put, List.setIfInBounds_toArray, List.set_cons_zero, List.set_cons_succ]
      refine takeL (i := 5) rfl (v := ?v5a) (by kernel_rfl) (by kernel_rfl) (by kernel_rfl) (fun _ _ _ h => h) (Or.inl ⟨by rfl, fun _w _hSw => ?hy5a⟩) (by assumption) ?rest5a
      case hy5a =>
        (try dsimp only at _hSw)
        go_simp
        try with_reducible rfl
      try simp only [Act.put, List.setIfInBounds_toArray, List.set_cons_zero, List.set_cons_succ]
      refine takeL (i := 6) rfl (v := ?v6a) (by kernel_rfl) (by kernel_rfl) (by kernel_rfl) (fun _ _ _ h => h) (Or.inl ⟨by rfl, fun _w _hSw => ?hy6a⟩) (by assumption) ?rest6a
      case hy6a =>
        (try dsimp only at _hSw)
        go_simp
        try with_reducible rfl
      try simp only [Act.put, List.setIfInBounds_toArray, List.set_cons_zero, List.set_cons_succ]
      refine takeL (i := 7) rfl (v := ?v7a) (by kernel_rfl) (by kernel_rfl) (by kernel_rfl) (fun _ _ _ h => h) (Or.inl ⟨by rfl, fun _w _hSw => ?hy7a⟩) (by assumption) ?rest7a
      case hy7a =>
        (try dsimp only at _hSw)
        go_simp
        try with_reducible rfl
      try simp only [Act.put, List.setIfInBounds_toArray, List.set_cons_zero, List.set_cons_succ]
      refine takeL (i := 8) rfl (v := ?v8a) (by kernel_rfl) (by kernel_rfl) (by kernel_rfl) (fun _ _ _ h => h) (Or.inl ⟨by rfl, fun _w _hSw => ?hy8a⟩) (by assumption) ?rest8a
      case hy8a =>
        (try dsimp only at _hSw)
        go_simp
        try with_reducible rfl
      try simp only [Act.put, List.setIfInBounds_toArray, List.set_cons_zero, List.set_cons_succ]
      refine takeL (i := 9) rfl (v := ?v9a) (by kernel_rfl) (by kernel_rfl) (by kernel_rfl) (fun _ _ _ h => h) (Or.inl ⟨by rfl, fun _w _hSw => ?hy9a⟩) (by assumption) ?rest9a
      case hy9a =>
        (try dsimp only at _hSw)
        go_simp
        try with_reducible rfl
      try simp only [Act.put, List.setIfInBounds_toArray, List.set_cons_zero, List.set_cons_succ]
      refine takeL (i := 11) rfl (v := ?v11a) (by kernel_rfl) (by kernel_rfl) (by kernel_rfl) (fun _ _ _ h => h) (Or.inl ⟨by rfl, fun _w _hSw => ?hy11a⟩) (by assumption) ?rest11a
      case hy11a =>
        (try dsimp only at _hSw)
        go_simp
        try with_reducible rfl
      try simp only [Act.put, List.setIfInBounds_toArray, List.set_cons_zero, List.set_cons_succ]
      refine takeL (i := 12) rfl (v := ?v12a) (by kernel_rfl) (by kernel_rfl) (by kernel_rfl) (fun _ _ _ h => h) (Or.inl ⟨by rfl, fun _w _hSw => ?hy12a⟩) (by assumption) ?rest12a
      case hy12a =>
        (try dsimp only at _hSw)
        go_simp
        try with_reducible rfl
      try simp only [Act.put, List.setIfInBounds_toArray, List.set_cons_zero, List.set_cons_succ]
      refine wpAnyH_ready (rs := [10]) (by kernel_rfl) (by simp) (readyL rfl (fun K hK => ?_) AllReadyH.nil)
      go_simp
      with_reducible refine (K27.out _).mono ?_
      rintro e w' ⟨rfl, hb⟩
      try dsimp only
      refine hK.out _ _ (stay ‹_› ‹_›) (fun hHeld => ?_)
      clear hK K
      try simp only [Act.put, List.setIfInBounds_toArray, List.set_cons_zero, List.set_cons_succ]
      refine wpAnyH_ready (rs := [13]) (by kernel_rfl) (by simp) (readyL rfl (fun K hK => ?_) AllReadyH.nil)
      go_simp
      with_reducible refine (K19.out _).mono ?_
      rintro e w' ⟨rfl, hb⟩
      try dsimp only
      refine hK.out _ _ (stay ‹_› ‹_›) (fun hHeld => ?_)
      clear hK K
      try simp only [Act.put, List.setIfInBounds_toArray, List.set_cons_zero, List.set_cons_succ]
      refine takeL (i := 14) rfl (v := ?v14a) (by kernel_rfl) (by kernel_rfl) (by kernel_rfl) (fun _ _ _ h => h) (Or.inl ⟨by rfl, fun _w _hSw => ?hy14a⟩) (by assumption) ?rest14a
      case hy14a =>
        (try dsimp only at _hSw)
        go_simp
        try with_reducible rfl
      try simp only [Act.put, List.setIfInBounds_toArray, List.set_cons_zero, List.set_cons_succ]
      refine takeL (i := 15) rfl (v := ?v15a) (by kernel_rfl) (by kernel_rfl) (by kernel_rfl) (fun _ _ _ h => h) (Or.inl ⟨by rfl, fun _w _hSw => ?hy15a⟩) (by assumption) ?rest15a
      case hy15a =>
        (try dsimp only at _hSw)
        go_simp
        try with_reducible rfl
      try simp only [Act.put, List.setIfInBounds_toArray, List.set_cons_zero, List.set_cons_succ]
      refine takeL (i := 16) rfl (v := ?v16a) (by kernel_rfl) (by kernel_rfl) (by kernel_rfl) (fun _ _ _ h => h) (Or.inl ⟨by rfl, fun _w _hSw => ?hy16a⟩) (by assumption) ?rest16a
      case hy16a =>
        (try dsimp only at _hSw)
        go_simp
        try with_reducible rfl
      try simp only [Act.put, List.setIfInBounds_toArray, List.set_cons_zero, List.set_cons_succ]
      refine takeL (i := 17) rfl (v := ?v17a) (by kernel_rfl) (by kernel_rfl) (by kernel_rfl) (fun _ _ _ h => h) (Or.inl ⟨by rfl, fun _w _hSw => ?hy17a⟩) (by assumption) ?rest17a
      case hy17a =>
        (try dsimp only at _hSw)
        go_simp
        try with_reducible rfl
      try simp only [Act.put, List.setIfInBounds_toArray, List.set_cons_zero, List.set_cons_succ]
      refine takeL (i := 18) rfl (v := ?v18a) (by kernel_rfl) (by kernel_rfl) (by kernel_rfl) (fun _ _ _ h => h) (Or.inl ⟨by rfl, fun _w _hSw => ?hy18a⟩) (by assumption) ?rest18a
      case hy18a =>
        (try dsimp only at _hSw)
        go_simp
        try with_reducible rfl
      try simp only [Act.put, List.setIfInBounds_toArray, List.set_cons_zero, List.set_cons_succ]
      refine takeL (i := 20) rfl (v := ?v20a) (by kernel_rfl) (by kernel_rfl) (by kernel_rfl) (fun _ _ _ h => h) (Or.inl ⟨by rfl, fun _w _hSw => ?hy20a⟩) (by assumption) ?rest20a
      case hy20a =>
        (try dsimp only at _hSw)
        go_simp
        try with_reducible rfl
      try simp only [Act.put, List.setIfInBounds_toArray, List.set_cons_zero, List.set_cons_succ]
      refine takeL (i := 21) rfl (v := ?v21a) (by kernel_rfl) (by kernel_rfl) (by kernel_rfl) (fun _ _ _ h => h) (Or.inl ⟨by rfl, fun _w _hSw => ?hy21a⟩) (by assumption) ?rest21a
      case hy21a =>
        (try dsimp only at _hSw)
        go_simp
        try with_reducible rfl
      try simp only [Act.put, List.setIfInBounds_toArray, List.set_cons_zero, List.set_cons_succ]
      refine wpAnyH_ready (rs := [19]) (by kernel_rfl) (by simp) (readyL rfl (fun K hK => ?_) AllReadyH.nil)
      go_simp
      with_reducible refine (K28.out _).mono ?_
      rintro e w' ⟨rfl, hb⟩
      try dsimp only
      refine hK.out _ _ (stay ‹_› ‹_›) (fun hHeld => ?_)
      clear hK K
      try simp only [Act.put, List.setIfInBounds_toArray, List.set_cons_zero, List.set_cons_succ]
      refine wpAnyH_ready (rs := [22]) (by kernel_rfl) (by simp) (readyL rfl (fun K hK => ?_) AllReadyH.nil)
      go_simp
      with_reducible refine (K29.out _).mono ?_
      rintro e w' ⟨rfl, hb⟩
      try dsimp only
      refine hK.out _ _ (stay ‹_› ‹_›) (fun hHeld => ?_)
      clear hK K
      try simp only [Act.put, List.setIfInBounds_toArray, List.set_cons_zero, List.set_cons_succ]
      refine takeL (i := 23) rfl (v := ?v23a) (by kernel_rfl) (by kernel_rfl) (by kernel_rfl) (fun _ _ _ h => h) (Or.inl ⟨by rfl, fun _w _hSw => ?hy23a⟩) (by assumption) ?rest23a
      case hy23a =>
        (try dsimp only at _hSw)
        go_simp
        try with_reducible rfl
      try simp only [Act.put, List.setIfInBounds_toArray, List.set_cons_zero, List.set_cons_succ]
      refine takeL (i := 24) rfl (v := ?v24a) (by kernel_rfl) (by kernel_rfl) (by kernel_rfl) (fun _ _ _ h => h) (Or.inl ⟨by rfl, fun _w _hSw => ?hy24a⟩) (by assumption) ?rest24a
      case hy24a =>
        (try dsimp only at _hSw)
        go_simp
        try with_reducible rfl
      try simp only [Act.put, List.setIfInBounds_toArray, List.set_cons_zero, List.set_cons_succ]
      refine takeL (i := 25) rfl (v := ?v25a) (by kernel_rfl) (by kernel_rfl) (by kernel_rfl) (fun _ _ _ h => h) (Or.inl ⟨by rfl, fun _w _hSw => ?hy25a⟩) (by assumption) ?rest25a
      case hy25a =>
        (try dsimp only at _hSw)
        go_simp
        try with_reducible rfl
      try simp only [Act.put, List.setIfInBounds_toArray, List.set_cons_zero, List.set_cons_succ]
      refine takeL (i := 26) rfl (v := ?v26a) (by kernel_rfl) (by kernel_rfl) (by kernel_rfl) (fun _ _ _ h => h) (Or.inl ⟨by rfl, fun _w _hSw => ?hy26a⟩) (by assumption) ?rest26a
      case hy26a =>
        (try dsimp only at _hSw)
        go_simp
        try with_reducible rfl
      try simp only [Act.put, List.setIfInBounds_toArray, List.set_cons_zero, List.set_cons_succ]
      refine takeL (i := 27) rfl (v := ?v27a) (by kernel_rfl) (by kernel_rfl) (by kernel_rfl) (fun _ _ _ h => h) (Or.inl ⟨by rfl, fun _w _hSw => ?hy27a⟩) (by assumption) ?rest27a
      case hy27a =>
        (try dsimp only at _hSw)
        go_simp
        try with_reducible rfl
      try simp only [Act.put, List.setIfInBounds_toArray, List.set_cons_zero, List.set_cons_succ]
      refine takeL (i := 29) rfl (v := ?v29a) (by kernel_rfl) (by kernel_rfl) (by kernel_rfl) (fun _ _ _ h => h) (Or.inl ⟨by rfl, fun _w _hSw => ?hy29a⟩) (by assumption) ?rest29a
      case hy29a =>
        (try dsimp only at _hSw)
        go_simp
        try with_reducible rfl
      try simp only [Act.put, List.setIfInBounds_toArray, List.set_cons_zero, List.set_cons_succ]
      refine takeL (i := 30) rfl (v := ?v30a) (by kernel_rfl) (by kernel_rfl) (by kernel_rfl) (fun _ _ _ h => h) (Or.inl ⟨by rfl, fun _w _hSw => ?hy30a⟩) (by assumption) ?rest30a
      case hy30a =>
        (try dsimp only at _hSw)
        go_simp
        try with_reducible rfl
      try simp only [Act.put, List.setIfInBounds_toArray, List.set_cons_zero, List.set_cons_succ]
      refine wpAnyH_ready (rs := [28]) (by kernel_rfl) (by simp) (readyL rfl (fun K hK => ?_) AllReadyH.nil)
      go_simp
      with_reducible refine (K30.out _).mono ?_
      rintro e w' ⟨rfl, hb⟩
      try dsimp only
      refine hK.out _ _ (stay ‹_› ‹_›) (fun hHeld => ?_)
      clear hK K
      try simp only [Act.put, List.setIfInBounds_toArray, List.set_cons_zero, List.set_cons_succ]
      refine wpAnyH_ready (rs := [31]) (by kernel_rfl) (by simp) (readyL rfl (fun K hK => ?_) AllReadyH.nil)
      go_simp
      with_reducible refine (K31.out _).mono ?_
      rintro e w' ⟨rfl, hb⟩
      try dsimp only
      refine hK.out _ _ (stay ‹_› ‹_›) (fun hHeld => ?_)
      clear hK K
      try simp only [Act.put, List.setIfInBounds_toArray, List.set_cons_zero, List.set_cons_succ]
      refine takeL (i := 32) rfl (v := ?v32a) (by kernel_rfl) (by kernel_rfl) (by kernel_rfl) (fun _ _ _ h => h) (Or.inl ⟨by rfl, fun _w _hSw => ?hy32a⟩) (by assumption) ?rest32a
      case hy32a =>
        (try dsimp only at _hSw)
        go_simp
        try with_reducible rfl
      try simp only [Act.put, List.setIfInBounds_toArray, List.set_cons_zero, List.set_cons_succ]
      refine takeL (i := 33) rfl (v := ?v33a) (by kernel_rfl) (by kernel_rfl) (by kernel_rfl) (fun _ _ _ h => h) (Or.inl ⟨by rfl, fun _w _hSw => ?hy33a⟩) (by assumption) ?rest33a
      case hy33a =>
        (try dsimp only at _hSw)
        go_simp
        try with_reducible rfl
      try simp only [Act.put, List.setIfInBounds_toArray, List.set_cons_zero, List.set_cons_succ]
      refine takeL (i := 34) rfl (v := ?v34a) (by kernel_rfl) (by kernel_rfl) (by kernel_rfl) (fun _ _ _ h => h) (Or.inl ⟨by rfl, fun _w _hSw => ?hy34a⟩) (by assumption) ?rest34a
      case hy34a =>
        (try dsimp only at _hSw)
        go_simp
        try with_reducible rfl
      try simp only [Act.put, List.setIfInBounds_toArray, List.set_cons_zero, List.set_cons_succ]
      refine takeL (i := 35) rfl (v := ?v35a) (by kernel_rfl) (by kernel_rfl) (by kernel_rfl) (fun _ _ _ h => h) (Or.inl ⟨by rfl, fun _w _hSw => ?hy35a⟩) (by assumption) ?rest35a
      case hy35a =>
        (try dsimp only at _hSw)
        go_simp
        try with_reducible rfl
      try simp only [Act.put, List.setIfInBounds_toArray, List.set_cons_zero, List.set_cons_succ]
      refine takeL (i := 36) rfl (v := ?v36a) (by kernel_rfl) (by kernel_rfl) (by kernel_rfl) (fun _ _ _ h => h) (Or.inl ⟨by rfl, fun _w _hSw => ?hy36a⟩) (by assumption) ?rest36a
      case hy36a =>
        (try dsimp only at _hSw)
        go_simp
        try with_reducible rfl
      try simp only [Act.put, List.setIfInBounds_toArray, List.set_cons_zero, List.set_cons_succ]
      refine takeL (i := 38) rfl (v := ?v38a) (by kernel_rfl) (by kernel_rfl) (by kernel_rfl) (fun _ _ _ h => h) (Or.inl ⟨by rfl, fun _w _hSw => ?hy38a⟩) (by assumption) ?rest38a
      case hy38a =>
        (try dsimp only at _hSw)
        go_simp
        try with_reducible rfl
      try simp only [Act.put, List.setIfInBounds_toArray, List.set_cons_zero, List.set_cons_succ]
      refine takeL (i := 39) rfl (v := ?v39a) (by kernel_rfl) (by kernel_rfl) (by kernel_rfl) (fun _ _ _ h => h) (Or.inl ⟨by rfl, fun _w _hSw => ?hy39a⟩) (by assumption) ?rest39a
      case hy39a =>
        (try dsimp only at _hSw)
        go_simp
        try with_reducible rfl
      try simp only [Act.put, List.setIfInBounds_toArray, List.set_cons_zero, List.set_cons_succ]
      refine wpAnyH_ready (rs := [37]) (by kernel_rfl) (by simp) (readyL rfl (fun K hK => ?_) AllReadyH.nil)
      go_simp
      with_reducible refine (K32.out _).mono ?_
      rintro e w' ⟨rfl, hb⟩
      try dsimp only
      refine hK.out _ _ (stay ‹_› ‹_›) (fun hHeld => ?_)
      clear hK K
      try simp only [Act.put, List.setIfInBounds_toArray, List.set_cons_zero, List.set_cons_succ]
      refine wpAnyH_ready (rs := [40]) (by kernel_rfl) (by simp) (readyL rfl (fun K hK => ?_) AllReadyH.nil)
      go_simp
      with_reducible refine (K31.out _).mono ?_
      rintro e w' ⟨rfl, hb⟩
      try dsimp only
      refine hK.out _ _ (stay ‹_› ‹_›) (fun hHeld => ?_)
      clear hK K
      try simp only [Act.put, List.setIfInBounds_toArray, List.set_cons_zero, List.set_cons_succ]
      refine takeL (i := 41) rfl (v := ?v41a) (by kernel_rfl) (by kernel_rfl) (by kernel_rfl) (fun _ _ _ h => h) (Or.inl ⟨by rfl, fun _w _hSw => ?hy41a⟩) (by assumption) ?rest41a
      case hy41a =>
        (try dsimp only at _hSw)
        go_simp
        try with_reducible rfl
      try simp only [Act.put, List.setIfInBounds_toArray, List.set_cons_zero, List.set_cons_succ]
      refine takeL (i := 42) rfl (v := ?v42a) (by kernel_rfl) (by kernel_rfl) (by kernel_rfl) (fun _ _ _ h => h) (Or.inl ⟨by rfl, fun _w _hSw => ?hy42a⟩) (by assumption) ?rest42a
      case hy42a =>
        (try dsimp only at _hSw)
        go_simp
        try with_reducible rfl
      try simp only [Act.put, List.setIfInBounds_toArray, List.set_cons_zero, List.set_cons_succ]
      refine takeL (i := 43) rfl (v := ?v43a) (by kernel_rfl) (by kernel_rfl) (by kernel_rfl) (fun _ _ _ h => h) (Or.inl ⟨by rfl, fun _w _hSw => ?hy43a⟩) (by assumption) ?rest43a
      case hy43a =>
        (try dsimp only at _hSw)
        go_simp
        try with_reducible rfl
      try simp only [Act.put, List.setIfInBounds_toArray, List.set_cons_zero, List.set_cons_succ]
      refine takeL (i := 44) rfl (v := ?v44a) (by kernel_rfl) (by kernel_rfl) (by kernel_rfl) (fun _ _ _ h => h) (Or.inl ⟨by rfl, fun _w _hSw => ?hy44a⟩) (by assumption) ?rest44a
      case hy44a =>
        (try dsimp only at _hSw)
        go_simp
        try with_reducible rfl
      try simp only [Act.put, List.setIfInBounds_toArray, List.set_cons_zero, List.set_cons_succ]
      refine takeL (i := 45) rfl (v := ?v45a) (by kernel_rfl) (by kernel_rfl) (by kernel_rfl) (fun _ _ _ h => h) (Or.inl ⟨by rfl, fun _w _hSw => ?hy45a⟩) (by assumption) ?rest45a
      case hy45a =>
        (try dsimp only at _hSw)
        go_simp
        try with_reducible rfl
      try simp only [Act.put, List.setIfInBounds_toArray, List.set_cons_zero, List.set_cons_succ]
      refine takeL (i := 46) rfl (v := ?v46a) (by kernel_rfl) (by kernel_rfl) (by kernel_rfl) (fun _ _ _ h => h) (Or.inl ⟨by rfl, fun _w _hSw => ?hy46a⟩) (by assumption) ?rest46a
      case hy46a =>
        (try dsimp only at _hSw)
        go_simp
        try with_reducible rfl
      try simp only [Act.put, List.setIfInBounds_toArray, List.set_cons_zero, List.set_cons_succ]
      refine takeL (i := 47) rfl (v := ?v47a) (by kernel_rfl) (by kernel_rfl) (by kernel_rfl) (fun _ _ _ h => h) (Or.inl ⟨by rfl, fun _w _hSw => ?hy47a⟩) (by assumption) ?rest47a
      case hy47a =>
        (try dsimp only at _hSw)
        go_simp
        try with_reducible rfl
      try simp only [Act.put, List.setIfInBounds_toArray, List.set_cons_zero, List.set_cons_succ]
      refine takeL (i := 48) rfl (v := ?v48a) (by kernel_rfl) (by kernel_rfl) (by kernel_rfl) (fun _ _ _ h => h) (Or.inl ⟨by rfl, fun _w _hSw => ?hy48a⟩) (by assumption) ?rest48a
      case hy48a =>
        (try dsimp only at _hSw)
        go_simp
        try with_reducible rfl
      try simp only [Act.put, List.setIfInBounds_toArray, List.set_cons_zero, List.set_cons_succ]
      refine takeL (i := 49) rfl (v := ?v49a) (by kernel_rfl) (by kernel_rfl) (by kernel_rfl) (fun _ _ _ h => h) (Or.inl ⟨by rfl, fun _w _hSw => ?hy49a⟩) (by assumption) ?rest49a
      case hy49a =>
        (try dsimp only at _hSw)
        go_simp
        try with_reducible rfl
      try simp only [Act.put, List.setIfInBounds_toArray, List.set_cons_zero, List.set_cons_succ]
      refine takeL (i := 50) rfl (v := ?v50a) (by kernel_rfl) (by kernel_rfl) (by kernel_rfl) (fun _ _ _ h => h) (Or.inl ⟨by rfl, fun _w _hSw => ?hy50a⟩) (by assumption) ?rest50a
      case hy50a =>
        (try dsimp only at _hSw)
        go_simp
        try with_reducible rfl
      try simp only [Act.put, List.setIfInBounds_toArray, List.set_cons_zero, List.set_cons_succ]
      refine takeL (i := 52) rfl (v := ?v52a) (by kernel_rfl) (by kernel_rfl) (by kernel_rfl) (fun _ _ _ h => h) (Or.inl ⟨by rfl, fun _w _hSw => ?hy52a⟩) (by assumption) ?rest52a
      case hy52a =>
        (try dsimp only at _hSw)
        go_simp
        try with_reducible rfl
      try simp only [Act.put, List.setIfInBounds_toArray, List.set_cons_zero, List.set_cons_succ]
      refine takeL (i := 53) rfl (v := ?v53a) (by kernel_rfl) (by kernel_rfl) (by kernel_rfl) (fun _ _ _ h => h) (Or.inl ⟨by rfl, fun _w _hSw => ?hy53a⟩) (by assumption) ?rest53a
      case hy53a =>
        (try dsimp only at _hSw)
        go_simp
        try with_reducible rfl
      try simp only [Act.put, List.setIfInBounds_toArray, List.set_cons_zero, List.set_cons_succ]
      refine wpAnyH_ready (rs := [51]) (by kernel_rfl) (by simp) (readyL rfl (fun K hK => ?_) AllReadyH.nil)
      go_simp
      with_reducible refine (K33.out _).mono ?_
      rintro e w' ⟨rfl, hb⟩
      try dsimp only
      refine hK.out _ _ (stay ‹_› ‹_›) (fun hHeld => ?_)
      clear hK K
      try simp only [Act.put, List.setIfInBounds_toArray, List.set_cons_zero, List.set_cons_succ]
      refine wpAnyH_ready (rs := [54]) (by kernel_rfl) (by simp) (readyL rfl (fun K hK => ?_) AllReadyH.nil)
      go_simp
      with_reducible refine (K34.out _).mono ?_
      rintro e w' ⟨rfl, hb⟩
      try dsimp only
      refine hK.out _ _ (stay ‹_› ‹_›) (fun hHeld => ?_)
      clear hK K
      try simp only [Act.put, List.setIfInBounds_toArray, List.set_cons_zero, List.set_cons_succ]
      refine takeL (i := 55) rfl (v := ?v55a) (by kernel_rfl) (by kernel_rfl) (by kernel_rfl) (fun _ _ _ h => h) (Or.inl ⟨by rfl, fun _w _hSw => ?hy55a⟩) (by assumption) ?rest55a
      case hy55a =>
        (try dsimp only at _hSw)
        go_simp
        try with_reducible rfl
      try simp only [Act.put, List.setIfInBounds_toArray, List.set_cons_zero, List.set_cons_succ]
      refine takeL (i := 56) rfl (v := ?v56a) (by kernel_rfl) (by kernel_rfl) (by kernel_rfl) (fun _ _ _ h => h) (Or.inl ⟨by rfl, fun _w _hSw => ?hy56a⟩) (by assumption) ?rest56a
      case hy56a =>
        (try dsimp only at _hSw)
        go_simp
        try with_reducible rfl
      try simp only [Act.put, List.setIfInBounds_toArray, List.set_cons_zero, List.set_cons_succ]
      refine takeL (i := 57) rfl (v := ?v57a) (by kernel_rfl) (by kernel_rfl) (by kernel_rfl) (fun _ _ _ h => h) (Or.inl ⟨by rfl, fun _w _hSw => ?hy57a⟩) (by assumption) ?rest57a
      case hy57a =>
        (try dsimp only at _hSw)
        go_simp
        try with_reducible rfl
      try simp only [Act.put, List.setIfInBounds_toArray, List.set_cons_zero, List.set_cons_succ]
      refine takeL (i := 58) rfl (v := ?v58a) (by kernel_rfl) (by kernel_rfl) (by kernel_rfl) (fun _ _ _ h => h) (Or.inl ⟨by rfl, fun _w _hSw => ?hy58a⟩) (by assumption) ?rest58a
      case hy58a =>
        (try dsimp only at _hSw)
        go_simp
        try with_reducible rfl
      try simp only [Act.put, List.setIfInBounds_toArray, List.set_cons_zero, List.set_cons_succ]
      refine takeL (i := 59) rfl (v := ?v59a) (by kernel_rfl) (by kernel_rfl) (by kernel_rfl) (fun _ _ _ h => h) (Or.inl ⟨by rfl, fun _w _hSw => ?hy59a⟩) (by assumption) ?rest59a
      case hy59a =>
        (try dsimp only at _hSw)
        go_simp
        try with_reducible rfl
      try simp only [Act.put, List.setIfInBounds_toArray, List.set_cons_zero, List.set_cons_succ]
      refine takeL (i := 61) rfl (v := ?v61a) (by kernel_rfl) (by kernel_rfl) (by kernel_rfl) (fun _ _ _ h => h) (Or.inl ⟨by rfl, fun _w _hSw => ?hy61a⟩) (by assumption) ?rest61a
      case hy61a =>
        (try dsimp only at _hSw)
        go_simp
        try with_reducible rfl
      try simp only [Act.put, List.setIfInBounds_toArray, List.set_cons_zero, List.set_cons_succ]
      refine takeL (i := 62) rfl (v := ?v62a) (by kernel_rfl) (by kernel_rfl) (by kernel_rfl) (fun _ _ _ h => h) (Or.inl ⟨by rfl, fun _w _hSw => ?hy62a⟩) (by assumption) ?rest62a
      case hy62a =>
        (try dsimp only at _hSw)
        go_simp
        try with_reducible rfl
      try simp only [Act.put, List.setIfInBounds_toArray, List.set_cons_zero, List.set_cons_succ]
      refine wpAnyH_ready (rs := [60]) (by kernel_rfl) (by simp) (readyL rfl (fun K hK => ?_) AllReadyH.nil)
      go_simp
      with_reducible refine (K35.out _).mono ?_
      rintro e w' ⟨rfl, hb⟩
      try dsimp only
      refine hK.out _ _ (stay ‹_› ‹_›) (fun hHeld => ?_)
      clear hK K
      try simp only [Act.put, List.setIfInBounds_toArray, List.set_cons_zero, List.set_cons_succ]
      refine wpAnyH_ready (rs := [63]) (by kernel_rfl) (by simp) (readyL rfl (fun K hK => ?_) AllReadyH.nil)
      go_simp
      with_reducible refine (K41.out _).mono ?_
      rintro e w' ⟨rfl, hb⟩
      try dsimp only
      refine hK.out _ _ (stay ‹_› ‹_›) (fun hHeld => ?_)
      clear hK K
      try simp only [Act.put, List.setIfInBounds_toArray, List.set_cons_zero, List.set_cons_succ]
      refine takeL (i := 64) rfl (v := ?v64a) (by kernel_rfl) (by kernel_rfl) (by kernel_rfl) (fun _ _ _ h => h) (Or.inl ⟨by rfl, fun _w _hSw => ?hy64a⟩) (by assumption) ?rest64a
      case hy64a =>
        (try dsimp only at _hSw)
        go_simp
        try with_reducible rfl
      try simp only [Act.put, List.setIfInBounds_toArray, List.set_cons_zero, List.set_cons_succ]
      refine takeL (i := 65) rfl (v := ?v65a) (by kernel_rfl) (by kernel_rfl) (by kernel_rfl) (fun _ _ _ h => h) (Or.inl ⟨by rfl, fun _w _hSw => ?hy65a⟩) (by assumption) ?rest65a
      case hy65a =>
        (try dsimp only at _hSw)
        go_simp
        try with_reducible rfl
      try simp only [Act.put, List.setIfInBounds_toArray, List.set_cons_zero, List.set_cons_succ]
      refine takeL (i := 66) rfl (v := ?v66a) (by kernel_rfl) (by kernel_rfl) (by kernel_rfl) (fun _ _ _ h => h) (Or.inl ⟨by rfl, fun _w _hSw => ?hy66a⟩) (by assumption) ?rest66a
      case hy66a =>
        (try dsimp only at _hSw)
        go_simp
        try with_reducible rfl
      try simp only [Act.put, List.setIfInBounds_toArray, List.set_cons_zero, List.set_cons_succ]
      refine takeL (i := 67) rfl (v := ?v67a) (by kernel_rfl) (by kernel_rfl) (by kernel_rfl) (fun _ _ _ h => h) (Or.inl ⟨by rfl, fun _w _hSw => ?hy67a⟩) (by assumption) ?rest67a
      case hy67a =>
        (try dsimp only at _hSw)
        go_simp
        try with_reducible rfl
      try simp only [Act.put, List.setIfInBounds_toArray, List.set_cons_zero, List.set_cons_succ]
      refine takeL (i := 69) rfl (v := ?v69a) (by kernel_rfl) (by kernel_rfl) (by kernel_rfl) (fun _ _ _ h => h) (Or.inl ⟨by rfl, fun _w _hSw => ?hy69a⟩) (by assumption) ?rest69a
      case hy69a =>
        (try dsimp only at _hSw)
        go_simp
        try with_reducible rfl
      try simp only [Act.put, List.setIfInBounds_toArray, List.set_cons_zero, List.set_cons_succ]
      refine wpAnyH_ready (rs := [68]) (by kernel_rfl) (by simp) (readyL rfl (fun K hK => ?_) AllReadyH.nil)
      go_simp
      with_reducible refine (K36.out _ ‹_›).mono ?_
      rintro e w' ⟨rfl, hb⟩
      try dsimp only
      refine hK.out _ _ (stay ‹_› ‹_›) (fun hHeld => ?_)
      clear hK K
      try simp only [Act.put, List.setIfInBounds_toArray, List.set_cons_zero, List.set_cons_succ]
      refine takeL (i := 70) rfl (v := ?v70a) (by kernel_rfl) (by kernel_rfl) (by kernel_rfl) (fun _ _ _ h => h) (Or.inl ⟨by rfl, fun _w _hSw => ?hy70a⟩) (by assumption) ?rest70a
      case hy70a =>
        (try dsimp only at _hSw)
        go_simp
        try with_reducible rfl
      try simp only [Act.put, List.setIfInBounds_toArray, List.set_cons_zero, List.set_cons_succ]
      refine takeL (i := 71) rfl (v := ?v71a) (by kernel_rfl) (by kernel_rfl) (by kernel_rfl) (fun _ _ _ h => h) (Or.inl ⟨by rfl, fun _w _hSw => ?hy71a⟩) (by assumption) ?rest71a
      case hy71a =>
        (try dsimp only at _hSw)
        go_simp
        try with_reducible rfl
      try simp only [Act.put, List.setIfInBounds_toArray, List.set_cons_zero, List.set_cons_succ]
      refine takeL (i := 72) rfl (v := ?v72a) (by kernel_rfl) (by kernel_rfl) (by kernel_rfl) (fun _ _ _ h => h) (Or.inl ⟨by rfl, fun _w _hSw => ?hy72a⟩) (by assumption) ?rest72a
      case hy72a =>
        (try dsimp only at _hSw)
        go_simp
        try with_reducible rfl
      try simp only [Act.put, List.setIfInBounds_toArray, List.set_cons_zero, List.set_cons_succ]
      refine wpAnyH_done (by kernel_rfl) ?_ _
      go_wp2_with fail
      go_wp2
      go_ret
      exact ⟨by simp, stayEnd HBW.out HBW.out.size ‹_›⟩
    | false =>
      refine wp_region_held_drew (S := (fun w' => (∀ b o, b < (wc).heap.size → w'.cell? ⟨b, o, none⟩ = (wc).cell? ⟨b, o, none⟩) ∧ Below (wc).heap.size (wc) w')) (by kernel_rfl) (stay0 _) (fun hHeld => ?_)
      try dsimp only [List.size_toArray, List.length_cons, List.length_nil]
      refine wpAnyH_ready (rs := [0]) (by kernel_rfl) (by simp) (readyL rfl (fun K hK => ?_) AllReadyH.nil)
      go_simp
      with_reducible refine (K25.out _ ‹_›).mono ?_
      rintro e w' ⟨rfl, hb⟩
      try dsimp only
      refine hK.out _ _ (stay ‹_› ‹_›) (fun hHeld => ?_)
      clear hK K
      try simp only [Act.put, List.setIfInBounds_toArray, List.set_cons_zero, List.set_cons_succ]
      refine takeL (i := 1) rfl (v := ?v1b) (by kernel_rfl) (by kernel_rfl) (by kernel_rfl) (fun _ _ _ h => h) (Or.inl ⟨by rfl, fun _w _hSw => ?hy1b⟩) (by assumption) ?rest1b
      case hy1b =>
        (try dsimp only at _hSw)
        go_simp
        try with_reducible rfl
      try simp only [Act.put, List.setIfInBounds_toArray, List.set_cons_zero, List.set_cons_succ]
      refine takeL (i := 2) rfl (v := ?v2b) (by kernel_rfl) (by kernel_rfl) (by kernel_rfl) (fun _ _ _ h => h) (Or.inl ⟨by rfl, fun _w _hSw => ?hy2b⟩) (by assumption) ?rest2b
      case hy2b =>
        (try dsimp only at _hSw)
        go_simp
        try with_reducible rfl
      try simp only [Act.put, List.setIfInBounds_toArray, List.set_cons_zero, List.set_cons_succ]
      refine takeL (i := 4) rfl (v := ?v4b) (by kernel_rfl) (by kernel_rfl) (by kernel_rfl) (fun _ _ _ h => h) (Or.inl ⟨by rfl, fun _w _hSw => ?hy4b⟩) (by assumption) ?rest4b
      case hy4b =>
        (try dsimp only at _hSw)
        go_simp
        try with_reducible rfl
      try simp only [Act.put, List.setIfInBounds_toArray, List.set_cons_zero, List.set_cons_succ]
      refine wpAnyH_ready (rs := [3]) (by kernel_rfl) (by simp) (readyL rfl (fun K hK => ?_) AllReadyH.nil)
      go_simp
      with_reducible refine (K26.out _).mono ?_
      rintro e w' ⟨rfl, hb⟩
      try dsimp only
      refine hK.out _ _ (stay ‹_› ‹_›) (fun hHeld => ?_)
      clear hK K
      try simp only [Act.put, List.setIfInBounds_toArray, List.set_cons_zero, List.set_cons_succ]
      refine takeL (i := 5) rfl (v := ?v5b) (by kernel_rfl) (by kernel_rfl) (by kernel_rfl) (fun _ _ _ h => h) (Or.inl ⟨by rfl, fun _w _hSw => ?hy5b⟩) (by assumption) ?rest5b
      case hy5b =>
        (try dsimp only at _hSw)
        go_simp
        try with_reducible rfl
      try simp only [Act.put, List.setIfInBounds_toArray, List.set_cons_zero, List.set_cons_succ]
      refine takeL (i := 6) rfl (v := ?v6b) (by kernel_rfl) (by kernel_rfl) (by kernel_rfl) (fun _ _ _ h => h) (Or.inl ⟨by rfl, fun _w _hSw => ?hy6b⟩) (by assumption) ?rest6b
      case hy6b =>
        (try dsimp only at _hSw)
        go_simp
        try with_reducible rfl
      try simp only [Act.put, List.setIfInBounds_toArray, List.set_cons_zero, List.set_cons_succ]
      refine takeL (i := 7) rfl (v := ?v7b) (by kernel_rfl) (by kernel_rfl) (by kernel_rfl) (fun _ _ _ h => h) (Or.inl ⟨by rfl, fun _w _hSw => ?hy7b⟩) (by assumption) ?rest7b
      case hy7b =>
        (try dsimp only at _hSw)
        go_simp
        try with_reducible rfl
      try simp only [Act.put, List.setIfInBounds_toArray, List.set_cons_zero, List.set_cons_succ]
      refine takeL (i := 8) rfl (v := ?v8b) (by kernel_rfl) (by kernel_rfl) (by kernel_rfl) (fun _ _ _ h => h) (Or.inl ⟨by rfl, fun _w _hSw => ?hy8b⟩) (by assumption) ?rest8b
      case hy8b =>
        (try dsimp only at _hSw)
        go_simp
        try with_reducible rfl
      try simp only [Act.put, List.setIfInBounds_toArray, List.set_cons_zero, List.set_cons_succ]
      refine takeL (i := 9) rfl (v := ?v9b) (by kernel_rfl) (by kernel_rfl) (by kernel_rfl) (fun _ _ _ h => h) (Or.inl ⟨by rfl, fun _w _hSw => ?hy9b⟩) (by assumption) ?rest9b
      case hy9b =>
        (try dsimp only at _hSw)
        go_simp
        try with_reducible rfl
      try simp only [Act.put, List.setIfInBounds_toArray, List.set_cons_zero, List.set_cons_succ]
      refine takeL (i := 11) rfl (v := ?v11b) (by kernel_rfl) (by kernel_rfl) (by kernel_rfl) (fun _ _ _ h => h) (Or.inl ⟨by rfl, fun _w _hSw => ?hy11b⟩) (by assumption) ?rest11b
      case hy11b =>
        (try dsimp only at _hSw)
        go_simp
        try with_reducible rfl
      try simp only [Act.put, List.setIfInBounds_toArray, List.set_cons_zero, List.set_cons_succ]
      refine takeL (i := 12) rfl (v := ?v12b) (by kernel_rfl) (by kernel_rfl) (by kernel_rfl) (fun _ _ _ h => h) (Or.inl ⟨by rfl, fun _w _hSw => ?hy12b⟩) (by assumption) ?rest12b
      case hy12b =>
        (try dsimp only at _hSw)
        go_simp
        try with_reducible rfl
      try simp only [Act.put, List.setIfInBounds_toArray, List.set_cons_zero, List.set_cons_succ]
      refine wpAnyH_ready (rs := [10]) (by kernel_rfl) (by simp) (readyL rfl (fun K hK => ?_) AllReadyH.nil)
      go_simp
      with_reducible refine (K27.out _).mono ?_
      rintro e w' ⟨rfl, hb⟩
      try dsimp only
      refine hK.out _ _ (stay ‹_› ‹_›) (fun hHeld => ?_)
      clear hK K
      try simp only [Act.put, List.setIfInBounds_toArray, List.set_cons_zero, List.set_cons_succ]
      refine wpAnyH_ready (rs := [13]) (by kernel_rfl) (by simp) (readyL rfl (fun K hK => ?_) AllReadyH.nil)
      go_simp
      with_reducible refine (K19.out _).mono ?_
      rintro e w' ⟨rfl, hb⟩
      try dsimp only
      refine hK.out _ _ (stay ‹_› ‹_›) (fun hHeld => ?_)
      clear hK K
      try simp only [Act.put, List.setIfInBounds_toArray, List.set_cons_zero, List.set_cons_succ]
      refine takeL (i := 14) rfl (v := ?v14b) (by kernel_rfl) (by kernel_rfl) (by kernel_rfl) (fun _ _ _ h => h) (Or.inl ⟨by rfl, fun _w _hSw => ?hy14b⟩) (by assumption) ?rest14b
      case hy14b =>
        (try dsimp only at _hSw)
        go_simp
        try with_reducible rfl
      try simp only [Act.put, List.setIfInBounds_toArray, List.set_cons_zero, List.set_cons_succ]
      refine takeL (i := 15) rfl (v := ?v15b) (by kernel_rfl) (by kernel_rfl) (by kernel_rfl) (fun _ _ _ h => h) (Or.inl ⟨by rfl, fun _w _hSw => ?hy15b⟩) (by assumption) ?rest15b
      case hy15b =>
        (try dsimp only at _hSw)
        go_simp
        try with_reducible rfl
      try simp only [Act.put, List.setIfInBounds_toArray, List.set_cons_zero, List.set_cons_succ]
      refine takeL (i := 16) rfl (v := ?v16b) (by kernel_rfl) (by kernel_rfl) (by kernel_rfl) (fun _ _ _ h => h) (Or.inl ⟨by rfl, fun _w _hSw => ?hy16b⟩) (by assumption) ?rest16b
      case hy16b =>
        (try dsimp only at _hSw)
        go_simp
        try with_reducible rfl
      try simp only [Act.put, List.setIfInBounds_toArray, List.set_cons_zero, List.set_cons_succ]
      refine takeL (i := 17) rfl (v := ?v17b) (by kernel_rfl) (by kernel_rfl) (by kernel_rfl) (fun _ _ _ h => h) (Or.inl ⟨by rfl, fun _w _hSw => ?hy17b⟩) (by assumption) ?rest17b
      case hy17b =>
        (try dsimp only at _hSw)
        go_simp
        try with_reducible rfl
      try simp only [Act.put, List.setIfInBounds_toArray, List.set_cons_zero, List.set_cons_succ]
      refine takeL (i := 18) rfl (v := ?v18b) (by kernel_rfl) (by kernel_rfl) (by kernel_rfl) (fun _ _ _ h => h) (Or.inl ⟨by rfl, fun _w _hSw => ?hy18b⟩) (by assumption) ?rest18b
      case hy18b =>
        (try dsimp only at _hSw)
        go_simp
        try with_reducible rfl
      try simp only [Act.put, List.setIfInBounds_toArray, List.set_cons_zero, List.set_cons_succ]
      refine takeL (i := 20) rfl (v := ?v20b) (by kernel_rfl) (by kernel_rfl) (by kernel_rfl) (fun _ _ _ h => h) (Or.inl ⟨by rfl, fun _w _hSw => ?hy20b⟩) (by assumption) ?rest20b
      case hy20b =>
        (try dsimp only at _hSw)
        go_simp
        try with_reducible rfl
      try simp only [Act.put, List.setIfInBounds_toArray, List.set_cons_zero, List.set_cons_succ]
      refine takeL (i := 21) rfl (v := ?v21b) (by kernel_rfl) (by kernel_rfl) (by kernel_rfl) (fun _ _ _ h => h) (Or.inl ⟨by rfl, fun _w _hSw => ?hy21b⟩) (by assumption) ?rest21b
      case hy21b =>
        (try dsimp only at _hSw)
        go_simp
        try with_reducible rfl
      try simp only [Act.put, List.setIfInBounds_toArray, List.set_cons_zero, List.set_cons_succ]
      refine wpAnyH_ready (rs := [19]) (by kernel_rfl) (by simp) (readyL rfl (fun K hK => ?_) AllReadyH.nil)
      go_simp
      with_reducible refine (K28.out _).mono ?_
      rintro e w' ⟨rfl, hb⟩
      try dsimp only
      refine hK.out _ _ (stay ‹_› ‹_›) (fun hHeld => ?_)
      clear hK K
      try simp only [Act.put, List.setIfInBounds_toArray, List.set_cons_zero, List.set_cons_succ]
      refine wpAnyH_ready (rs := [22]) (by kernel_rfl) (by simp) (readyL rfl (fun K hK => ?_) AllReadyH.nil)
      go_simp
      with_reducible refine (K29.out _).mono ?_
      rintro e w' ⟨rfl, hb⟩
      try dsimp only
      refine hK.out _ _ (stay ‹_› ‹_›) (fun hHeld => ?_)
      clear hK K
      try simp only [Act.put, List.setIfInBounds_toArray, List.set_cons_zero, List.set_cons_succ]
      refine takeL (i := 23) rfl (v := ?v23b) (by kernel_rfl) (by kernel_rfl) (by kernel_rfl) (fun _ _ _ h => h) (Or.inl ⟨by rfl, fun _w _hSw => ?hy23b⟩) (by assumption) ?rest23b
      case hy23b =>
        (try dsimp only at _hSw)
        go_simp
        try with_reducible rfl
      try simp only [Act.put, List.setIfInBounds_toArray, List.set_cons_zero, List.set_cons_succ]
      refine takeL (i := 24) rfl (v := ?v24b) (by kernel_rfl) (by kernel_rfl) (by kernel_rfl) (fun _ _ _ h => h) (Or.inl ⟨by rfl, fun _w _hSw => ?hy24b⟩) (by assumption) ?rest24b
      case hy24b =>
        (try dsimp only at _hSw)
        go_simp
        try with_reducible rfl
      try simp only [Act.put, List.setIfInBounds_toArray, List.set_cons_zero, List.set_cons_succ]
      refine takeL (i := 25) rfl (v := ?v25b) (by kernel_rfl) (by kernel_rfl) (by kernel_rfl) (fun _ _ _ h => h) (Or.inl ⟨by rfl, fun _w _hSw => ?hy25b⟩) (by assumption) ?rest25b
      case hy25b =>
        (try dsimp only at _hSw)
        go_simp
        try with_reducible rfl
      try simp only [Act.put, List.setIfInBounds_toArray, List.set_cons_zero, List.set_cons_succ]
      refine takeL (i := 26) rfl (v := ?v26b) (by kernel_rfl) (by kernel_rfl) (by kernel_rfl) (fun _ _ _ h => h) (Or.inl ⟨by rfl, fun _w _hSw => ?hy26b⟩) (by assumption) ?rest26b
      case hy26b =>
        (try dsimp only at _hSw)
        go_simp
        try with_reducible rfl
      try simp only [Act.put, List.setIfInBounds_toArray, List.set_cons_zero, List.set_cons_succ]
      refine takeL (i := 27) rfl (v := ?v27b) (by kernel_rfl) (by kernel_rfl) (by kernel_rfl) (fun _ _ _ h => h) (Or.inl ⟨by rfl, fun _w _hSw => ?hy27b⟩) (by assumption) ?rest27b
      case hy27b =>
        (try dsimp only at _hSw)
        go_simp
        try with_reducible rfl
      try simp only [Act.put, List.setIfInBounds_toArray, List.set_cons_zero, List.set_cons_succ]
      refine takeL (i := 29) rfl (v := ?v29b) (by kernel_rfl) (by kernel_rfl) (by kernel_rfl) (fun _ _ _ h => h) (Or.inl ⟨by rfl, fun _w _hSw => ?hy29b⟩) (by assumption) ?rest29b
      case hy29b =>
        (try dsimp only at _hSw)
        go_simp
        try with_reducible rfl
      try simp only [Act.put, List.setIfInBounds_toArray, List.set_cons_zero, List.set_cons_succ]
      refine takeL (i := 30) rfl (v := ?v30b) (by kernel_rfl) (by kernel_rfl) (by kernel_rfl) (fun _ _ _ h => h) (Or.inl ⟨by rfl, fun _w _hSw => ?hy30b⟩) (by assumption) ?rest30b
      case hy30b =>
        (try dsimp only at _hSw)
        go_simp
        try with_reducible rfl
      try simp only [Act.put, List.setIfInBounds_toArray, List.set_cons_zero, List.set_cons_succ]
      refine wpAnyH_ready (rs := [28]) (by kernel_rfl) (by simp) (readyL rfl (fun K hK => ?_) AllReadyH.nil)
      go_simp
      with_reducible refine (K30.out _).mono ?_
      rintro e w' ⟨rfl, hb⟩
      try dsimp only
      refine hK.out _ _ (stay ‹_› ‹_›) (fun hHeld => ?_)
      clear hK K
      try simp only [Act.put, List.setIfInBounds_toArray, List.set_cons_zero, List.set_cons_succ]
      refine wpAnyH_ready (rs := [31]) (by kernel_rfl) (by simp) (readyL rfl (fun K hK => ?_) AllReadyH.nil)
      go_simp
      with_reducible refine (K31.out _).mono ?_
      rintro e w' ⟨rfl, hb⟩
      try dsimp only
      refine hK.out _ _ (stay ‹_› ‹_›) (fun hHeld => ?_)
      clear hK K
      try simp only [Act.put, List.setIfInBounds_toArray, List.set_cons_zero, List.set_cons_succ]
      refine takeL (i := 32) rfl (v := ?v32b) (by kernel_rfl) (by kernel_rfl) (by kernel_rfl) (fun _ _ _ h => h) (Or.inl ⟨by rfl, fun _w _hSw => ?hy32b⟩) (by assumption) ?rest32b
      case hy32b =>
        (try dsimp only at _hSw)
        go_simp
        try with_reducible rfl
      try simp only [Act.put, List.setIfInBounds_toArray, List.set_cons_zero, List.set_cons_succ]
      refine takeL (i := 33) rfl (v := ?v33b) (by kernel_rfl) (by kernel_rfl) (by kernel_rfl) (fun _ _ _ h => h) (Or.inl ⟨by rfl, fun _w _hSw => ?hy33b⟩) (by assumption) ?rest33b
      case hy33b =>
        (try dsimp only at _hSw)
        go_simp
        try with_reducible rfl
      try simp only [Act.put, List.setIfInBounds_toArray, List.set_cons_zero, List.set_cons_succ]
      refine takeL (i := 34) rfl (v := ?v34b) (by kernel_rfl) (by kernel_rfl) (by kernel_rfl) (fun _ _ _ h => h) (Or.inl ⟨by rfl, fun _w _hSw => ?hy34b⟩) (by assumption) ?rest34b
      case hy34b =>
        (try dsimp only at _hSw)
        go_simp
        try with_reducible rfl
      try simp only [Act.put, List.setIfInBounds_toArray, List.set_cons_zero, List.set_cons_succ]
      refine takeL (i := 35) rfl (v := ?v35b) (by kernel_rfl) (by kernel_rfl) (by kernel_rfl) (fun _ _ _ h => h) (Or.inl ⟨by rfl, fun _w _hSw => ?hy35b⟩) (by assumption) ?rest35b
      case hy35b =>
        (try dsimp only at _hSw)
        go_simp
        try with_reducible rfl
      try simp only [Act.put, List.setIfInBounds_toArray, List.set_cons_zero, List.set_cons_succ]
      refine takeL (i := 36) rfl (v := ?v36b) (by kernel_rfl) (by kernel_rfl) (by kernel_rfl) (fun _ _ _ h => h) (Or.inl ⟨by rfl, fun _w _hSw => ?hy36b⟩) (by assumption) ?rest36b
      case hy36b =>
        (try dsimp only at _hSw)
        go_simp
        try with_reducible rfl
      try simp only [Act.put, List.setIfInBounds_toArray, List.set_cons_zero, List.set_cons_succ]
      refine takeL (i := 38) rfl (v := ?v38b) (by kernel_rfl) (by kernel_rfl) (by kernel_rfl) (fun _ _ _ h => h) (Or.inl ⟨by rfl, fun _w _hSw => ?hy38b⟩) (by assumption) ?rest38b
      case hy38b =>
        (try dsimp only at _hSw)
        go_simp
        try with_reducible rfl
      try simp only [Act.put, List.setIfInBounds_toArray, List.set_cons_zero, List.set_cons_succ]
      refine takeL (i := 39) rfl (v := ?v39b) (by kernel_rfl) (by kernel_rfl) (by kernel_rfl) (fun _ _ _ h => h) (Or.inl ⟨by rfl, fun _w _hSw => ?hy39b⟩) (by assumption) ?rest39b
      case hy39b =>
        (try dsimp only at _hSw)
        go_simp
        try with_reducible rfl
      try simp only [Act.put, List.setIfInBounds_toArray, List.set_cons_zero, List.set_cons_succ]
      refine wpAnyH_ready (rs := [37]) (by kernel_rfl) (by simp) (readyL rfl (fun K hK => ?_) AllReadyH.nil)
      go_simp
      with_reducible refine (K32.out _).mono ?_
      rintro e w' ⟨rfl, hb⟩
      try dsimp only
      refine hK.out _ _ (stay ‹_› ‹_›) (fun hHeld => ?_)
      clear hK K
      try simp only [Act.put, List.setIfInBounds_toArray, List.set_cons_zero, List.set_cons_succ]
      refine wpAnyH_ready (rs := [40]) (by kernel_rfl) (by simp) (readyL rfl (fun K hK => ?_) AllReadyH.nil)
      go_simp
      with_reducible refine (K31.out _).mono ?_
      rintro e w' ⟨rfl, hb⟩
      try dsimp only
      refine hK.out _ _ (stay ‹_› ‹_›) (fun hHeld => ?_)
      clear hK K
      try simp only [Act.put, List.setIfInBounds_toArray, List.set_cons_zero, List.set_cons_succ]
      refine takeL (i := 41) rfl (v := ?v41b) (by kernel_rfl) (by kernel_rfl) (by kernel_rfl) (fun _ _ _ h => h) (Or.inl ⟨by rfl, fun _w _hSw => ?hy41b⟩) (by assumption) ?rest41b
      case hy41b =>
        (try dsimp only at _hSw)
        go_simp
        try with_reducible rfl
      try simp only [Act.put, List.setIfInBounds_toArray, List.set_cons_zero, List.set_cons_succ]
      refine takeL (i := 42) rfl (v := undef) (by kernel_rfl) (by kernel_rfl) (by kernel_rfl) (fun _ _ _ h => h) (Or.inr ⟨by rfl, rfl⟩) (by assumption) ?_
      try simp only [Act.put, List.setIfInBounds_toArray, List.set_cons_zero, List.set_cons_succ]
      refine takeL (i := 43) rfl (v := undef) (by kernel_rfl) (by kernel_rfl) (by kernel_rfl) (fun _ _ _ h => h) (Or.inr ⟨by rfl, rfl⟩) (by assumption) ?_
      try simp only [Act.put, List.setIfInBounds_toArray, List.set_cons_zero, List.set_cons_succ]
      refine takeL (i := 44) rfl (v := undef) (by kernel_rfl) (by kernel_rfl) (by kernel_rfl) (fun _ _ _ h => h) (Or.inr ⟨by rfl, rfl⟩) (by assumption) ?_
      try simp only [Act.put, List.setIfInBounds_toArray, List.set_cons_zero, List.set_cons_succ]
      refine takeL (i := 45) rfl (v := ?v45b) (by kernel_rfl) (by kernel_rfl) (by kernel_rfl) (fun _ _ _ h => h) (Or.inl ⟨by rfl, fun _w _hSw => ?hy45b⟩) (by assumption) ?rest45b
      case hy45b =>
        (try dsimp only at _hSw)
        go_simp
        try with_reducible rfl
      try simp only [Act.put, List.setIfInBounds_toArray, List.set_cons_zero, List.set_cons_succ]
      refine takeL (i := 46) rfl (v := ?v46b) (by kernel_rfl) (by kernel_rfl) (by kernel_rfl) (fun _ _ _ h => h) (Or.inl ⟨by rfl, fun _w _hSw => ?hy46b⟩) (by assumption) ?rest46b
      case hy46b =>
        (try dsimp only at _hSw)
        go_simp
        try with_reducible rfl
      try simp only [Act.put, List.setIfInBounds_toArray, List.set_cons_zero, List.set_cons_succ]
      refine takeL (i := 47) rfl (v := ?v47b) (by kernel_rfl) (by kernel_rfl) (by kernel_rfl) (fun _ _ _ h => h) (Or.inl ⟨by rfl, fun _w _hSw => ?hy47b⟩) (by assumption) ?rest47b
      case hy47b =>
        (try dsimp only at _hSw)
        go_simp
        try with_reducible rfl
      try simp only [Act.put, List.setIfInBounds_toArray, List.set_cons_zero, List.set_cons_succ]
      refine takeL (i := 48) rfl (v := ?v48b) (by kernel_rfl) (by kernel_rfl) (by kernel_rfl) (fun _ _ _ h => h) (Or.inl ⟨by rfl, fun _w _hSw => ?hy48b⟩) (by assumption) ?rest48b
      case hy48b =>
        (try dsimp only at _hSw)
        go_simp
        try with_reducible rfl
      try simp only [Act.put, List.setIfInBounds_toArray, List.set_cons_zero, List.set_cons_succ]
      refine takeL (i := 49) rfl (v := ?v49b) (by kernel_rfl) (by kernel_rfl) (by kernel_rfl) (fun _ _ _ h => h) (Or.inl ⟨by rfl, fun _w _hSw => ?hy49b⟩) (by assumption) ?rest49b
      case hy49b =>
        (try dsimp only at _hSw)
        go_simp
        try with_reducible rfl
      try simp only [Act.put, List.setIfInBounds_toArray, List.set_cons_zero, List.set_cons_succ]
      refine takeL (i := 50) rfl (v := ?v50b) (by kernel_rfl) (by kernel_rfl) (by kernel_rfl) (fun _ _ _ h => h) (Or.inl ⟨by rfl, fun _w _hSw => ?hy50b⟩) (by assumption) ?rest50b
      case hy50b =>
        (try dsimp only at _hSw)
        go_simp
        try with_reducible rfl
      try simp only [Act.put, List.setIfInBounds_toArray, List.set_cons_zero, List.set_cons_succ]
      refine takeL (i := 52) rfl (v := ?v52b) (by kernel_rfl) (by kernel_rfl) (by kernel_rfl) (fun _ _ _ h => h) (Or.inl ⟨by rfl, fun _w _hSw => ?hy52b⟩) (by assumption) ?rest52b
      case hy52b =>
        (try dsimp only at _hSw)
        go_simp
        try with_reducible rfl
      try simp only [Act.put, List.setIfInBounds_toArray, List.set_cons_zero, List.set_cons_succ]
      refine takeL (i := 53) rfl (v := ?v53b) (by kernel_rfl) (by kernel_rfl) (by kernel_rfl) (fun _ _ _ h => h) (Or.inl ⟨by rfl, fun _w _hSw => ?hy53b⟩) (by assumption) ?rest53b
      case hy53b =>
        (try dsimp only at _hSw)
        go_simp
        try with_reducible rfl
      try simp only [Act.put, List.setIfInBounds_toArray, List.set_cons_zero, List.set_cons_succ]
      refine wpAnyH_ready (rs := [51]) (by kernel_rfl) (by simp) (readyL rfl (fun K hK => ?_) AllReadyH.nil)
      go_simp
      with_reducible refine (K33.out _).mono ?_
      rintro e w' ⟨rfl, hb⟩
      try dsimp only
      refine hK.out _ _ (stay ‹_› ‹_›) (fun hHeld => ?_)
      clear hK K
      try simp only [Act.put, List.setIfInBounds_toArray, List.set_cons_zero, List.set_cons_succ]
      refine wpAnyH_ready (rs := [54]) (by kernel_rfl) (by simp) (readyL rfl (fun K hK => ?_) AllReadyH.nil)
      go_simp
      with_reducible refine (K34.out _).mono ?_
      rintro e w' ⟨rfl, hb⟩
      try dsimp only
      refine hK.out _ _ (stay ‹_› ‹_›) (fun hHeld => ?_)
      clear hK K
      try simp only [Act.put, List.setIfInBounds_toArray, List.set_cons_zero, List.set_cons_succ]
      refine takeL (i := 55) rfl (v := ?v55b) (by kernel_rfl) (by kernel_rfl) (by kernel_rfl) (fun _ _ _ h => h) (Or.inl ⟨by rfl, fun _w _hSw => ?hy55b⟩) (by assumption) ?rest55b
      case hy55b =>
        (try dsimp only at _hSw)
        go_simp
        try with_reducible rfl
      try simp only [Act.put, List.setIfInBounds_toArray, List.set_cons_zero, List.set_cons_succ]
      refine takeL (i := 56) rfl (v := ?v56b) (by kernel_rfl) (by kernel_rfl) (by kernel_rfl) (fun _ _ _ h => h) (Or.inl ⟨by rfl, fun _w _hSw => ?hy56b⟩) (by assumption) ?rest56b
      case hy56b =>
        (try dsimp only at _hSw)
        go_simp
        try with_reducible rfl
      try simp only [Act.put, List.setIfInBounds_toArray, List.set_cons_zero, List.set_cons_succ]
      refine takeL (i := 57) rfl (v := ?v57b) (by kernel_rfl) (by kernel_rfl) (by kernel_rfl) (fun _ _ _ h => h) (Or.inl ⟨by rfl, fun _w _hSw => ?hy57b⟩) (by assumption) ?rest57b
      case hy57b =>
        (try dsimp only at _hSw)
        go_simp
        try with_reducible rfl
      try simp only [Act.put, List.setIfInBounds_toArray, List.set_cons_zero, List.set_cons_succ]
      refine takeL (i := 58) rfl (v := ?v58b) (by kernel_rfl) (by kernel_rfl) (by kernel_rfl) (fun _ _ _ h => h) (Or.inl ⟨by rfl, fun _w _hSw => ?hy58b⟩) (by assumption) ?rest58b
      case hy58b =>
        (try dsimp only at _hSw)
        go_simp
        try with_reducible rfl
      try simp only [Act.put, List.setIfInBounds_toArray, List.set_cons_zero, List.set_cons_succ]
      refine takeL (i := 59) rfl (v := ?v59b) (by kernel_rfl) (by kernel_rfl) (by kernel_rfl) (fun _ _ _ h => h) (Or.inl ⟨by rfl, fun _w _hSw => ?hy59b⟩) (by assumption) ?rest59b
      case hy59b =>
        (try dsimp only at _hSw)
        go_simp
        try with_reducible rfl
      try simp only [Act.put, List.setIfInBounds_toArray, List.set_cons_zero, List.set_cons_succ]
      refine takeL (i := 61) rfl (v := ?v61b) (by kernel_rfl) (by kernel_rfl) (by kernel_rfl) (fun _ _ _ h => h) (Or.inl ⟨by rfl, fun _w _hSw => ?hy61b⟩) (by assumption) ?rest61b
      case hy61b =>
        (try dsimp only at _hSw)
        go_simp
        try with_reducible rfl
      try simp only [Act.put, List.setIfInBounds_toArray, List.set_cons_zero, List.set_cons_succ]
      refine takeL (i := 62) rfl (v := ?v62b) (by kernel_rfl) (by kernel_rfl) (by kernel_rfl) (fun _ _ _ h => h) (Or.inl ⟨by rfl, fun _w _hSw => ?hy62b⟩) (by assumption) ?rest62b
      case hy62b =>
        (try dsimp only at _hSw)
        go_simp
        try with_reducible rfl
      try simp only [Act.put, List.setIfInBounds_toArray, List.set_cons_zero, List.set_cons_succ]
      refine wpAnyH_ready (rs := [60]) (by kernel_rfl) (by simp) (readyL rfl (fun K hK => ?_) AllReadyH.nil)
      go_simp
      with_reducible refine (K35.out _).mono ?_
      rintro e w' ⟨rfl, hb⟩
      try dsimp only
      refine hK.out _ _ (stay ‹_› ‹_›) (fun hHeld => ?_)
      clear hK K
      try simp only [Act.put, List.setIfInBounds_toArray, List.set_cons_zero, List.set_cons_succ]
      refine wpAnyH_ready (rs := [63]) (by kernel_rfl) (by simp) (readyL rfl (fun K hK => ?_) AllReadyH.nil)
      go_simp
      with_reducible refine (K41.out _).mono ?_
      rintro e w' ⟨rfl, hb⟩
      try dsimp only
      refine hK.out _ _ (stay ‹_› ‹_›) (fun hHeld => ?_)
      clear hK K
      try simp only [Act.put, List.setIfInBounds_toArray, List.set_cons_zero, List.set_cons_succ]
      refine takeL (i := 64) rfl (v := ?v64b) (by kernel_rfl) (by kernel_rfl) (by kernel_rfl) (fun _ _ _ h => h) (Or.inl ⟨by rfl, fun _w _hSw => ?hy64b⟩) (by assumption) ?rest64b
      case hy64b =>
        (try dsimp only at _hSw)
        go_simp
        try with_reducible rfl
      try simp only [Act.put, List.setIfInBounds_toArray, List.set_cons_zero, List.set_cons_succ]
      refine takeL (i := 65) rfl (v := ?v65b) (by kernel_rfl) (by kernel_rfl) (by kernel_rfl) (fun _ _ _ h => h) (Or.inl ⟨by rfl, fun _w _hSw => ?hy65b⟩) (by assumption) ?rest65b
      case hy65b =>
        (try dsimp only at _hSw)
        go_simp
        try with_reducible rfl
      try simp only [Act.put, List.setIfInBounds_toArray, List.set_cons_zero, List.set_cons_succ]
      refine takeL (i := 66) rfl (v := ?v66b) (by kernel_rfl) (by kernel_rfl) (by kernel_rfl) (fun _ _ _ h => h) (Or.inl ⟨by rfl, fun _w _hSw => ?hy66b⟩) (by assumption) ?rest66b
      case hy66b =>
        (try dsimp only at _hSw)
        go_simp
        try with_reducible rfl
      try simp only [Act.put, List.setIfInBounds_toArray, List.set_cons_zero, List.set_cons_succ]
      refine takeL (i := 67) rfl (v := ?v67b) (by kernel_rfl) (by kernel_rfl) (by kernel_rfl) (fun _ _ _ h => h) (Or.inl ⟨by rfl, fun _w _hSw => ?hy67b⟩) (by assumption) ?rest67b
      case hy67b =>
        (try dsimp only at _hSw)
        go_simp
        try with_reducible rfl
      try simp only [Act.put, List.setIfInBounds_toArray, List.set_cons_zero, List.set_cons_succ]
      refine takeL (i := 69) rfl (v := ?v69b) (by kernel_rfl) (by kernel_rfl) (by kernel_rfl) (fun _ _ _ h => h) (Or.inl ⟨by rfl, fun _w _hSw => ?hy69b⟩) (by assumption) ?rest69b
      case hy69b =>
        (try dsimp only at _hSw)
        go_simp
        try with_reducible rfl
      try simp only [Act.put, List.setIfInBounds_toArray, List.set_cons_zero, List.set_cons_succ]
      refine wpAnyH_ready (rs := [68]) (by kernel_rfl) (by simp) (readyL rfl (fun K hK => ?_) AllReadyH.nil)
      go_simp
      with_reducible refine (K36.out _ ‹_›).mono ?_
      rintro e w' ⟨rfl, hb⟩
      try dsimp only
      refine hK.out _ _ (stay ‹_› ‹_›) (fun hHeld => ?_)
      clear hK K
      try simp only [Act.put, List.setIfInBounds_toArray, List.set_cons_zero, List.set_cons_succ]
      refine takeL (i := 70) rfl (v := ?v70b) (by kernel_rfl) (by kernel_rfl) (by kernel_rfl) (fun _ _ _ h => h) (Or.inl ⟨by rfl, fun _w _hSw => ?hy70b⟩) (by assumption) ?rest70b
      case hy70b =>
        (try dsimp only at _hSw)
        go_simp
        try with_reducible rfl
      try simp only [Act.put, List.setIfInBounds_toArray, List.set_cons_zero, List.set_cons_succ]
      refine takeL (i := 71) rfl (v := ?v71b) (by kernel_rfl) (by kernel_rfl) (by kernel_rfl) (fun _ _ _ h => h) (Or.inl ⟨by rfl, fun _w _hSw => ?hy71b⟩) (by assumption) ?rest71b
      case hy71b =>
        (try dsimp only at _hSw)
        go_simp
        try with_reducible rfl
      try simp only [Act.put, List.setIfInBounds_toArray, List.set_cons_zero, List.set_cons_succ]
      refine takeL (i := 72) rfl (v := ?v72b) (by kernel_rfl) (by kernel_rfl) (by kernel_rfl) (fun _ _ _ h => h) (Or.inl ⟨by rfl, fun _w _hSw => ?hy72b⟩) (by assumption) ?rest72b
      case hy72b =>
        (try dsimp only at _hSw)
        go_simp
        try with_reducible rfl
      try simp only [Act.put, List.setIfInBounds_toArray, List.set_cons_zero, List.set_cons_succ]
      refine wpAnyH_done (by kernel_rfl) ?_ _
      go_wp2_with fail
      go_wp2
      go_ret
      exact ⟨by simp, stayEnd HBW.out HBW.out.size ‹_›⟩

theorem okI_of {n : Int} (h : (Lit.int .i64 n).wf = true) : okI n := by
  simp [Lit.wf, IntKind.min, IntKind.max, IntKind.bits, IntKind.signed] at h
  exact ⟨by omega, by omega⟩
set_option maxRecDepth 100000 in
theorem labelTells_lifted (os : Os) (started : os.Started) (H : Type) (enc : TypeId × Value → H) :
    ReturnsInHanded {} Tryd.checked os 4 .any (fun w args => (Rows.labelTellsSpec.pre enc Tryd.prog Tryd.f4 [] false w args ∧ laidMetH Tryd.prog laidL w) ∧ sizedMet enc Tryd.prog Tryd.f4 (OpenSpec.ofChange Rows.labelTellsSpec) false w args) (Rows.labelTellsSpec.post enc Tryd.prog Tryd.f4 false true false false) := by
  refine law_liftD started Tryd.func4 (by kernel_rfl) (by kernel_rfl) rfl (by kernel_rfl) ?_
    (ChangeSpec.witness_shaped (enc := enc) (C := Tryd.checked) (os := os) (X := fun w _ => laidMetH Tryd.prog laidL w) false (World.doorLaid Tryd.prog 69 os) #[.agg #[.int .i64 0, .int .u16 0], .agg #[.int .i64 0, .int .u16 0]] 8 rfl (World.shaped_of_RefB (by kernel_rfl) (by kernel_rfl)) (by kernel_rfl) (by kernel_rfl) (by kernel_rfl) (door_met os _)) ?_
  · intro ds hd
    rw [Tryd.params4] at hd
    match ds, hd with
    | [d0, d1], _ => rfl
  · intro W base args ds ps hM hval hA
    rw [Tryd.params4] at hA hval
    obtain ⟨v0, vs0, d0, ds0, p0, q0, hargs, rfl, rfl, h0, r0⟩ := trodAll_cons hA
    obtain ⟨v1, vs1, d1, ds1, p1, q1, rfl, rfl, rfl, h1, r1⟩ := trodAll_cons r0
    obtain ⟨rfl, rfl, rfl⟩ := trodAll_nil r1
    obtain rfl : args = #[v0, v1] := by cases args; simp_all
    obtain ⟨cs0, rfl, n0, y0, g0⟩ := open_struct fields26 (hval 0 26 v0 rfl rfl) h0
    obtain ⟨a0, x0, _, hx0, rfl⟩ := lbl_of g0
    obtain ⟨cs1, rfl, n1, y1, g1⟩ := open_struct fields26 (hval 1 26 v1 rfl rfl) h1
    obtain ⟨a1, x1, _, hx1, rfl⟩ := lbl_of g1
    exact labelTells_walk a0 a1 x0 x1 hx0 hx1 _ hM

theorem labelTells_row : Rows.LabelTellsSaid :=
  OpenClaim.holds_of_wide 4 Tryd.f4 rfl rfl rfl rfl rfl rfl rfl ⟨rfl, rfl, rfl, rfl, rfl⟩ rfl rfl rfl rfl rfl (by kernel_rfl) Tryd.func4 (by kernel_rfl)
    (of_decide_eq_true (by kernel_rfl)) (by unfold Func.isWrapper; first | (rw [if_pos (by decide +kernel)]; kernel_rfl) | (rw [if_neg (by decide +kernel)]; exact ⟨rfl, rfl⟩))
    (fun os started H enc _ => labelTells_lifted os started H enc)
theorem labelTells_holds : Rows.LabelTellsCardSaid :=
  Claim7.holds_tied_plain_at .later [] [.data, .data, .data, .sentinel, .sentinel] true (true, "cfe63c5658b6bd1a0fc7e38934e65126801f8a0fa6b3d3db120216d21a504323") true
    labelTells_row (fun _ h => by cases h) (by kernel_rfl) (fun _ h => by cases h) labelTells_row_tie rfl ⟨rfl, rfl⟩ (by kernel_rfl) rfl
    (fun f fn hf hfn => by
      obtain rfl : f = 4 := Option.some.inj ((show Tryd.prog.funcNamed "lockage/lockagelaw01.LabelTells" = some 4 by kernel_rfl).symm.trans hf) |>.symm
      obtain rfl : fn = Tryd.f4 := (Option.some.inj (Tryd.func4.symm.trans hfn)).symm
      exact ⟨by kernel_rfl, fun j t ht => by
        rw [Tryd.params4] at ht
        have hm : t ∈ [26, 26] := by simpa using Array.mem_of_getElem? ht
        have hall : ([26, 26].all fun u => !Tryd.prog.wantsStandIn u) = true := by kernel_rfl
        exact (show Tryd.prog.wantsStandIn t = false by simpa using List.all_eq_true.1 hall t hm)⟩)
    (by kernel_rfl)
end Go.Proofs.YtpkmgdpnimecfabDoor

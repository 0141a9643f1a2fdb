/- LabelOff: nothing is taken off on the way up; else something is; who may take off more may take off less. Every input. -/
import Derived.Test.YtpkmgdpnimecfabDoorLat
import Derived.Test.YtpkmgdpnimecfabDoorAwk1
import Derived.Test.YtpkmgdpnimecfabDoorOpn
import Derived.Test.YtpkmgdpnimecfabDoorTk
namespace Go.Proofs.YtpkmgdpnimecfabDoor
open Go.ChangeShapes Go.WideShapes Go.ChangeAt Go.RowKit

set_option maxRecDepth 100000 in
set_option maxHeartbeats 16000000 in
theorem labelOff_walk (a b c : Int) (x y u : Nat) (hx : x < 65536) (hy : y < 65536) (hu : u < 65536) (w : World) (hM : Met w) :
    Calls Tryd.prog 7 #[(.agg #[.int .i64 (a), .int .u16 ((x : Nat) : Int)]), (.agg #[.int .i64 (b), .int .u16 ((y : Nat) : Int)]), (.agg #[.int .i64 (c), .int .u16 ((u : Nat) : Int)])] w fun e w' => e = .returned (.bool true) ∧ Below w.heap.size w w' := by
  have HM := Lib.hid hM
  have KA := Lib.hid (fun W => ref01Right a x W)
  have KB := Lib.hid (fun W => ref01Right b y W)
  have KC := Lib.hid (fun W => ref01Right c u W)
  have RA := Lib.hid (show rightLv a = true → 0 ≤ a from fun h => (right_le h).1)
  have RB := Lib.hid (show rightLv b = true → 0 ≤ b from fun h => (right_le h).1)
  have HX := Lib.hid hx
  have HY := Lib.hid hy
  have HU := Lib.hid hu
  generalize rightLv a = ra at KA RA
  generalize rightLv b = rb at KB RB
  generalize rightLv c = rc at KC
  clear hM hx hy hu
  go_enter Tryd.func7, Tryd.ntmps7
  have HB := Lib.hid (below1 w (.cells #[.int .i64 (a), .int .u16 ((x : Nat) : Int)] 26))
  have HX1 := Lib.hid (LBx.mk w a x)
  have HA := Lib.hid (below1 (w.alloc (.cells #[.int .i64 a, .int .u16 ((x : Nat) : Int)] 26)) (.cells #[.int .i64 (b), .int .u16 ((y : Nat) : Int)] 26))
  have HB := Lib.hid (HB.out.trans (HA.out.mono HB.out.size))
  have HX1 := Lib.hid (HX1.out.below HA.out)
  have HX2 := Lib.hid (LBx.mk2 (b := w.heap.size + 1) (w.alloc (.cells #[.int .i64 a, .int .u16 ((x : Nat) : Int)] 26)) (b) (y) (by simp))
  have HA := Lib.hid (below1 ((w.alloc (.cells #[.int .i64 a, .int .u16 ((x : Nat) : Int)] 26)).alloc (.cells #[.int .i64 (b), .int .u16 ((y : Nat) : Int)] 26)) (.cells #[.int .i64 (c), .int .u16 ((u : Nat) : Int)] 26))
  have HB := Lib.hid (HB.out.trans (HA.out.mono HB.out.size))
  have HX1 := Lib.hid (HX1.out.below HA.out)
  have HX2 := Lib.hid (HX2.out.below HA.out)
  have HX3 := Lib.hid (LBx.mk2 (b := w.heap.size + 1 + 1) ((w.alloc (.cells #[.int .i64 a, .int .u16 ((x : Nat) : Int)] 26)).alloc (.cells #[.int .i64 (b), .int .u16 ((y : Nat) : Int)] 26)) (c) (u) (by simp))
  obtain ⟨z1, c10, c11, _, _⟩ := HX1.out
  obtain ⟨z2, c20, c21, _, _⟩ := HX2.out
  obtain ⟨z3, c30, c31, _, _⟩ := HX3.out
  go_wp2_with fail
  clear c10 c11 z1 c20 c21 z2 c30 c31 z3
  refine (KA.out _).mono ?_
  rintro e w1 ⟨rfl, hb⟩
  have HB := Lib.hid (HB.out.trans (hb.mono HB.out.size))
  have HX1 := Lib.hid (HX1.out.below hb)
  have HX2 := Lib.hid (HX2.out.below hb)
  have HX3 := Lib.hid (HX3.out.below hb)
  clear hb
  obtain ⟨z1, c10, c11, _, _⟩ := HX1.out
  obtain ⟨z2, c20, c21, _, _⟩ := HX2.out
  obtain ⟨z3, c30, c31, _, _⟩ := HX3.out
  cases ra with
  | false =>
    have HB2 := Lib.hid HB.out
    go_wp2_with fail
    refine (awake01 _ (HM.out.below HB.out)).mono ?_
    rintro e wz ⟨rfl, hb⟩
    have HB := Lib.hid (HB.out.trans (hb.mono HB.out.size))
    clear hb
    go_wp2
    go_ret
    exact ⟨rfl, HB.out⟩
  | true =>
    go_wp2_with fail
    clear c10 c11 z1 c20 c21 z2 c30 c31 z3
    refine (KB.out _).mono ?_
    rintro e w2 ⟨rfl, hb⟩
    have HB := Lib.hid (HB.out.trans (hb.mono HB.out.size))
    have HX1 := Lib.hid (HX1.out.below hb)
    have HX2 := Lib.hid (HX2.out.below hb)
    have HX3 := Lib.hid (HX3.out.below hb)
    clear hb
    obtain ⟨z1, c10, c11, _, _⟩ := HX1.out
    obtain ⟨z2, c20, c21, _, _⟩ := HX2.out
    obtain ⟨z3, c30, c31, _, _⟩ := HX3.out
    cases rb with
    | false =>
      have HB2 := Lib.hid HB.out
      go_wp2_with fail
      refine (awake01 _ (HM.out.below HB.out)).mono ?_
      rintro e wz ⟨rfl, hb⟩
      have HB := Lib.hid (HB.out.trans (hb.mono HB.out.size))
      clear hb
      go_wp2
      go_ret
      exact ⟨rfl, HB.out⟩
    | true =>
      go_wp2_with fail
      clear c10 c11 z1 c20 c21 z2 c30 c31 z3
      refine (KC.out _).mono ?_
      rintro e w3 ⟨rfl, hb⟩
      have HB := Lib.hid (HB.out.trans (hb.mono HB.out.size))
      have HX1 := Lib.hid (HX1.out.below hb)
      have HX2 := Lib.hid (HX2.out.below hb)
      have HX3 := Lib.hid (HX3.out.below hb)
      clear hb
      obtain ⟨z1, c10, c11, _, _⟩ := HX1.out
      obtain ⟨z2, c20, c21, _, _⟩ := HX2.out
      obtain ⟨z3, c30, c31, _, _⟩ := HX3.out
      cases rc with
      | false =>
        have HB2 := Lib.hid HB.out
        go_wp2_with fail
        refine (awake01 _ (HM.out.below HB.out)).mono ?_
        rintro e wz ⟨rfl, hb⟩
        have HB := Lib.hid (HB.out.trans (hb.mono HB.out.size))
        clear hb
        go_wp2
        go_ret
        exact ⟨rfl, HB.out⟩
      | true =>
        have ha := RA.out trivial
        have hb0 := RB.out trivial
        have k33 := fun W => labelOff a b x y HX.out HY.out W
        have HZ := Lib.hid (mNot_lt (b := y) HX.out)
        have e1 := off_none (a := a) (b := b) x y hb0
        have e2 := off_leq (a := a) b HX.out HY.out ha
        have e3 : leqB (offLv a b) (mNot x y) c u = true → leqB (offLv a b) (mNot x y) (joinLv c b) (mOr u y) = true := leqB_joinL HZ.out HU.out HY.out
        generalize offLv a b = o at k33 e1 e2 e3
        generalize mNot x y = z at k33 e1 e2 e3 HZ
        have k1 := fun W => labelLeq a b x y HX.out HY.out W
        have k2 := fun W => labelLeq o a z x HZ.out HX.out W
        have k3 := fun W => labelOver a o x z HX.out HZ.out W
        have k4 := fun W => labelOver c o u z HU.out HZ.out W
        have k5 := fun W => labelJoin c b u y HU.out HY.out W
        have k6 := fun W => labelOver (joinLv c b) o (mOr u y) z (mOr_lt HU.out HY.out) HZ.out W
        rw [e2] at k2 k3
        generalize leqB a x b y = r at k1 e1
        generalize leqB o z (joinLv c b) (mOr u y) = s at k6 e3
        generalize leqB o z c u = t at k4 e3
        have hE := fun W => run_eqL' o 0 z 0 W
        rw [e1] at hE
        have hE : ∀ W, (binOp .eql 26 (.agg #[.int .i64 (o), .int .u16 ((z : Nat) : Int)]) (.agg #[.int .i64 0, .int .u16 0])).run Tryd.prog W = .ok (.bool r) W := hE
        have hgu := eqGuard26
        generalize joinLv c b = jl at k5 k6
        generalize mOr u y = jx at k5 k6
        have K1 := Lib.hid k1
        have K2 := Lib.hid k2
        have K3 := Lib.hid k3
        have K4 := Lib.hid k4
        have K5 := Lib.hid k5
        have K6 := Lib.hid k6
        have K33 := Lib.hid k33
        have E3 := Lib.hid e3
        clear k1 k2 k3 k4 k5 k6 k33 e1 e2 e3 ha hb0 RA RB KA KB KC
        go_wp2_with fail
        clear c10 c11 z1 c20 c21 z2 c30 c31 z3
        refine (K33.out _).mono ?_
        rintro e w4 ⟨rfl, hb⟩
        have HB := Lib.hid (HB.out.trans (hb.mono HB.out.size))
        have HX1 := Lib.hid (HX1.out.below hb)
        have HX2 := Lib.hid (HX2.out.below hb)
        have HX3 := Lib.hid (HX3.out.below hb)
        clear hb
        obtain ⟨z1, c10, c11, _, _⟩ := HX1.out
        obtain ⟨z2, c20, c21, _, _⟩ := HX2.out
        obtain ⟨z3, c30, c31, _, _⟩ := HX3.out
        go_upto_region 4 with fail
        clear c10 c11 z1 c20 c21 z2 c30 c31 z3
        have HA := Lib.hid (below1 w4 (.cells #[.int .i64 (o), .int .u16 ((z : Nat) : Int)] 26))
        obtain ⟨W, hW⟩ : ∃ W, W = w4.alloc (.cells #[.int .i64 (o), .int .u16 ((z : Nat) : Int)] 26) := ⟨_, rfl⟩
        rw [← hW]
        have HBW : Hid (Below w.heap.size w W) := Lib.hid (by rw [hW]; exact HB.out.trans (HA.out.mono HB.out.size))
        have HX1 : Hid (LBx w.heap.size a x W) := Lib.hid (by rw [hW]; exact HX1.out.below HA.out)
        have HX2 : Hid (LBx (w.heap.size + 1) b y W) := Lib.hid (by rw [hW]; exact HX2.out.below HA.out)
        have HX3 : Hid (LBx (w.heap.size + 1 + 1) c u W) := Lib.hid (by rw [hW]; exact HX3.out.below HA.out)
        have HX4 : Hid (LBx w4.heap.size o z W) := Lib.hid (by rw [hW]; exact LBx.mk w4 o z)
        clear hW HA
        obtain ⟨z1, c10, c11, _, _⟩ := HX1.out
        obtain ⟨z2, c20, c21, _, _⟩ := HX2.out
        obtain ⟨z3, c30, c31, _, _⟩ := HX3.out
        obtain ⟨z4, c40, c41, _, _⟩ := HX4.out
        have HMW := Lib.hid (HM.out.below HBW.out)
        have K25 : Hid (∀ w', (fun w' => (∀ b o, b < (W).heap.size → w'.cell? ⟨b, o, none⟩ = (W).cell? ⟨b, o, none⟩) ∧ Below (W).heap.size (W) w') w' → Calls Tryd.prog 25 #[] w' fun e w'' => e = .returned (.bool true) ∧ Below w'.heap.size w' w'') := Lib.hid (fun w' h => awake01 w' (HMW.out.below h.2))
        clear HX1 HX2 HX3 HX4 HB
        generalize w.heap.size + 1 + 1 = b3 at *
        generalize w.heap.size + 1 = b2 at *
        generalize w4.heap.size = b4 at *
        cases t with
        | false =>
          refine wp_region_held_drew (S := (fun w' => (∀ b o, b < (W).heap.size → w'.cell? ⟨b, o, none⟩ = (W).cell? ⟨b, o, none⟩) ∧ Below (W).heap.size (W) w')) (by kernel_rfl) (stay0 _) (fun hHeld => ?_)
          try dsimp only [List.size_toArray, List.length_cons, List.length_nil]
          refine wpAnyH_ready (rs := [0]) (by kernel_rfl) (by simp) (readyL rfl (fun K hK => ?_) AllReadyH.nil)
          go_simp
          with_reducible refine (K25.out _ ‹_›).mono ?_
          rintro e w' ⟨rfl, hb⟩
          try dsimp only
          refine hK.out _ _ (stay ‹_› ‹_›) (fun hHeld => ?_)
          clear hK K
          try simp only [Act.put, List.setIfInBounds_toArray, List.set_cons_zero, List.set_cons_succ]
          refine takeL (i := 1) rfl (v := ?v1) (by kernel_rfl) (by kernel_rfl) (by kernel_rfl) (fun _ _ _ h => h) (Or.inl ⟨by rfl, fun _w _hSw => ?hy1⟩) (by assumption) ?rest1
          case hy1 =>
            (try dsimp only at _hSw)
            go_simp
            try with_reducible rfl
          try simp only [Act.put, List.setIfInBounds_toArray, List.set_cons_zero, List.set_cons_succ]
          refine takeL (i := 2) rfl (v := ?v2) (by kernel_rfl) (by kernel_rfl) (by kernel_rfl) (fun _ _ _ h => h) (Or.inl ⟨by rfl, fun _w _hSw => ?hy2⟩) (by assumption) ?rest2
          case hy2 =>
            (try dsimp only at _hSw)
            go_simp
            try with_reducible rfl
          try simp only [Act.put, List.setIfInBounds_toArray, List.set_cons_zero, List.set_cons_succ]
          refine takeL (i := 3) rfl (v := ?v3) (by kernel_rfl) (by kernel_rfl) (by kernel_rfl) (fun _ _ _ h => h) (Or.inl ⟨by rfl, fun _w _hSw => ?hy3⟩) (by assumption) ?rest3
          case hy3 =>
            (try dsimp only at _hSw)
            go_simp
            try with_reducible rfl
          try simp only [Act.put, List.setIfInBounds_toArray, List.set_cons_zero, List.set_cons_succ]
          refine takeL (i := 4) rfl (v := ?v4) (by kernel_rfl) (by kernel_rfl) (by kernel_rfl) (fun _ _ _ h => h) (Or.inl ⟨by rfl, fun _w _hSw => ?hy4⟩) (by assumption) ?rest4
          case hy4 =>
            (try dsimp only at _hSw)
            go_simp
            try with_reducible rfl
          try simp only [Act.put, List.setIfInBounds_toArray, List.set_cons_zero, List.set_cons_succ]
          refine takeL (i := 5) rfl (v := ?v5) (by kernel_rfl) (by kernel_rfl) (by kernel_rfl) (fun _ _ _ h => h) (Or.inl ⟨by rfl, fun _w _hSw => ?hy5⟩) (by assumption) ?rest5
          case hy5 =>
            (try dsimp only at _hSw)
            go_simp
            try with_reducible rfl
          try simp only [Act.put, List.setIfInBounds_toArray, List.set_cons_zero, List.set_cons_succ]
          refine takeL (i := 6) rfl (v := ?v6) (by kernel_rfl) (by kernel_rfl) (by kernel_rfl) (fun _ _ _ h => h) (Or.inl ⟨by rfl, fun _w _hSw => ?hy6⟩) (by assumption) ?rest6
          case hy6 =>
            (try dsimp only at _hSw)
            go_simp
            try with_reducible rfl
          try simp only [Act.put, List.setIfInBounds_toArray, List.set_cons_zero, List.set_cons_succ]
          refine wpAnyH_ready (rs := [7]) (by kernel_rfl) (by simp) (readyL rfl (fun K hK => ?_) AllReadyH.nil)
          go_simp
          with_reducible refine (K1.out _).mono ?_
          rintro e w' ⟨rfl, hb⟩
          try dsimp only
          refine hK.out _ _ (stay ‹_› ‹_›) (fun hHeld => ?_)
          clear hK K
          try simp only [Act.put, List.setIfInBounds_toArray, List.set_cons_zero, List.set_cons_succ]
          refine takeL (i := 8) rfl (v := ?v8) (by kernel_rfl) (by kernel_rfl) (by kernel_rfl) (fun _ _ _ h => h) (Or.inl ⟨by rfl, fun _w _hSw => ?hy8⟩) (by assumption) ?rest8
          case hy8 =>
            (try dsimp only at _hSw)
            go_simp
            try with_reducible rfl
          try simp only [Act.put, List.setIfInBounds_toArray, List.set_cons_zero, List.set_cons_succ]
          refine takeL (i := 9) rfl (v := ?v9) (by kernel_rfl) (by kernel_rfl) (by kernel_rfl) (fun _ _ _ h => h) (Or.inl ⟨by rfl, fun _w _hSw => ?hy9⟩) (by assumption) ?rest9
          case hy9 =>
            (try dsimp only at _hSw)
            go_simp
            try with_reducible rfl
          try simp only [Act.put, List.setIfInBounds_toArray, List.set_cons_zero, List.set_cons_succ]
          refine takeL (i := 10) rfl (v := ?v10) (by kernel_rfl) (by kernel_rfl) (by kernel_rfl) (fun _ _ _ h => h) (Or.inl ⟨by rfl, fun _w _hSw => ?hy10⟩) (by assumption) ?rest10
          case hy10 =>
            (try dsimp only at _hSw)
            go_simp
            try with_reducible rfl
          try simp only [Act.put, List.setIfInBounds_toArray, List.set_cons_zero, List.set_cons_succ]
          refine takeL (i := 11) rfl (v := ?v11) (by kernel_rfl) (by kernel_rfl) (by kernel_rfl) (fun _ _ _ h => h) (Or.inl ⟨by rfl, fun _w _hSw => ?hy11⟩) (by assumption) ?rest11
          case hy11 =>
            (try dsimp only at _hSw)
            go_simp
            try with_reducible rfl
          try simp only [Act.put, List.setIfInBounds_toArray, List.set_cons_zero, List.set_cons_succ]
          refine takeL (i := 12) rfl (v := ?v12) (by kernel_rfl) (by kernel_rfl) (by kernel_rfl) (fun _ _ _ h => h) (Or.inl ⟨by rfl, fun _w _hSw => ?hy12⟩) (by assumption) ?rest12
          case hy12 =>
            (try dsimp only at _hSw)
            go_simp
            try with_reducible rfl
          try simp only [Act.put, List.setIfInBounds_toArray, List.set_cons_zero, List.set_cons_succ]
          refine wpAnyH_ready (rs := [13]) (by kernel_rfl) (by simp) (readyL rfl (fun K hK => ?_) AllReadyH.nil)
          go_simp
          with_reducible refine (K2.out _).mono ?_
          rintro e w' ⟨rfl, hb⟩
          try dsimp only
          refine hK.out _ _ (stay ‹_› ‹_›) (fun hHeld => ?_)
          clear hK K
          try simp only [Act.put, List.setIfInBounds_toArray, List.set_cons_zero, List.set_cons_succ]
          refine takeL (i := 14) rfl (v := ?v14) (by kernel_rfl) (by kernel_rfl) (by kernel_rfl) (fun _ _ _ h => h) (Or.inl ⟨by rfl, fun _w _hSw => ?hy14⟩) (by assumption) ?rest14
          case hy14 =>
            (try dsimp only at _hSw)
            go_simp
            try with_reducible rfl
          try simp only [Act.put, List.setIfInBounds_toArray, List.set_cons_zero, List.set_cons_succ]
          refine takeL (i := 15) rfl (v := ?v15) (by kernel_rfl) (by kernel_rfl) (by kernel_rfl) (fun _ _ _ h => h) (Or.inl ⟨by rfl, fun _w _hSw => ?hy15⟩) (by assumption) ?rest15
          case hy15 =>
            (try dsimp only at _hSw)
            go_simp
            try with_reducible rfl
          try simp only [Act.put, List.setIfInBounds_toArray, List.set_cons_zero, List.set_cons_succ]
          refine takeL (i := 16) rfl (v := ?v16) (by kernel_rfl) (by kernel_rfl) (by kernel_rfl) (fun _ _ _ h => h) (Or.inl ⟨by rfl, fun _w _hSw => ?hy16⟩) (by assumption) ?rest16
          case hy16 =>
            (try dsimp only at _hSw)
            go_simp
            try with_reducible rfl
          try simp only [Act.put, List.setIfInBounds_toArray, List.set_cons_zero, List.set_cons_succ]
          refine takeL (i := 17) rfl (v := ?v17) (by kernel_rfl) (by kernel_rfl) (by kernel_rfl) (fun _ _ _ h => h) (Or.inl ⟨by rfl, fun _w _hSw => ?hy17⟩) (by assumption) ?rest17
          case hy17 =>
            (try dsimp only at _hSw)
            go_simp
            try with_reducible rfl
          try simp only [Act.put, List.setIfInBounds_toArray, List.set_cons_zero, List.set_cons_succ]
          refine wpAnyH_ready (rs := [18]) (by kernel_rfl) (by simp) (readyL rfl (fun K hK => ?_) AllReadyH.nil)
          go_simp
          with_reducible refine (K3.out _).mono ?_
          rintro e w' ⟨rfl, hb⟩
          try dsimp only
          refine hK.out _ _ (stay ‹_› ‹_›) (fun hHeld => ?_)
          clear hK K
          try simp only [Act.put, List.setIfInBounds_toArray, List.set_cons_zero, List.set_cons_succ]
          refine takeL (i := 19) rfl (v := ?v19) (by kernel_rfl) (by kernel_rfl) (by kernel_rfl) (fun _ _ _ h => h) (Or.inl ⟨by rfl, fun _w _hSw => ?hy19⟩) (by assumption) ?rest19
          case hy19 =>
            (try dsimp only at _hSw)
            go_simp
            try with_reducible rfl
          try simp only [Act.put, List.setIfInBounds_toArray, List.set_cons_zero, List.set_cons_succ]
          refine takeL (i := 20) rfl (v := ?v20) (by kernel_rfl) (by kernel_rfl) (by kernel_rfl) (fun _ _ _ h => h) (Or.inl ⟨by rfl, fun _w _hSw => ?hy20⟩) (by assumption) ?rest20
          case hy20 =>
            (try dsimp only at _hSw)
            go_simp
            try with_reducible rfl
          try simp only [Act.put, List.setIfInBounds_toArray, List.set_cons_zero, List.set_cons_succ]
          refine takeL (i := 21) rfl (v := ?v21) (by kernel_rfl) (by kernel_rfl) (by kernel_rfl) (fun _ _ _ h => h) (Or.inl ⟨by rfl, fun _w _hSw => ?hy21⟩) (by assumption) ?rest21
          case hy21 =>
            (try dsimp only at _hSw)
            go_simp
            try with_reducible rfl
          try simp only [Act.put, List.setIfInBounds_toArray, List.set_cons_zero, List.set_cons_succ]
          refine takeL (i := 22) rfl (v := ?v22) (by kernel_rfl) (by kernel_rfl) (by kernel_rfl) (fun _ _ _ h => h) (Or.inl ⟨by rfl, fun _w _hSw => ?hy22⟩) (by assumption) ?rest22
          case hy22 =>
            (try dsimp only at _hSw)
            go_simp
            try with_reducible rfl
          try simp only [Act.put, List.setIfInBounds_toArray, List.set_cons_zero, List.set_cons_succ]
          refine wpAnyH_ready (rs := [23]) (by kernel_rfl) (by simp) (readyL rfl (fun K hK => ?_) AllReadyH.nil)
          go_simp
          with_reducible refine (K4.out _).mono ?_
          rintro e w' ⟨rfl, hb⟩
          try dsimp only
          refine hK.out _ _ (stay ‹_› ‹_›) (fun hHeld => ?_)
          clear hK K
          try simp only [Act.put, List.setIfInBounds_toArray, List.set_cons_zero, List.set_cons_succ]
          refine takeL (i := 24) rfl (v := ?v24) (by kernel_rfl) (by kernel_rfl) (by kernel_rfl) (fun _ _ _ h => h) (Or.inl ⟨by rfl, fun _w _hSw => ?hy24⟩) (by assumption) ?rest24
          case hy24 =>
            (try dsimp only at _hSw)
            go_simp
            try with_reducible rfl
          try simp only [Act.put, List.setIfInBounds_toArray, List.set_cons_zero, List.set_cons_succ]
          refine takeL (i := 25) rfl (v := ?v25) (by kernel_rfl) (by kernel_rfl) (by kernel_rfl) (fun _ _ _ h => h) (Or.inl ⟨by rfl, fun _w _hSw => ?hy25⟩) (by assumption) ?rest25
          case hy25 =>
            (try dsimp only at _hSw)
            go_simp
            try with_reducible rfl
          try simp only [Act.put, List.setIfInBounds_toArray, List.set_cons_zero, List.set_cons_succ]
          refine takeL (i := 26) rfl (v := undef) (by kernel_rfl) (by kernel_rfl) (by kernel_rfl) (fun _ _ _ h => h) (Or.inr ⟨by rfl, rfl⟩) (by assumption) ?_
          try simp only [Act.put, List.setIfInBounds_toArray, List.set_cons_zero, List.set_cons_succ]
          refine takeL (i := 27) rfl (v := undef) (by kernel_rfl) (by kernel_rfl) (by kernel_rfl) (fun _ _ _ h => h) (Or.inr ⟨by rfl, rfl⟩) (by assumption) ?_
          try simp only [Act.put, List.setIfInBounds_toArray, List.set_cons_zero, List.set_cons_succ]
          refine takeL (i := 28) rfl (v := undef) (by kernel_rfl) (by kernel_rfl) (by kernel_rfl) (fun _ _ _ h => h) (Or.inr ⟨by rfl, rfl⟩) (by assumption) ?_
          try simp only [Act.put, List.setIfInBounds_toArray, List.set_cons_zero, List.set_cons_succ]
          refine takeL (i := 29) rfl (v := undef) (by kernel_rfl) (by kernel_rfl) (by kernel_rfl) (fun _ _ _ h => h) (Or.inr ⟨by rfl, rfl⟩) (by assumption) ?_
          try simp only [Act.put, List.setIfInBounds_toArray, List.set_cons_zero, List.set_cons_succ]
          refine takeL (i := 30) rfl (v := undef) (by kernel_rfl) (by kernel_rfl) (by kernel_rfl) (fun _ _ _ h => h) (Or.inr ⟨by rfl, rfl⟩) (by assumption) ?_
          try simp only [Act.put, List.setIfInBounds_toArray, List.set_cons_zero, List.set_cons_succ]
          refine takeL (i := 31) rfl (v := ?v31) (by kernel_rfl) (by kernel_rfl) (by kernel_rfl) (fun _ _ _ h => h) (Or.inl ⟨by rfl, fun _w _hSw => ?hy31⟩) (by assumption) ?rest31
          case hy31 =>
            (try dsimp only at _hSw)
            go_simp
            try with_reducible rfl
          try simp only [Act.put, List.setIfInBounds_toArray, List.set_cons_zero, List.set_cons_succ]
          refine takeL (i := 32) rfl (v := ?v32) (by kernel_rfl) (by kernel_rfl) (by kernel_rfl) (fun _ _ _ h => h) (Or.inl ⟨by rfl, fun _w _hSw => ?hy32⟩) (by assumption) ?rest32
          case hy32 =>
            (try dsimp only at _hSw)
            go_simp
            try with_reducible rfl
          try simp only [Act.put, List.setIfInBounds_toArray, List.set_cons_zero, List.set_cons_succ]
          refine takeL (i := 33) rfl (v := ?v33) (by kernel_rfl) (by kernel_rfl) (by kernel_rfl) (fun _ _ _ h => h) (Or.inl ⟨by rfl, fun _w _hSw => ?hy33⟩) (by assumption) ?rest33
          case hy33 =>
            (try dsimp only at _hSw)
            go_simp
            try with_reducible rfl
          try simp only [Act.put, List.setIfInBounds_toArray, List.set_cons_zero, List.set_cons_succ]
          refine wpAnyH_done (by kernel_rfl) ?_ _
          go_wp2_with fail
          go_wp2
          go_ret
          exact ⟨by simp, stayEnd HBW.out HBW.out.size ‹_›⟩
        | true =>
          obtain rfl := E3.out rfl
          go_region_held3 (fun w' => (∀ b o, b < (W).heap.size → w'.cell? ⟨b, o, none⟩ = (W).cell? ⟨b, o, none⟩) ∧ Below (W).heap.size (W) w') (first | exact stay0 _ | exact stay ‹_› ‹_› | exact ‹_›)
            (first
              | (go_at_call 30; (with_reducible refine (K1.out _).mono ?_); rintro e w' ⟨rfl, hb⟩)
              | (go_at_call 30; (with_reducible refine (K2.out _).mono ?_); rintro e w' ⟨rfl, hb⟩)
              | (go_at_call 35; (with_reducible refine (K3.out _).mono ?_); rintro e w' ⟨rfl, hb⟩)
              | (go_at_call 35; (with_reducible refine (K4.out _).mono ?_); rintro e w' ⟨rfl, hb⟩)
              | (go_at_call 27; (with_reducible refine (K5.out _).mono ?_); rintro e w' ⟨rfl, hb⟩)
              | (go_at_call 35; (with_reducible refine (K6.out _).mono ?_); rintro e w' ⟨rfl, hb⟩)
              | (go_at_call 25; (with_reducible refine (K25.out _ ‹_›).mono ?_); rintro e w' ⟨rfl, hb⟩))
          go_wp2
          go_ret
          exact ⟨by simp, stayEnd HBW.out HBW.out.size ‹_›⟩

theorem okI_of {n : Int} (h : (Lit.int .i64 n).wf = true) : okI n := by
  simp [Lit.wf, IntKind.min, IntKind.max, IntKind.bits, IntKind.signed] at h
  exact ⟨by omega, by omega⟩
set_option maxRecDepth 100000 in
theorem labelOff_lifted (os : Os) (started : os.Started) (H : Type) (enc : TypeId × Value → H) :
    ReturnsInHanded {} Tryd.checked os 7 .any (fun w args => (Rows.labelOffSpec.pre enc Tryd.prog Tryd.f7 [] false w args ∧ laidMetH Tryd.prog laidL w) ∧ sizedMet enc Tryd.prog Tryd.f7 (OpenSpec.ofChange Rows.labelOffSpec) false w args) (Rows.labelOffSpec.post enc Tryd.prog Tryd.f7 false true false false) := by
  refine law_liftD started Tryd.func7 (by kernel_rfl) (by kernel_rfl) rfl (by kernel_rfl) ?_
    (ChangeSpec.witness_shaped (enc := enc) (C := Tryd.checked) (os := os) (X := fun w _ => laidMetH Tryd.prog laidL w) false (World.doorLaid Tryd.prog 69 os) #[.agg #[.int .i64 0, .int .u16 0], .agg #[.int .i64 0, .int .u16 0], .agg #[.int .i64 0, .int .u16 0]] 8 rfl (World.shaped_of_RefB (by kernel_rfl) (by kernel_rfl)) (by kernel_rfl) (by kernel_rfl) (by kernel_rfl) (door_met os _)) ?_
  · intro ds hd
    rw [Tryd.params7] at hd
    match ds, hd with
    | [d0, d1, d2], _ => rfl
  · intro W base args ds ps hM hval hA
    rw [Tryd.params7] at hA hval
    obtain ⟨v0, vs0, d0, ds0, p0, q0, hargs, rfl, rfl, h0, r0⟩ := trodAll_cons hA
    obtain ⟨v1, vs1, d1, ds1, p1, q1, rfl, rfl, rfl, h1, r1⟩ := trodAll_cons r0
    obtain ⟨v2, vs2, d2, ds2, p2, q2, rfl, rfl, rfl, h2, r2⟩ := trodAll_cons r1
    obtain ⟨rfl, rfl, rfl⟩ := trodAll_nil r2
    obtain rfl : args = #[v0, v1, v2] := by cases args; simp_all
    obtain ⟨cs0, rfl, n0, y0, g0⟩ := open_struct fields26 (hval 0 26 v0 rfl rfl) h0
    obtain ⟨a0, x0, _, hx0, rfl⟩ := lbl_of g0
    obtain ⟨cs1, rfl, n1, y1, g1⟩ := open_struct fields26 (hval 1 26 v1 rfl rfl) h1
    obtain ⟨a1, x1, _, hx1, rfl⟩ := lbl_of g1
    obtain ⟨cs2, rfl, n2, y2, g2⟩ := open_struct fields26 (hval 2 26 v2 rfl rfl) h2
    obtain ⟨a2, x2, _, hx2, rfl⟩ := lbl_of g2
    exact labelOff_walk a0 a1 a2 x0 x1 x2 hx0 hx1 hx2 _ hM

theorem labelOff_row : Rows.LabelOffSaid :=
  OpenClaim.holds_of_wide 7 Tryd.f7 rfl rfl rfl rfl rfl rfl rfl ⟨rfl, rfl, rfl, rfl, rfl⟩ rfl rfl rfl rfl rfl (by kernel_rfl) Tryd.func7 (by kernel_rfl)
    (of_decide_eq_true (by kernel_rfl)) (by unfold Func.isWrapper; first | (rw [if_pos (by decide +kernel)]; kernel_rfl) | (rw [if_neg (by decide +kernel)]; exact ⟨rfl, rfl⟩))
    (fun os started H enc _ => labelOff_lifted os started H enc)
theorem labelOff_holds : Rows.LabelOffCardSaid :=
  Claim7.holds_tied_plain_at .later [] [.data, .data, .data, .sentinel, .sentinel] true (true, "cfe63c5658b6bd1a0fc7e38934e65126801f8a0fa6b3d3db120216d21a504323") true
    labelOff_row (fun _ h => by cases h) (by kernel_rfl) (fun _ h => by cases h) labelOff_row_tie rfl ⟨rfl, rfl⟩ (by kernel_rfl) rfl
    (fun f fn hf hfn => by
      obtain rfl : f = 7 := Option.some.inj ((show Tryd.prog.funcNamed "lockage/lockagelaw01.LabelOff" = some 7 by kernel_rfl).symm.trans hf) |>.symm
      obtain rfl : fn = Tryd.f7 := (Option.some.inj (Tryd.func7.symm.trans hfn)).symm
      exact ⟨by kernel_rfl, fun j t ht => by
        rw [Tryd.params7] at ht
        have hm : t ∈ [26, 26, 26] := by simpa using Array.mem_of_getElem? ht
        have hall : ([26, 26, 26].all fun u => !Tryd.prog.wantsStandIn u) = true := by kernel_rfl
        exact (show Tryd.prog.wantsStandIn t = false by simpa using List.all_eq_true.1 hall t hm)⟩)
    (by kernel_rfl)
end Go.Proofs.YtpkmgdpnimecfabDoor

/- The statements' own awake of layer 1 answers true. No condition but what the listed variables hold. -/
import Derived.Test.YtpkmgdpnimecfabDoorPub
import Derived.Test.YtpkmgdpnimecfabDoorTxt2
import Derived.Deep.DeepCutAuto
namespace Go.Proofs.YtpkmgdpnimecfabDoor
open Go.RowKit

theorem lp1 : LpRes [50, 58, 48, 48, 48, 51] = .tuple #[(.agg #[.int .i64 (2), .int .u16 ((3 : Nat) : Int)]), .int .i64 0] := by
  have h : parseL [50, 58, 48, 48, 48, 51] = some (2, 3) := by decide +kernel
  unfold LpRes
  rw [h]
theorem lp2 : LpRes [56, 58, 48, 48, 48, 48] = .tuple #[(.agg #[.int .i64 (0), .int .u16 ((0 : Nat) : Int)]), .int .i64 3] := by
  have h : parseL [56, 58, 48, 48, 48, 48] = none := by decide +kernel
  unfold LpRes
  rw [h]
theorem lp3 : LpRes [49, 58, 48, 48, 71, 48] = .tuple #[(.agg #[.int .i64 (0), .int .u16 ((0 : Nat) : Int)]), .int .i64 3] := by
  have h : parseL [49, 58, 48, 48, 71, 48] = none := by decide +kernel
  unfold LpRes
  rw [h]
theorem tx1 : txtL 2 3 = [50, 58, 48, 48, 48, 51] := by decide +kernel
theorem tx2 : txtL 8 0 = [] := by decide +kernel
set_option maxRecDepth 100000 in
set_option maxHeartbeats 8000000 in
theorem awake01 (w : World) (hM : Met w) : Calls Tryd.prog 25 #[] w fun e w' => e = .returned (.bool true) ∧ Below w.heap.size w w' := by
  have HM := Lib.hid hM
  have q1 := labelParse [50, 58, 48, 48, 48, 51]
  have q2 := labelParse [56, 58, 48, 48, 48, 48]
  have q3 := labelParse [49, 58, 48, 48, 71, 48]
  rw [lp1] at q1
  rw [lp2] at q2
  rw [lp3] at q3
  have k1 := fun W => labelJoin 2 1 1 2 (by omega) (by omega) W
  rw [show joinLv 2 1 = 2 from rfl, show mOr 1 2 = 3 from rfl] at k1
  have k2 := fun W => labelMeet 2 1 1 2 (by omega) (by omega) W
  rw [show meetLv 2 1 = 1 from rfl, show mAnd 1 2 = 0 from rfl] at k2
  have k3 := fun W => labelLeq 2 2 1 3 (by omega) (by omega) W
  rw [show leqB 2 1 2 3 = true by decide +kernel] at k3
  have k4 := fun W => labelLeq 2 2 3 1 (by omega) (by omega) W
  rw [show leqB 2 3 2 1 = false by decide +kernel] at k4
  have k5 := fun W => labelLess 2 2 1 3 (by omega) (by omega) W
  rw [show lessB 2 1 2 3 = true by decide +kernel] at k5
  have k6 := fun W => labelLess 2 2 1 1 (by omega) (by omega) W
  rw [show lessB 2 1 2 1 = false by decide +kernel] at k6
  have k7 := fun W => labelOff 5 1 3 1 (by omega) (by omega) W
  rw [show offLv 5 1 = 5 from rfl, show mNot 3 1 = 2 by decide +kernel] at k7
  have k8 := fun W => labelOver 2 2 3 1 (by omega) (by omega) W
  rw [show leqB 2 1 2 3 = true by decide +kernel] at k8
  have k9 := fun W => labelText 2 3 (by omega) W
  rw [tx1] at k9
  have k10 := fun W => labelRight 2 3 W
  rw [show rightLv 2 = true by decide +kernel] at k10
  have k11 := fun W => labelText 8 0 (by omega) W
  rw [tx2] at k11
  have hE1 : ∀ W, (binOp .eql 26 (.agg #[.int .i64 (2), .int .u16 (3)]) (.agg #[.int .i64 (2), .int .u16 (3)])).run Tryd.prog W = .ok (.bool true) W := fun W => run_eqL' 2 2 3 3 W
  have hE2 : ∀ W, (binOp .eql 26 (.agg #[.int .i64 (1), .int .u16 (0)]) (.agg #[.int .i64 (1), .int .u16 (0)])).run Tryd.prog W = .ok (.bool true) W := fun W => run_eqL' 1 1 0 0 W
  have hE3 : ∀ W, (binOp .eql 26 (.agg #[.int .i64 (5), .int .u16 (2)]) (.agg #[.int .i64 (5), .int .u16 (2)])).run Tryd.prog W = .ok (.bool true) W := fun W => run_eqL' 5 5 2 2 W
  have hgu := eqGuard26
  have Q1 := Lib.hid q1
  have Q2 := Lib.hid q2
  have Q3 := Lib.hid q3
  have K1 : Hid (∀ W, Calls Tryd.prog 27 #[(.agg #[.int .i64 (2), .int .u16 (1)]), (.agg #[.int .i64 (1), .int .u16 (2)])] W fun e w' => e = .returned (.agg #[.int .i64 (2), .int .u16 (3)]) ∧ Below W.heap.size W w') := Lib.hid k1
  have K2 : Hid (∀ W, Calls Tryd.prog 28 #[(.agg #[.int .i64 (2), .int .u16 (1)]), (.agg #[.int .i64 (1), .int .u16 (2)])] W fun e w' => e = .returned (.agg #[.int .i64 (1), .int .u16 (0)]) ∧ Below W.heap.size W w') := Lib.hid k2
  have K3 : Hid (∀ W, Calls Tryd.prog 30 #[(.agg #[.int .i64 (2), .int .u16 (1)]), (.agg #[.int .i64 (2), .int .u16 (3)])] W fun e w' => e = .returned (.bool true) ∧ Below W.heap.size W w') := Lib.hid k3
  have K4 : Hid (∀ W, Calls Tryd.prog 30 #[(.agg #[.int .i64 (2), .int .u16 (3)]), (.agg #[.int .i64 (2), .int .u16 (1)])] W fun e w' => e = .returned (.bool false) ∧ Below W.heap.size W w') := Lib.hid k4
  have K5 : Hid (∀ W, Calls Tryd.prog 32 #[(.agg #[.int .i64 (2), .int .u16 (1)]), (.agg #[.int .i64 (2), .int .u16 (3)])] W fun e w' => e = .returned (.bool true) ∧ Below W.heap.size W w') := Lib.hid k5
  have K6 : Hid (∀ W, Calls Tryd.prog 32 #[(.agg #[.int .i64 (2), .int .u16 (1)]), (.agg #[.int .i64 (2), .int .u16 (1)])] W fun e w' => e = .returned (.bool false) ∧ Below W.heap.size W w') := Lib.hid k6
  have K7 : Hid (∀ W, Calls Tryd.prog 33 #[(.agg #[.int .i64 (5), .int .u16 (3)]), (.agg #[.int .i64 (1), .int .u16 (1)])] W fun e w' => e = .returned (.agg #[.int .i64 (5), .int .u16 (2)]) ∧ Below W.heap.size W w') := Lib.hid k7
  have K8 : Hid (∀ W, Calls Tryd.prog 35 #[(.agg #[.int .i64 (2), .int .u16 (3)]), (.agg #[.int .i64 (2), .int .u16 (1)])] W fun e w' => e = .returned (.bool true) ∧ Below W.heap.size W w') := Lib.hid k8
  have K10 : Hid (∀ W, Calls Tryd.prog 26 #[(.agg #[.int .i64 (2), .int .u16 (3)])] W fun e w' => e = .returned (.bool true) ∧ Below W.heap.size W w') := Lib.hid k10
  clear hM q1 q2 q3 k1 k2 k3 k4 k5 k6 k7 k8 k10
  go_enter Tryd.func25, Tryd.ntmps25
  have HB := Lib.hid (below1 w (.cells #[.int .i64 2, .int .u16 ((1 : Nat) : Int)] 26))
  have HX1 := Lib.hid (LBx.mk w 2 1)
  obtain ⟨z1, c10, c11, _, _⟩ := HX1.out
  go_wp2_with fail
  clear c10 c11 z1
  have HA := Lib.hid (below1 (w.alloc (.cells #[.int .i64 2, .int .u16 ((1 : Nat) : Int)] 26)) (.cells #[.int .i64 (1), .int .u16 ((2 : Nat) : Int)] 26))
  have HB := Lib.hid (HB.out.trans (HA.out.mono HB.out.size))
  have HX1 := Lib.hid (HX1.out.below HA.out)
  have HX2 := Lib.hid (LBx.mk2 (b := w.heap.size + 1) (w.alloc (.cells #[.int .i64 2, .int .u16 ((1 : Nat) : Int)] 26)) (1) (2) (by simp))
  refine (Q1.out _ (HM.out.below HB.out)).mono ?_
  rintro e w1 ⟨rfl, hb⟩
  have HB := Lib.hid (HB.out.trans (hb.mono HB.out.size))
  have HX1 := Lib.hid (HX1.out.below hb)
  have HX2 := Lib.hid (HX2.out.below hb)
  clear hb
  obtain ⟨z1, c10, c11, _, _⟩ := HX1.out
  obtain ⟨z2, c20, c21, _, _⟩ := HX2.out
  go_wp2_with fail
  clear c10 c11 z1 c20 c21 z2
  have HA := Lib.hid (below1 w1 (.cells #[.int .i64 (2), .int .u16 ((3 : Nat) : Int)] 26))
  have HB := Lib.hid (HB.out.trans (HA.out.mono HB.out.size))
  have HX1 := Lib.hid (HX1.out.below HA.out)
  have HX2 := Lib.hid (HX2.out.below HA.out)
  have HX3 := Lib.hid (LBx.mk w1 (2) (3))
  refine (Q2.out _ (HM.out.below HB.out)).mono ?_
  rintro e w2 ⟨rfl, hb⟩
  have HB := Lib.hid (HB.out.trans (hb.mono HB.out.size))
  have HX1 := Lib.hid (HX1.out.below hb)
  have HX2 := Lib.hid (HX2.out.below hb)
  have HX3 := Lib.hid (HX3.out.below hb)
  clear hb
  obtain ⟨z1, c10, c11, _, _⟩ := HX1.out
  obtain ⟨z2, c20, c21, _, _⟩ := HX2.out
  obtain ⟨z3, c30, c31, _, _⟩ := HX3.out
  go_wp2_with fail
  clear c10 c11 z1 c20 c21 z2 c30 c31 z3
  have HA := Lib.hid (below1 w2 (.cells #[.int .i64 (0), .int .u16 ((0 : Nat) : Int)] 26))
  have HB := Lib.hid (HB.out.trans (HA.out.mono HB.out.size))
  have HX1 := Lib.hid (HX1.out.below HA.out)
  have HX2 := Lib.hid (HX2.out.below HA.out)
  have HX3 := Lib.hid (HX3.out.below HA.out)
  refine (Q3.out _ (HM.out.below HB.out)).mono ?_
  rintro e w3 ⟨rfl, hb⟩
  have HB := Lib.hid (HB.out.trans (hb.mono HB.out.size))
  have HX1 := Lib.hid (HX1.out.below hb)
  have HX2 := Lib.hid (HX2.out.below hb)
  have HX3 := Lib.hid (HX3.out.below hb)
  clear hb
  obtain ⟨z1, c10, c11, _, _⟩ := HX1.out
  obtain ⟨z2, c20, c21, _, _⟩ := HX2.out
  obtain ⟨z3, c30, c31, _, _⟩ := HX3.out
  go_upto_region 5 with fail
  simp only [List.append_eq, List.cons_append, List.nil_append]
  clear c10 c11 z1 c20 c21 z2 c30 c31 z3
  have HA := Lib.hid (below1 w3 (.cells #[.int .i64 0, .int .u16 0] 26))
  obtain ⟨W, hW⟩ : ∃ W, W = w3.alloc (.cells #[.int .i64 0, .int .u16 0] 26) := ⟨_, rfl⟩
  rw [← hW]
  have HBW : Hid (Below w.heap.size w W) := Lib.hid (by rw [hW]; exact HB.out.trans (HA.out.mono HB.out.size))
  have HX1 : Hid (LBx w.heap.size 2 1 W) := Lib.hid (by rw [hW]; exact HX1.out.below HA.out)
  have HX2 : Hid (LBx (w.heap.size + 1) 1 2 W) := Lib.hid (by rw [hW]; exact HX2.out.below HA.out)
  have HX3 : Hid (LBx w1.heap.size 2 3 W) := Lib.hid (by rw [hW]; exact HX3.out.below HA.out)
  clear hW HA
  obtain ⟨z1, c10, c11, _, _⟩ := HX1.out
  obtain ⟨z2, c20, c21, _, _⟩ := HX2.out
  obtain ⟨z3, c30, c31, _, _⟩ := HX3.out
  have HMW := Lib.hid (HM.out.below HBW.out)
  have K9 : Hid (∀ w', (fun w' => (∀ b o, b < (W).heap.size → w'.cell? ⟨b, o, none⟩ = (W).cell? ⟨b, o, none⟩) ∧ Below (W).heap.size (W) w') w' → Calls Tryd.prog 36 #[(.agg #[.int .i64 (2), .int .u16 (3)])] w' fun e w'' => e = .returned (.string ⟨#[50, 58, 48, 48, 48, 51]⟩) ∧ Below w'.heap.size w' w'') := Lib.hid (fun w' h => k9 w' (HMW.out.below h.2))
  have K11 : Hid (∀ w', (fun w' => (∀ b o, b < (W).heap.size → w'.cell? ⟨b, o, none⟩ = (W).cell? ⟨b, o, none⟩) ∧ Below (W).heap.size (W) w') w' → Calls Tryd.prog 36 #[(.agg #[.int .i64 (8), .int .u16 (0)])] w' fun e w'' => e = .returned (.string ⟨#[]⟩) ∧ Below w'.heap.size w' w'') := Lib.hid (fun w' h => k11 w' (HMW.out.below h.2))
  clear k9 k11
  clear HX1 HX2 HX3
  generalize w.heap.size + 1 = b2 at *
  generalize w1.heap.size = b3 at *
  go_region_held3 (fun w' => (∀ b o, b < (W).heap.size → w'.cell? ⟨b, o, none⟩ = (W).cell? ⟨b, o, none⟩) ∧ Below (W).heap.size (W) w') (first | exact stay0 _ | exact stay ‹_› ‹_› | exact ‹_›)
    (first
      | (go_at_call 27; (with_reducible refine (K1.out _).mono ?_); rintro e w' ⟨rfl, hb⟩)
      | (go_at_call 28; (with_reducible refine (K2.out _).mono ?_); rintro e w' ⟨rfl, hb⟩)
      | (go_at_call 30; (with_reducible refine (K3.out _).mono ?_); rintro e w' ⟨rfl, hb⟩)
      | (go_at_call 30; (with_reducible refine (K4.out _).mono ?_); rintro e w' ⟨rfl, hb⟩)
      | (go_at_call 32; (with_reducible refine (K5.out _).mono ?_); rintro e w' ⟨rfl, hb⟩)
      | (go_at_call 32; (with_reducible refine (K6.out _).mono ?_); rintro e w' ⟨rfl, hb⟩)
      | (go_at_call 33; (with_reducible refine (K7.out _).mono ?_); rintro e w' ⟨rfl, hb⟩)
      | (go_at_call 35; (with_reducible refine (K8.out _).mono ?_); rintro e w' ⟨rfl, hb⟩)
      | (go_at_call 36; (with_reducible refine (K9.out _ ‹_›).mono ?_); rintro e w' ⟨rfl, hb⟩)
      | (go_at_call 26; (with_reducible refine (K10.out _).mono ?_); rintro e w' ⟨rfl, hb⟩)
      | (go_at_call 36; (with_reducible refine (K11.out _ ‹_›).mono ?_); rintro e w' ⟨rfl, hb⟩))
  go_wp2
  go_ret
  exact ⟨rfl, stayEnd HBW.out HBW.out.size ‹_›⟩
end Go.Proofs.YtpkmgdpnimecfabDoor

/- LabelReads: any text is the label that the document says, or none; what is written is read as it was. Every input. -/
import Derived.Test.YtpkmgdpnimecfabDoorLat
import Derived.Test.YtpkmgdpnimecfabDoorAwk1
import Derived.Test.YtpkmgdpnimecfabDoorRPr
import Derived.Test.YtpkmgdpnimecfabDoorOpn
namespace Go.Proofs.YtpkmgdpnimecfabDoor
open Go.ChangeShapes Go.WideShapes Go.ChangeAt Go.RowKit

theorem lp_txt {a : Int} {x : Nat} (h : rightLv a = true) (hx : x < 65536) : LpRes (txtL a x) = .tuple #[(.agg #[.int .i64 (a), .int .u16 ((x : Nat) : Int)]), .int .i64 0] := by
  unfold LpRes
  rw [parseL_txt h hx]
theorem lp_no {a : Int} {x : Nat} (h : rightLv a = false) : LpRes (txtL a x) = .tuple #[(.agg #[.int .i64 (0), .int .u16 ((0 : Nat) : Int)]), .int .i64 3] := by
  unfold LpRes
  rw [txtL_wrong h, parseL_nil]
theorem both_read (l : List UInt8) : (∃ a x, LpRes l = .tuple #[(.agg #[.int .i64 (a), .int .u16 ((x : Nat) : Int)]), .int .i64 0] ∧ RpRes l = .tuple #[(.agg #[.int .i64 (a), .int .u16 ((x : Nat) : Int)]), .bool true]) ∨ (LpRes l = .tuple #[(.agg #[.int .i64 (0), .int .u16 ((0 : Nat) : Int)]), .int .i64 3] ∧ RpRes l = .tuple #[(.agg #[.int .i64 (0), .int .u16 ((0 : Nat) : Int)]), .bool false]) := by
  have h := parse_eq l
  unfold LpRes RpRes
  rw [← h]
  rcases parseL l with _ | ⟨a, x⟩
  · exact .inr ⟨rfl, rfl⟩
  · exact .inl ⟨a, x, rfl, rfl⟩
set_option maxRecDepth 100000 in
set_option maxHeartbeats 16000000 in
theorem labelReads_walk (t : ByteArray) (a : Int) (x : Nat) (hx : x < 65536) (w : World) (hM : Met w) :
    Calls Tryd.prog 5 #[.string t, (.agg #[.int .i64 (a), .int .u16 ((x : Nat) : Int)])] w fun e w' => e = .returned (.bool true) ∧ Below w.heap.size w w' := by
  have HM := Lib.hid hM
  have kr := fun W => ref01Right a x W
  have k36 := fun W (h : Met W) => labelText a x hx W h
  have k37 := fun W (h : Met W) => labelParse (txtL a x) W h
  have p1 := fun W (h : Met W) => labelParse t.data.toList W h
  have p2 := fun W => ref01Parse t.data.toList W
  have hb := both_read t.data.toList
  rw [show (⟨t.data.toList.toArray⟩ : ByteArray) = t from rfl] at p1 p2
  generalize LpRes t.data.toList = V1 at p1 hb
  generalize RpRes t.data.toList = V2 at p2 hb
  have h1 := Lib.hid (show rightLv a = true → LpRes (txtL a x) = .tuple #[(.agg #[.int .i64 (a), .int .u16 ((x : Nat) : Int)]), .int .i64 0] from fun h => lp_txt h hx)
  have h2 := Lib.hid (show rightLv a = false → LpRes (txtL a x) = .tuple #[(.agg #[.int .i64 (0), .int .u16 ((0 : Nat) : Int)]), .int .i64 3] from fun h => lp_no h)
  generalize LpRes (txtL a x) = V3 at k37 h1 h2
  generalize (⟨(txtL a x).toArray⟩ : ByteArray) = T at k36 k37
  have KR := Lib.hid kr
  have K36 := Lib.hid k36
  have K37 := Lib.hid k37
  have P1 := Lib.hid p1
  have P2 := Lib.hid p2
  have HBO := Lib.hid hb
  have hE : ∀ W, (binOp .eql 26 (.agg #[.int .i64 (a), .int .u16 ((x : Nat) : Int)]) (.agg #[.int .i64 (a), .int .u16 ((x : Nat) : Int)])).run Tryd.prog W = .ok (.bool true) W := fun W => by rw [run_eqL', sameB_self]
  have hgu := eqGuard26
  clear hM hx kr k36 k37 p1 p2 hb
  by_cases hs : 100 < t.size
  · go_enter Tryd.func5, Tryd.ntmps5
    have HB := Lib.hid (below1 w (.cells #[.int .i64 (a), .int .u16 ((x : Nat) : Int)] 26))
    have HX1 := Lib.hid (LBx.mk w a x)
    obtain ⟨z1, c10, c11, _, _⟩ := HX1.out
    go_wp2_with fail
    clear c10 c11 z1
    refine (awake01 _ (HM.out.below HB.out)).mono ?_
    rintro e w1 ⟨rfl, hb⟩
    have HB := Lib.hid (HB.out.trans (hb.mono HB.out.size))
    have HX1 := Lib.hid (HX1.out.below hb)
    clear hb
    obtain ⟨z1, c10, c11, _, _⟩ := HX1.out
    go_wp2_with fail
    clear c10 c11 z1
    refine (awake01 _ (HM.out.below HB.out)).mono ?_
    rintro e w2 ⟨rfl, hb⟩
    have HB := Lib.hid (HB.out.trans (hb.mono HB.out.size))
    have HX1 := Lib.hid (HX1.out.below hb)
    clear hb
    obtain ⟨z1, c10, c11, _, _⟩ := HX1.out
    go_wp2
    go_ret
    exact ⟨rfl, HB.out⟩
  · go_enter Tryd.func5, Tryd.ntmps5
    have HB := Lib.hid (below1 w (.cells #[.int .i64 (a), .int .u16 ((x : Nat) : Int)] 26))
    have HX1 := Lib.hid (LBx.mk w a x)
    obtain ⟨z1, c10, c11, _, _⟩ := HX1.out
    go_wp2_with fail
    clear c10 c11 z1
    refine (awake01 _ (HM.out.below HB.out)).mono ?_
    rintro e w1 ⟨rfl, hb⟩
    have HB := Lib.hid (HB.out.trans (hb.mono HB.out.size))
    have HX1 := Lib.hid (HX1.out.below hb)
    clear hb
    obtain ⟨z1, c10, c11, _, _⟩ := HX1.out
    go_wp2_with fail
    clear c10 c11 z1
    refine (P1.out _ (HM.out.below HB.out)).mono ?_
    rintro e w2 ⟨rfl, hb⟩
    have HB := Lib.hid (HB.out.trans (hb.mono HB.out.size))
    have HX1 := Lib.hid (HX1.out.below hb)
    clear hb
    obtain ⟨z1, c10, c11, _, _⟩ := HX1.out
    rcases HBO.out with ⟨pa, px, e1, e2⟩ | ⟨e1, e2⟩
    · subst e1 e2
      have hN : ∀ W, (binOp .neq 26 (.agg #[.int .i64 (pa), .int .u16 ((px : Nat) : Int)]) (.agg #[.int .i64 (pa), .int .u16 ((px : Nat) : Int)])).run Tryd.prog W = .ok (.bool false) W := fun W => by rw [run_neqL', sameB_self]; rfl
      go_wp2_with fail
      clear c10 c11 z1
      have HA := Lib.hid (below1 w2 (.cells #[.int .i64 (pa), .int .u16 ((px : Nat) : Int)] 26))
      have HB := Lib.hid (HB.out.trans (HA.out.mono HB.out.size))
      have HX1 := Lib.hid (HX1.out.below HA.out)
      have HX2 := Lib.hid (LBx.mk w2 (pa) (px))
      refine (P2.out _).mono ?_
      rintro e w3 ⟨rfl, hb⟩
      have HB := Lib.hid (HB.out.trans (hb.mono HB.out.size))
      have HX1 := Lib.hid (HX1.out.below hb)
      have HX2 := Lib.hid (HX2.out.below hb)
      clear hb
      obtain ⟨z1, c10, c11, _, _⟩ := HX1.out
      obtain ⟨z2, c20, c21, _, _⟩ := HX2.out
      go_wp2_with fail
      clear c10 c11 z1 c20 c21 z2
      have HA := Lib.hid (below1 w3 (.cells #[.int .i64 (pa), .int .u16 ((px : Nat) : Int)] 26))
      have HB := Lib.hid (HB.out.trans (HA.out.mono HB.out.size))
      have HX1 := Lib.hid (HX1.out.below HA.out)
      have HX2 := Lib.hid (HX2.out.below HA.out)
      have HX3 := Lib.hid (LBx.mk w3 (pa) (px))
      refine (K36.out _ (HM.out.below HB.out)).mono ?_
      rintro e w4 ⟨rfl, hb⟩
      have HB := Lib.hid (HB.out.trans (hb.mono HB.out.size))
      have HX1 := Lib.hid (HX1.out.below hb)
      have HX2 := Lib.hid (HX2.out.below hb)
      have HX3 := Lib.hid (HX3.out.below hb)
      clear hb
      obtain ⟨z1, c10, c11, _, _⟩ := HX1.out
      obtain ⟨z2, c20, c21, _, _⟩ := HX2.out
      obtain ⟨z3, c30, c31, _, _⟩ := HX3.out
      go_wp2_with fail
      clear c10 c11 z1 c20 c21 z2 c30 c31 z3
      refine (K37.out _ (HM.out.below HB.out)).mono ?_
      rintro e w5 ⟨rfl, hb⟩
      have HB := Lib.hid (HB.out.trans (hb.mono HB.out.size))
      have HX1 := Lib.hid (HX1.out.below hb)
      have HX2 := Lib.hid (HX2.out.below hb)
      have HX3 := Lib.hid (HX3.out.below hb)
      clear hb
      obtain ⟨z1, c10, c11, _, _⟩ := HX1.out
      obtain ⟨z2, c20, c21, _, _⟩ := HX2.out
      obtain ⟨z3, c30, c31, _, _⟩ := HX3.out
      cases hr : rightLv a with
      | false =>
        have e3 := h2.out hr
        subst e3
        go_wp2_with fail
        clear c10 c11 z1 c20 c21 z2 c30 c31 z3
        have HA := Lib.hid (below1 w5 (.cells #[.int .i64 (0), .int .u16 ((0 : Nat) : Int)] 26))
        have HB := Lib.hid (HB.out.trans (HA.out.mono HB.out.size))
        have HX1 := Lib.hid (HX1.out.below HA.out)
        have HX2 := Lib.hid (HX2.out.below HA.out)
        have HX3 := Lib.hid (HX3.out.below HA.out)
        refine (KR.out _).mono ?_
        rintro e w6 ⟨rfl, hb⟩
        have HB := Lib.hid (HB.out.trans (hb.mono HB.out.size))
        have HX1 := Lib.hid (HX1.out.below hb)
        have HX2 := Lib.hid (HX2.out.below hb)
        have HX3 := Lib.hid (HX3.out.below hb)
        clear hb
        rw [hr]
        obtain ⟨z1, c10, c11, _, _⟩ := HX1.out
        obtain ⟨z2, c20, c21, _, _⟩ := HX2.out
        obtain ⟨z3, c30, c31, _, _⟩ := HX3.out
        go_wp2
        go_ret
        exact ⟨rfl, HB.out⟩
      | true =>
        have e3 := h1.out hr
        subst e3
        go_wp2_with fail
        clear c10 c11 z1 c20 c21 z2 c30 c31 z3
        have HA := Lib.hid (below1 w5 (.cells #[.int .i64 (a), .int .u16 ((x : Nat) : Int)] 26))
        have HB := Lib.hid (HB.out.trans (HA.out.mono HB.out.size))
        have HX1 := Lib.hid (HX1.out.below HA.out)
        have HX2 := Lib.hid (HX2.out.below HA.out)
        have HX3 := Lib.hid (HX3.out.below HA.out)
        have HX4 := Lib.hid (LBx.mk w5 (a) (x))
        refine (KR.out _).mono ?_
        rintro e w6 ⟨rfl, hb⟩
        have HB := Lib.hid (HB.out.trans (hb.mono HB.out.size))
        have HX1 := Lib.hid (HX1.out.below hb)
        have HX2 := Lib.hid (HX2.out.below hb)
        have HX3 := Lib.hid (HX3.out.below hb)
        have HX4 := Lib.hid (HX4.out.below hb)
        clear hb
        rw [hr]
        obtain ⟨z1, c10, c11, _, _⟩ := HX1.out
        obtain ⟨z2, c20, c21, _, _⟩ := HX2.out
        obtain ⟨z3, c30, c31, _, _⟩ := HX3.out
        obtain ⟨z4, c40, c41, _, _⟩ := HX4.out
        go_wp2_with fail
        clear c10 c11 z1 c20 c21 z2 c30 c31 z3 c40 c41 z4
        refine (KR.out _).mono ?_
        rintro e w7 ⟨rfl, hb⟩
        have HB := Lib.hid (HB.out.trans (hb.mono HB.out.size))
        have HX1 := Lib.hid (HX1.out.below hb)
        have HX2 := Lib.hid (HX2.out.below hb)
        have HX3 := Lib.hid (HX3.out.below hb)
        have HX4 := Lib.hid (HX4.out.below hb)
        clear hb
        rw [hr]
        obtain ⟨z1, c10, c11, _, _⟩ := HX1.out
        obtain ⟨z2, c20, c21, _, _⟩ := HX2.out
        obtain ⟨z3, c30, c31, _, _⟩ := HX3.out
        obtain ⟨z4, c40, c41, _, _⟩ := HX4.out
        go_wp2
        go_ret
        exact ⟨rfl, HB.out⟩
    · subst e1 e2
      have hN : ∀ W, (binOp .neq 26 (.agg #[.int .i64 0, .int .u16 0]) (.agg #[.int .i64 0, .int .u16 0])).run Tryd.prog W = .ok (.bool false) W := fun W => by have := run_neqL' 0 0 0 0 W; rw [sameB_self] at this; exact this
      go_wp2_with fail
      clear c10 c11 z1
      have HA := Lib.hid (below1 w2 (.cells #[.int .i64 (0), .int .u16 ((0 : Nat) : Int)] 26))
      have HB := Lib.hid (HB.out.trans (HA.out.mono HB.out.size))
      have HX1 := Lib.hid (HX1.out.below HA.out)
      have HX2 := Lib.hid (LBx.mk w2 (0) (0))
      refine (P2.out _).mono ?_
      rintro e w3 ⟨rfl, hb⟩
      have HB := Lib.hid (HB.out.trans (hb.mono HB.out.size))
      have HX1 := Lib.hid (HX1.out.below hb)
      have HX2 := Lib.hid (HX2.out.below hb)
      clear hb
      obtain ⟨z1, c10, c11, _, _⟩ := HX1.out
      obtain ⟨z2, c20, c21, _, _⟩ := HX2.out
      go_wp2_with fail
      clear c10 c11 z1 c20 c21 z2
      have HA := Lib.hid (below1 w3 (.cells #[.int .i64 (0), .int .u16 ((0 : Nat) : Int)] 26))
      have HB := Lib.hid (HB.out.trans (HA.out.mono HB.out.size))
      have HX1 := Lib.hid (HX1.out.below HA.out)
      have HX2 := Lib.hid (HX2.out.below HA.out)
      have HX3 := Lib.hid (LBx.mk w3 (0) (0))
      refine (K36.out _ (HM.out.below HB.out)).mono ?_
      rintro e w4 ⟨rfl, hb⟩
      have HB := Lib.hid (HB.out.trans (hb.mono HB.out.size))
      have HX1 := Lib.hid (HX1.out.below hb)
      have HX2 := Lib.hid (HX2.out.below hb)
      have HX3 := Lib.hid (HX3.out.below hb)
      clear hb
      obtain ⟨z1, c10, c11, _, _⟩ := HX1.out
      obtain ⟨z2, c20, c21, _, _⟩ := HX2.out
      obtain ⟨z3, c30, c31, _, _⟩ := HX3.out
      go_wp2_with fail
      clear c10 c11 z1 c20 c21 z2 c30 c31 z3
      refine (K37.out _ (HM.out.below HB.out)).mono ?_
      rintro e w5 ⟨rfl, hb⟩
      have HB := Lib.hid (HB.out.trans (hb.mono HB.out.size))
      have HX1 := Lib.hid (HX1.out.below hb)
      have HX2 := Lib.hid (HX2.out.below hb)
      have HX3 := Lib.hid (HX3.out.below hb)
      clear hb
      obtain ⟨z1, c10, c11, _, _⟩ := HX1.out
      obtain ⟨z2, c20, c21, _, _⟩ := HX2.out
      obtain ⟨z3, c30, c31, _, _⟩ := HX3.out
      cases hr : rightLv a with
      | false =>
        have e3 := h2.out hr
        subst e3
        go_wp2_with fail
        clear c10 c11 z1 c20 c21 z2 c30 c31 z3
        have HA := Lib.hid (below1 w5 (.cells #[.int .i64 (0), .int .u16 ((0 : Nat) : Int)] 26))
        have HB := Lib.hid (HB.out.trans (HA.out.mono HB.out.size))
        have HX1 := Lib.hid (HX1.out.below HA.out)
        have HX2 := Lib.hid (HX2.out.below HA.out)
        have HX3 := Lib.hid (HX3.out.below HA.out)
        refine (KR.out _).mono ?_
        rintro e w6 ⟨rfl, hb⟩
        have HB := Lib.hid (HB.out.trans (hb.mono HB.out.size))
        have HX1 := Lib.hid (HX1.out.below hb)
        have HX2 := Lib.hid (HX2.out.below hb)
        have HX3 := Lib.hid (HX3.out.below hb)
        clear hb
        rw [hr]
        obtain ⟨z1, c10, c11, _, _⟩ := HX1.out
        obtain ⟨z2, c20, c21, _, _⟩ := HX2.out
        obtain ⟨z3, c30, c31, _, _⟩ := HX3.out
        go_wp2
        go_ret
        exact ⟨rfl, HB.out⟩
      | true =>
        have e3 := h1.out hr
        subst e3
        go_wp2_with fail
        clear c10 c11 z1 c20 c21 z2 c30 c31 z3
        have HA := Lib.hid (below1 w5 (.cells #[.int .i64 (a), .int .u16 ((x : Nat) : Int)] 26))
        have HB := Lib.hid (HB.out.trans (HA.out.mono HB.out.size))
        have HX1 := Lib.hid (HX1.out.below HA.out)
        have HX2 := Lib.hid (HX2.out.below HA.out)
        have HX3 := Lib.hid (HX3.out.below HA.out)
        have HX4 := Lib.hid (LBx.mk w5 (a) (x))
        refine (KR.out _).mono ?_
        rintro e w6 ⟨rfl, hb⟩
        have HB := Lib.hid (HB.out.trans (hb.mono HB.out.size))
        have HX1 := Lib.hid (HX1.out.below hb)
        have HX2 := Lib.hid (HX2.out.below hb)
        have HX3 := Lib.hid (HX3.out.below hb)
        have HX4 := Lib.hid (HX4.out.below hb)
        clear hb
        rw [hr]
        obtain ⟨z1, c10, c11, _, _⟩ := HX1.out
        obtain ⟨z2, c20, c21, _, _⟩ := HX2.out
        obtain ⟨z3, c30, c31, _, _⟩ := HX3.out
        obtain ⟨z4, c40, c41, _, _⟩ := HX4.out
        go_wp2_with fail
        clear c10 c11 z1 c20 c21 z2 c30 c31 z3 c40 c41 z4
        refine (KR.out _).mono ?_
        rintro e w7 ⟨rfl, hb⟩
        have HB := Lib.hid (HB.out.trans (hb.mono HB.out.size))
        have HX1 := Lib.hid (HX1.out.below hb)
        have HX2 := Lib.hid (HX2.out.below hb)
        have HX3 := Lib.hid (HX3.out.below hb)
        have HX4 := Lib.hid (HX4.out.below hb)
        clear hb
        rw [hr]
        obtain ⟨z1, c10, c11, _, _⟩ := HX1.out
        obtain ⟨z2, c20, c21, _, _⟩ := HX2.out
        obtain ⟨z3, c30, c31, _, _⟩ := HX3.out
        obtain ⟨z4, c40, c41, _, _⟩ := HX4.out
        go_wp2
        go_ret
        exact ⟨rfl, HB.out⟩

theorem okI_of {n : Int} (h : (Lit.int .i64 n).wf = true) : okI n := by
  simp [Lit.wf, IntKind.min, IntKind.max, IntKind.bits, IntKind.signed] at h
  exact ⟨by omega, by omega⟩
set_option maxRecDepth 100000 in
theorem labelReads_lifted (os : Os) (started : os.Started) (H : Type) (enc : TypeId × Value → H) :
    ReturnsInHanded {} Tryd.checked os 5 .any (fun w args => (Rows.labelReadsSpec.pre enc Tryd.prog Tryd.f5 [] false w args ∧ laidMetH Tryd.prog laidL w) ∧ sizedMet enc Tryd.prog Tryd.f5 (OpenSpec.ofChange Rows.labelReadsSpec) false w args) (Rows.labelReadsSpec.post enc Tryd.prog Tryd.f5 false true false false) := by
  refine law_liftD started Tryd.func5 (by kernel_rfl) (by kernel_rfl) rfl (by kernel_rfl) ?_
    (ChangeSpec.witness_shaped (enc := enc) (C := Tryd.checked) (os := os) (X := fun w _ => laidMetH Tryd.prog laidL w) false (World.doorLaid Tryd.prog 69 os) #[.string ⟨#[]⟩, .agg #[.int .i64 0, .int .u16 0]] 8 rfl (World.shaped_of_RefB (by kernel_rfl) (by kernel_rfl)) (by kernel_rfl) (by kernel_rfl) (by kernel_rfl) (door_met os _)) ?_
  · intro ds hd
    rw [Tryd.params5] at hd
    match ds, hd with
    | [d0, d1], _ => rfl
  · intro W base args ds ps hM hval hA
    rw [Tryd.params5] at hA hval
    obtain ⟨v0, vs0, d0, ds0, p0, q0, hargs, rfl, rfl, h0, r0⟩ := trodAll_cons hA
    obtain ⟨v1, vs1, d1, ds1, p1, q1, rfl, rfl, rfl, h1, r1⟩ := trodAll_cons r0
    obtain ⟨rfl, rfl, rfl⟩ := trodAll_nil r1
    obtain rfl : args = #[v0, v1] := by cases args; simp_all
    obtain ⟨s0, rfl⟩ := okWide_string Tryd.underlying9 (hval 0 9 v0 rfl rfl)
    obtain ⟨cs1, rfl, n1, y1, g1⟩ := open_struct fields26 (hval 1 26 v1 rfl rfl) h1
    obtain ⟨a1, x1, _, hx1, rfl⟩ := lbl_of g1
    exact labelReads_walk _ a1 x1 hx1 _ hM

theorem labelReads_row : Rows.LabelReadsSaid :=
  OpenClaim.holds_of_wide 5 Tryd.f5 rfl rfl rfl rfl rfl rfl rfl ⟨rfl, rfl, rfl, rfl, rfl⟩ rfl rfl rfl rfl rfl (by kernel_rfl) Tryd.func5 (by kernel_rfl)
    (of_decide_eq_true (by kernel_rfl)) (by unfold Func.isWrapper; first | (rw [if_pos (by decide +kernel)]; kernel_rfl) | (rw [if_neg (by decide +kernel)]; exact ⟨rfl, rfl⟩))
    (fun os started H enc _ => labelReads_lifted os started H enc)
theorem labelReads_holds : Rows.LabelReadsCardSaid :=
  Claim7.holds_tied_plain_at .later [] [.data, .data, .data, .sentinel, .sentinel] true (true, "cfe63c5658b6bd1a0fc7e38934e65126801f8a0fa6b3d3db120216d21a504323") true
    labelReads_row (fun _ h => by cases h) (by kernel_rfl) (fun _ h => by cases h) labelReads_row_tie rfl ⟨rfl, rfl⟩ (by kernel_rfl) rfl
    (fun f fn hf hfn => by
      obtain rfl : f = 5 := Option.some.inj ((show Tryd.prog.funcNamed "lockage/lockagelaw01.LabelReads" = some 5 by kernel_rfl).symm.trans hf) |>.symm
      obtain rfl : fn = Tryd.f5 := (Option.some.inj (Tryd.func5.symm.trans hfn)).symm
      exact ⟨by kernel_rfl, fun j t ht => by
        rw [Tryd.params5] at ht
        have hm : t ∈ [9, 26] := by simpa using Array.mem_of_getElem? ht
        have hall : ([9, 26].all fun u => !Tryd.prog.wantsStandIn u) = true := by kernel_rfl
        exact (show Tryd.prog.wantsStandIn t = false by simpa using List.all_eq_true.1 hall t hm)⟩)
    (by kernel_rfl)
end Go.Proofs.YtpkmgdpnimecfabDoor

/- The statements' own awake of layer 15 answers true. Conditions: the listed variables hold what they are laid to. -/
import Derived.Test.YtbbcicengfmhiaaDoorInW
import Derived.Deep.RegionHeld3
namespace Go.Proofs.YtbbcicengfmhiaaDoor
set_option maxRecDepth 100000
open Go.RowKit

theorem seenA1 (now : Int) (b : Nat) (cv : Value) (W : World) (h : IbAt b cv [xA] W) : Calls Tryd.prog 46 #[.int .i64 now, .slice (some ⟨W.heap.size, 0, none⟩) 1 1] (W.alloc (.cells #[.pointer (some ⟨b, 0, none⟩)] 72)) (SeenPost now [some (b, cv, [xA])] (W.alloc (.cells #[.pointer (some ⟨b, 0, none⟩)] 72))) := by
  refine inbSeen now _ [some (b, cv, [xA])] _ ⟨some ⟨W.heap.size, 0, none⟩, 1, rfl, ⟨by simp, fun h => nomatch h⟩, fun _ => ⟨W.heap.size, 0, rfl, by simp, fun j hj i u hu => ?_⟩⟩ (fun k hk => ?_) (by simp [allX, inX]) (by simp)
  · have hj0 : j = 0 := by simpa using hj
    subst hj0
    have hi : i = 0 := by
      have := (List.getElem?_eq_some_iff.1 hu).1
      simp [encX] at this
      exact this
    subst hi
    rw [← hu]
    exact (BlkIs.alloc W [.pointer (some ⟨b, 0, none⟩)] 72).cell 0
  · have hk0 : k = 0 := by simpa using hk
    subst hk0
    intro b2 cv2 l2 e
    obtain ⟨rfl, rfl, rfl⟩ : b = b2 ∧ cv = cv2 ∧ [xA] = l2 := by simpa using e
    exact ⟨h.below (below1 W _), by simp⟩
theorem seenA2 (now : Int) (b : Nat) (cv : Value) (W : World) (h : IbAt b cv [xA] W) : Calls Tryd.prog 46 #[.int .i64 now, .slice (some ⟨W.heap.size, 0, none⟩) 2 2] (W.alloc (.cells #[.pointer (some ⟨b, 0, none⟩), .pointer none] 72)) (SeenPost now [some (b, cv, [xA]), none] (W.alloc (.cells #[.pointer (some ⟨b, 0, none⟩), .pointer none] 72))) := by
  refine inbSeen now _ [some (b, cv, [xA]), none] _ ⟨some ⟨W.heap.size, 0, none⟩, 2, rfl, ⟨by simp, fun h => nomatch h⟩, fun _ => ⟨W.heap.size, 0, rfl, by simp, fun j hj i u hu => ?_⟩⟩ (fun k hk => ?_) (by simp [allX, inX]) (by simp)
  · have hi : i = 0 := by
      have := (List.getElem?_eq_some_iff.1 hu).1
      simp [encX] at this
      exact this
    subst hi
    match j, hj with
    | 0, _ =>
      rw [← hu]
      exact (BlkIs.alloc W [.pointer (some ⟨b, 0, none⟩), .pointer none] 72).cell 0
    | 1, _ =>
      rw [← hu]
      exact (BlkIs.alloc W [.pointer (some ⟨b, 0, none⟩), .pointer none] 72).cell 1
  · intro b2 cv2 l2 e
    match k, hk with
    | 0, _ =>
      obtain ⟨rfl, rfl, rfl⟩ : b = b2 ∧ cv = cv2 ∧ [xA] = l2 := by simpa using e
      exact ⟨h.below (below1 W _), by simp⟩
    | 1, _ => simp at e
set_option maxHeartbeats 8000000 in
theorem awake15 (w : World) (hM : Met w) : Calls Tryd.prog 32 #[] w fun e w' => e = .returned (.bool true) ∧ Below w.heap.size w w' := by
  have HM := Lib.hid hM
  clear hM
  go_enter Tryd.func32, Tryd.ntmps32
  go_wp2_with fail
  refine (inbNew w).mono ?_
  rintro e w1 ⟨rfl, hi, hb⟩
  have hbx := below1 w1 (.cells #[.int .i64 4, .int .i64 1, .int .i64 2, .int .i64 3, .string ⟨#[97]⟩] 75)
  have hq : w.heap.size < w1.heap.size := hi.1.lt
  have HA := Lib.hid (show AwS w.heap.size w1.heap.size [] (w1.alloc (.cells #[.int .i64 4, .int .i64 1, .int .i64 2, .int .i64 3, .string ⟨#[97]⟩] 75)) from ⟨⟨_, hi.below hbx, by simp [Value.ownBlock]⟩, BlkIs.alloc w1 (encR xA) 75, by omega⟩)
  have HB := Lib.hid (hb.trans (hbx.mono hb.size))
  clear hbx hi hb
  go_wp2_with fail
  generalize hW : w1.alloc (.cells #[.int .i64 4, .int .i64 1, .int .i64 2, .int .i64 3, .string ⟨#[97]⟩] 75) = W at HA HB ⊢
  clear hW
  obtain ⟨q, hqe⟩ : ∃ q, q = w1.heap.size := ⟨_, rfl⟩
  obtain ⟨b, hbe⟩ : ∃ b, b = w.heap.size := ⟨_, rfl⟩
  have HBE := Lib.hid hbe
  rw [← hqe] at HA ⊢
  rw [← hbe] at HA HB ⊢
  clear hqe hbe hq
  have HD := Lib.hid (HA.out.below (Below.refl _ _).drew)
  have HBD := Lib.hid (HB.out.drew)
  have hc0 := HD.out.cells
  have K1 := Lib.hid (fun (W : World) (h : AwS b q [] W) => awAdd b q [] 4 1 2 3 ⟨#[97]⟩ W h (by simp) (by decide) 0 add0 [xA] put0)
  have K2 := Lib.hid (fun (W : World) (h : AwS b q [xA] W) => awAdd b q [xA] 4 1 2 3 ⟨#[97]⟩ W h (by simp) (by decide) 7 add1 [xA] put1)
  have K3 := Lib.hid (fun (W : World) (h : AwS b q [xA] W) => awAdd b q [xA] (-1) 0 0 0 ⟨#[]⟩ W h (by simp) (by decide) 1 add2 [xA] put2)
  go_region_held3 (fun X => X.cell? ⟨q, 0, none⟩ = some (.int .i64 4) ∧ X.cell? ⟨q, 1, none⟩ = some (.int .i64 1) ∧ X.cell? ⟨q, 2, none⟩ = some (.int .i64 2) ∧ X.cell? ⟨q, 3, none⟩ = some (.int .i64 3) ∧ X.cell? ⟨q, 4, none⟩ = some (.string ⟨#[97]⟩)) (first | exact hc0 | exact hc1 | exact hc2 | exact hc3) (first
    | (go_at_call 35; (with_reducible refine (K1.out _ HD.out).mono ?_); rintro e wa hp; unfold AwAdd at hp; obtain ⟨rfl, ha1, hb1⟩ := hp; have hc1 := ha1.cells; have HA1 := Lib.hid ha1; have HB1 := Lib.hid hb1; clear ha1 hb1)
    | (go_at_call 35; (with_reducible refine (K2.out _ HA1.out).mono ?_); rintro e wb hp; unfold AwAdd at hp; obtain ⟨rfl, ha2, hb2⟩ := hp; have hc2 := ha2.cells; have HA2 := Lib.hid ha2; have HB2 := Lib.hid hb2; clear ha2 hb2)
    | (go_at_call 35; (with_reducible refine (K3.out _ HA2.out).mono ?_); rintro e wc hp; unfold AwAdd at hp; obtain ⟨rfl, ha3, hb3⟩ := hp; have hc3 := ha3.cells; have HA3 := Lib.hid ha3; have HB3 := Lib.hid hb3; clear ha3 hb3))
  have HBC := Lib.hid (((HBD.out.trans HB1.out).trans HB2.out).trans HB3.out)
  rw [HBE.out] at HBC
  obtain ⟨⟨cv, hi, ho⟩, hbq, hne⟩ := HA3.out
  have HI := Lib.hid hi
  have HQ := Lib.hid hbq
  have hbb : b < wc.heap.size := hi.1.lt
  have hqq : q < wc.heap.size := hbq.lt
  clear hi hbq ho hc0 hc1 hc2 hc3 HA1 HA2 HA3 HB1 HB2 HB3 HBD HB HD HA
  have KT := Lib.hid (fun (W : World) (c : Nat) (cv : Value) (h : IbAt c cv [xA] W) (hm : Met W) => (show Calls Tryd.prog 41 #[.pointer (some ⟨c, 0, none⟩)] W fun e w' => e = .returned (.string ⟨#[49, 44, 49, 49, 44, 52, 44, 49, 44, 50, 44, 51, 44, 49, 44, 97]⟩) ∧ Below W.heap.size W w' from by
    have := inbText c cv [xA] W h okA hm
    rw [textA] at this
    exact this))
  go_wp2_with fail
  refine (KT.out wc b cv HI.out (HM.out.below HBC.out)).mono ?_
  rintro e w2 ⟨rfl, hb2⟩
  have HI := Lib.hid (HI.out.below hb2)
  have HQ := Lib.hid (HQ.out.below hb2)
  have HBC := Lib.hid (HBC.out.trans (hb2.mono HBC.out.size))
  clear hb2
  have KP := Lib.hid (show Calls Tryd.prog 40 #[.string ⟨#[49, 44, 49, 49, 44, 52, 44, 49, 44, 50, 44, 51, 44, 49, 44, 97]⟩] w2 (ParsePost [xA] w2) from by
    have := inbParse [xA] w2 okA (HM.out.below HBC.out)
    rw [textA] at this
    exact this)
  go_wp2_with fail
  refine KP.out.mono ?_
  rintro e w3 hp
  unfold ParsePost at hp
  obtain ⟨c, cc, rfl, hic, hcb, hb3⟩ := hp
  have HC := Lib.hid hic
  have HI := Lib.hid (HI.out.below hb3)
  have HQ := Lib.hid (HQ.out.below hb3)
  have HBC := Lib.hid (HBC.out.trans (hb3.mono HBC.out.size))
  clear hic hcb hb3 KP
  have q0 := HQ.out.cell 0
  have q1 := HQ.out.cell 1
  have q2 := HQ.out.cell 2
  have q3 := HQ.out.cell 3
  have q4 := HQ.out.cell 4
  simp only [encR, xA, List.getElem?_cons_zero, List.getElem?_cons_succ] at q0 q1 q2 q3 q4
  have KPr := Lib.hid (inbPrint 4 1 2 3 ⟨#[97]⟩ w3 (by decide) (HM.out.below HBC.out))
  go_wp2_with fail
  refine KPr.out.mono ?_
  rintro e w4 ⟨rfl, hb4⟩
  have HC := Lib.hid (HC.out.below hb4)
  have HI := Lib.hid (HI.out.below hb4)
  have HQ := Lib.hid (HQ.out.below hb4)
  have HBC := Lib.hid (HBC.out.trans (hb4.mono HBC.out.size))
  clear hb4 KPr q0 q1 q2 q3 q4
  have KRd := Lib.hid (show Calls Tryd.prog 37 #[.string ⟨(printL (4, 1, 2, 3, ⟨#[97]⟩)).toArray⟩] w4 fun e w' => e = .returned (.tuple #[.agg #[.int .i64 4, .int .i64 1, .int .i64 2, .int .i64 3, .string ⟨#[97]⟩], .bool true]) ∧ Below w4.heap.size w4 w' from by
    have := inbRead ⟨(printL xA).toArray⟩ w4 (by have h1 := printL_len xA; have h3 : (⟨(printL xA).toArray⟩ : ByteArray).size = (printL xA).length := List.size_toArray; omega) (HM.out.below HBC.out)
    rw [show (⟨(printL xA).toArray⟩ : ByteArray).data.toList = printL xA from rfl, readA] at this
    exact this)
  go_wp2_with fail
  refine KRd.out.mono ?_
  rintro e w5 ⟨rfl, hb5⟩
  have HC := Lib.hid (HC.out.below hb5)
  have HI := Lib.hid (HI.out.below hb5)
  have HQ := Lib.hid (HQ.out.below hb5)
  have HBC := Lib.hid (HBC.out.trans (hb5.mono HBC.out.size))
  clear hb5 KRd
  have hb6 := below1 w5 (.cells #[.int .i64 4, .int .i64 1, .int .i64 2, .int .i64 3, .string ⟨#[97]⟩] 75)
  have HC := Lib.hid (HC.out.below hb6)
  have HI := Lib.hid (HI.out.below hb6)
  have HQ := Lib.hid (HQ.out.below hb6)
  have HBC := Lib.hid (HBC.out.trans (hb6.mono HBC.out.size))
  have HY := Lib.hid (BlkIs.alloc w5 (encR xA) 75)
  clear hb6
  --REST
  have KH1 := Lib.hid (fun (W : World) (h : IbAt b cv [xA] W) => (show Calls Tryd.prog 86 #[.pointer (some ⟨b, 0, none⟩), .int .i64 2, .int .i64 3] W fun e w' => e = .returned (.bool true) ∧ Below W.heap.size W w' from by
    have := inbHas b cv [xA] 2 3 W h (by simp)
    rw [has23] at this
    exact this))
  have KH2 := Lib.hid (fun (W : World) (h : IbAt b cv [xA] W) => (show Calls Tryd.prog 86 #[.pointer (some ⟨b, 0, none⟩), .int .i64 2, .int .i64 2] W fun e w' => e = .returned (.bool false) ∧ Below W.heap.size W w' from by
    have := inbHas b cv [xA] 2 2 W h (by simp)
    rw [has22] at this
    exact this))
  have KL := Lib.hid (fun (W : World) (h : IbAt b cv [xA] W) => (show Calls Tryd.prog 45 #[.pointer (some ⟨b, 0, none⟩)] W fun e w' => e = .returned (.int .i64 1) ∧ W = w' from inbLen b cv [xA] W h (by simp)))
  obtain ⟨y, hye⟩ : ∃ y, y = w5.heap.size := ⟨_, rfl⟩
  rw [← hye] at HY
  go_wp2_with fail
  refine (KH1.out _ HI.out).mono ?_
  rintro e w6 ⟨rfl, hb⟩
  have HC := Lib.hid (HC.out.below hb)
  have HI := Lib.hid (HI.out.below hb)
  have HQ := Lib.hid (HQ.out.below hb)
  have HY := Lib.hid (HY.out.below hb)
  have HBC := Lib.hid (HBC.out.trans (hb.mono HBC.out.size))
  clear hb
  go_wp2_with fail
  refine (KH2.out _ HI.out).mono ?_
  rintro e w7 ⟨rfl, hb⟩
  have HC := Lib.hid (HC.out.below hb)
  have HI := Lib.hid (HI.out.below hb)
  have HQ := Lib.hid (HQ.out.below hb)
  have HY := Lib.hid (HY.out.below hb)
  have HBC := Lib.hid (HBC.out.trans (hb.mono HBC.out.size))
  clear hb
  go_wp2_with fail
  refine (KL.out _ HI.out).mono ?_
  rintro e w8 ⟨rfl, rfl⟩
  go_wp2_with fail
  refine (KT.out _ b cv HI.out (HM.out.below HBC.out)).mono ?_
  rintro e w9 ⟨rfl, hb⟩
  have HC := Lib.hid (HC.out.below hb)
  have HI := Lib.hid (HI.out.below hb)
  have HQ := Lib.hid (HQ.out.below hb)
  have HY := Lib.hid (HY.out.below hb)
  have HBC := Lib.hid (HBC.out.trans (hb.mono HBC.out.size))
  clear hb
  go_wp2_with fail
  refine (KT.out _ c cc HC.out (HM.out.below HBC.out)).mono ?_
  rintro e w10 ⟨rfl, hb⟩
  have HC := Lib.hid (HC.out.below hb)
  have HI := Lib.hid (HI.out.below hb)
  have HQ := Lib.hid (HQ.out.below hb)
  have HY := Lib.hid (HY.out.below hb)
  have HBC := Lib.hid (HBC.out.trans (hb.mono HBC.out.size))
  clear hb
  go_wp2_with fail
  refine (KT.out _ b cv HI.out (HM.out.below HBC.out)).mono ?_
  rintro e w11 ⟨rfl, hb⟩
  have HC := Lib.hid (HC.out.below hb)
  have HI := Lib.hid (HI.out.below hb)
  have HQ := Lib.hid (HQ.out.below hb)
  have HY := Lib.hid (HY.out.below hb)
  have HBC := Lib.hid (HBC.out.trans (hb.mono HBC.out.size))
  clear hb
  have q0 := HQ.out.cell 0
  have q1 := HQ.out.cell 1
  have q2 := HQ.out.cell 2
  have q3 := HQ.out.cell 3
  have q4 := HQ.out.cell 4
  have y0 := HY.out.cell 0
  have y1 := HY.out.cell 1
  have y2 := HY.out.cell 2
  have y3 := HY.out.cell 3
  have y4 := HY.out.cell 4
  simp only [encR, xA, List.getElem?_cons_zero, List.getElem?_cons_succ] at q0 q1 q2 q3 q4 y0 y1 y2 y3 y4
  rw [hye] at y0 y1 y2 y3 y4
  have hgd := eqGuardR
  have heq : ∀ W, (binOp .eql 75 (.agg #[.int .i64 4, .int .i64 1, .int .i64 2, .int .i64 3, .string ⟨#[97]⟩]) (.agg #[.int .i64 4, .int .i64 1, .int .i64 2, .int .i64 3, .string ⟨#[97]⟩])).run Tryd.prog W = .ok (.bool true) W := fun W => by
    have := run_eqR xA xA W
    rw [decide_eq_true rfl] at this
    exact this
  have KS1 := Lib.hid (fun (W : World) (h : IbAt b cv [xA] W) => (show Calls Tryd.prog 46 #[.int .i64 4, .slice (some ⟨W.heap.size, 0, none⟩) 1 1] (W.alloc (.cells #[.pointer (some ⟨b, 0, none⟩)] 72)) (SeenPost 4 [some (b, cv, [xA])] (W.alloc (.cells #[.pointer (some ⟨b, 0, none⟩)] 72))) from seenA1 4 b cv W h))
  have KS2 := Lib.hid (fun (W : World) (h : IbAt b cv [xA] W) => (show Calls Tryd.prog 46 #[.int .i64 5, .slice (some ⟨W.heap.size, 0, none⟩) 2 2] (W.alloc (.cells #[.pointer (some ⟨b, 0, none⟩), .pointer none] 72)) (SeenPost 5 [some (b, cv, [xA]), none] (W.alloc (.cells #[.pointer (some ⟨b, 0, none⟩), .pointer none] 72))) from seenA2 5 b cv W h))
  go_wp2_with fail
  refine (KS1.out _ HI.out).mono ?_
  rintro e w12 hp
  unfold SeenPost at hp
  obtain ⟨v1, rfl, hs1, hb⟩ := hp
  have hb0 := below1 w11 (.cells #[.pointer (some ⟨b, 0, none⟩)] 72)
  have HI := Lib.hid ((HI.out.below hb0).below hb)
  have HBC := Lib.hid ((HBC.out.trans (hb0.mono HBC.out.size)).trans (hb.mono (Nat.le_trans HBC.out.size hb0.size)))
  rw [show allX [some (b, cv, [xA])] = [xA] from rfl, seen4] at hs1
  obtain ⟨p1, c1, rfl, _⟩ := hs1
  clear hb hb0 q0 q1 q2 q3 q4 y0 y1 y2 y3 y4
  go_wp2_with fail
  refine (KS2.out _ HI.out).mono ?_
  rintro e w13 hp
  unfold SeenPost at hp
  obtain ⟨v2, rfl, hs2, hb⟩ := hp
  have hb0 := below1 w12 (.cells #[.pointer (some ⟨b, 0, none⟩), .pointer none] 72)
  have HBC := Lib.hid ((HBC.out.trans (hb0.mono HBC.out.size)).trans (hb.mono (Nat.le_trans HBC.out.size hb0.size)))
  rw [show allX [some (b, cv, [xA]), none] = [xA] from rfl, seen5] at hs2
  obtain ⟨p2, c2, rfl, _⟩ := hs2
  clear hb hb0
  go_wp2
  go_ret
  exact ⟨rfl, HBC.out⟩
end Go.Proofs.YtbbcicengfmhiaaDoor

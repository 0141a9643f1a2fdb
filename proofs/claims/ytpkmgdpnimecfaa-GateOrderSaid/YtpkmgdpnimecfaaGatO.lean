/- GateOrder: in whatever order votes for it come a gate has the same; one against it is enough. Every input. -/
import Derived.Test.YtpkmgdpnimecfaaGat4
import Derived.Test.YtpkmgdpnimecfaaGatL
import Derived.Test.YtpkmgdpnimecfaaRosO
import Derived.Deep.Slices
namespace Go.Proofs.Ytpkmgdpnimecfaa
open Go.ChangeShapes Go.WideShapes Go.ChangeAt Go.RowKit

/-- how the two gates stand in the loop -/
def GoAt (w wr : World) (ba bb : Nat) (va vb : Value) (xa xb : List Int) : Prop := Below w.heap.size w wr ∧ Bx ba va false xa wr ∧ Bx bb vb false xb wr ∧ w.heap.size ≤ ba ∧ w.heap.size ≤ bb ∧ ba ≠ bb ∧
  (wr.frozen? ⟨ba, 0, none⟩ = false ∧ wr.frozen? ⟨ba, 1, none⟩ = false) ∧ (wr.frozen? ⟨bb, 0, none⟩ = false ∧ wr.frozen? ⟨bb, 1, none⟩ = false) ∧ ∀ k, (va.ownBlock = some k ∨ vb.ownBlock = some k) → k ≠ ba ∧ k ≠ bb

theorem GoAt.setA {w wr w' : World} {ba bb : Nat} {va vb v' : Value} {xa xb ys : List Int} (h : GoAt w wr ba bb va vb xa xb) (hb : Below wr.heap.size wr w') (hS : SlAt 1 encI w' v' ys) (ho : ∀ k, v'.ownBlock = some k → wr.heap.size ≤ k) :
    GoAt w ((w'.setCell ⟨ba, 0, none⟩ v').setCell ⟨ba, 1, none⟩ (.bool false)) ba bb v' vb ys xb := by
  obtain ⟨h1, ⟨za, fa, ga, sa⟩, h3, h4, h5, h6, ⟨qa0, qa1⟩, ⟨qb0, qb1⟩, hw⟩ := h
  obtain ⟨zb, fb, gb, sb⟩ := h3.below hb
  have hz := hb.size
  have u0 := (hb.cell (p := ⟨ba, 0, none⟩) za).trans fa
  have u1 := (hb.cell (p := ⟨ba, 1, none⟩) za).trans ga
  have w0 := (hb.frozen (p := ⟨ba, 0, none⟩) za).trans qa0
  have w1 := (hb.frozen (p := ⟨ba, 1, none⟩) za).trans qa1
  have w2 := (hb.frozen (p := ⟨bb, 0, none⟩) h3.1).trans qb0
  have w3 := (hb.frozen (p := ⟨bb, 1, none⟩) h3.1).trans qb1
  have n1 : v'.ownBlock ≠ some ba := fun e => by have := ho _ e; omega
  have n2 : vb.ownBlock ≠ some ba := fun e => (hw _ (.inr e)).1 rfl
  have n3 := h6.symm
  refine ⟨((h1.trans (hb.mono h1.size)).setCell (p := ⟨ba, 0, none⟩) h4 _).setCell (p := ⟨ba, 1, none⟩) h4 _, ⟨by simp; omega, by go_simp, by go_simp, (hS.set _ _ n1).set _ _ n1⟩, ⟨by simpa using zb, by go_simp, by go_simp, (sb.set _ _ n2).set _ _ n2⟩, h4, h5, h6, ⟨by go_simp, by go_simp⟩, ⟨by go_simp, by go_simp⟩, fun k hk => ?_⟩
  have hbz := h3.1
  rcases hk with hk | hk
  · have := ho k hk
    omega
  · exact hw k (.inr hk)
theorem GoAt.swap {w wr : World} {ba bb : Nat} {va vb : Value} {xa xb : List Int} (h : GoAt w wr ba bb va vb xa xb) : GoAt w wr bb ba vb va xb xa := by
  obtain ⟨h1, h2, h3, h4, h5, h6, h7, h8, hw⟩ := h
  exact ⟨h1, h3, h2, h5, h4, h6.symm, h8, h7, fun k hk => (hw k hk.symm).symm⟩
set_option maxRecDepth 100000 in
set_option maxHeartbeats 4000000 in
theorem gateOrder_walk (v : Value) (xs : List Int) (need : Int) (w : World) (hS : SlAt 1 encI w v xs) (hml : xs.length ≤ maxLen) :
    Calls Try.prog 12 #[v, .int .i64 need] w fun e w' => e = .returned (.bool true) ∧ Below w.heap.size w w' := by
  have HS := Lib.hid hS
  obtain ⟨p, c, rfl, _, _⟩ := id hS
  clear hS
  go_enter Try.func12, Try.ntmps12
  go_wp2_with fail
  refine (awake12 _).mono ?_
  rintro e w1 ⟨rfl, hb1⟩
  have HB1 := Lib.hid hb1
  clear hb1
  cases t1 : decide ((50 : Int) < (xs.length : Int)) with
  | true =>
    go_wp2_with fail
    refine (awake12 _).mono ?_
    rintro e w2 ⟨rfl, hb2⟩
    go_wp2
    go_ret
    exact ⟨rfl, HB1.out.trans (hb2.mono HB1.out.size)⟩
  | false =>
    have hl50 : xs.length ≤ 50 := by simp at t1; omega
    clear t1
    go_upto_region 4 with fail
    have hga : GoAt w ((w1.alloc (.cells #[.slice none 0 0, .bool false] 75)).alloc (.cells #[.slice none 0 0, .bool false] 75)) w1.heap.size (w1.heap.size + 1) (.slice none 0 0) (.slice none 0 0) [] [] := by
      have hz := HB1.out.size
      refine ⟨HB1.out.trans ((below2 _ _ _).mono hz), ⟨by simp; omega, by go_simp, by go_simp, SlAt.nil _ _ _⟩, ⟨by simp, by go_simp, by go_simp, SlAt.nil _ _ _⟩, hz, by omega, by omega, ⟨?_, ?_⟩, ⟨?_, ?_⟩, fun k hk => by simp [Value.ownBlock] at hk⟩ <;> go_simp
    have HG := Lib.hid hga
    clear hga
    generalize ((w1.alloc (.cells #[.slice none 0 0, .bool false] 75)).alloc (.cells #[.slice none 0 0, .bool false] 75)) = W0 at HG ⊢
    generalize hba : w1.heap.size = ba at HG ⊢
    generalize hbb : ba + 1 = bb at HG ⊢
    clear hba hbb
    go_wp2
    go_loopw [20] (fun i wr => ∃ (k : Nat) (va vb : Value), k ≤ xs.length ∧ i = .int .i64 k ∧ GoAt w wr ba bb va vb (VL (xs.take k)) (VL (xs.reverse.take k))) (fun i _ => xs.length - (intOf i).toNat)
    case atStart => exact ⟨0, _, _, by omega, rfl, HG.out⟩
    case round =>
      clear HG
      obtain ⟨k, va, vb, hk, rfl, hg⟩ := hrel
      have HG := Lib.hid hg
      clear hg
      by_cases hlt : k < xs.length
      · have hltz : (k : Int) < (xs.length : Int) := by omega
        have HT := Lib.hid (VL_take hlt)
        have HT2 := Lib.hid (VL_take (xs := xs.reverse) (k := k) (by simpa using hlt))
        have hrev : xs.reverse[k]! = xs[xs.length - 1 - k]! := by
          rw [getElem!_pos xs.reverse k (by simpa using hlt), getElem!_pos xs (xs.length - 1 - k) (by omega), List.getElem_reverse]
        rw [hrev] at HT2
        have hlen1 := VL_len (xs.take k)
        have hlen2 := VL_len (xs.reverse.take k)
        generalize VL (xs.take k) = ya at HG HT hlen1
        generalize VL (xs.reverse.take k) = yb at HG HT2 hlen2
        have HSB := Lib.hid (HS.out.below HG.out.1)
        generalize hxk : xs[k]! = x at HT
        have HXK := Lib.hid hxk
        clear hxk
        generalize hxr : xs[xs.length - 1 - k]! = xr at HT2
        have HXR := Lib.hid hxr
        clear hxr hrev
        go_upto_region 7 with fail
        go_cut [31] (fun _ wx => ∃ va', GoAt w wx ba bb va' vb (voteL ya x true) yb)
        case first =>
          obtain ⟨hB, ⟨za, fa, ga, sa⟩, _, _, _, _, ⟨qa0, qa1⟩, _, _⟩ := HG.out
          obtain ⟨pa, ca, rfl, _, _⟩ := id sa
          have SA := Lib.hid sa
          obtain ⟨p', c', hv, _, hcl⟩ := id HSB.out
          simp only [Value.slice.injEq] at hv
          obtain ⟨rfl, hx, rfl⟩ := hv
          clear hx
          obtain ⟨bk, off, rfl, hbk, hcell⟩ := hcl (by omega)
          have d1 : wr.cell? ⟨bk, off + k, none⟩ = some (.int .i64 x) := by have := hcell k hlt 0 _ rfl; rw [← HXK.out]; simpa using this
          clear hcell hcl sa hB
          go_region_with (go_at_call 46; refine (gateVote _ false ya x true need _ (SA.out.below (Below.refl _ _).drew) (by omega)).mono ?_; rintro e w' ⟨v', rfl, hS', hb', ho'⟩; obtain ⟨p1, c1, rfl, _, _⟩ := id hS'; have u0 := (hb'.cell (p := ⟨ba, 0, none⟩) za).trans fa; have u1 := (hb'.cell (p := ⟨ba, 1, none⟩) za).trans ga; have u2 := (hb'.frozen (p := ⟨ba, 0, none⟩) za).trans qa0; have u3 := (hb'.frozen (p := ⟨ba, 1, none⟩) za).trans qa1; have u4 := Nat.lt_of_lt_of_le za hb'.size; have HB' := Lib.hid hb'; have HS' := Lib.hid hS'; have HO' := Lib.hid ho'; clear hb' hS' ho')
          all_goals
            go_wp2_with fail
            go_meet
            have hg := HG.out.setA ((Below.refl _ wr).drew.trans HB'.out) HS'.out HO'.out
            first | exact ⟨_, hg⟩ | ((repeat apply Exists.intro); exact ⟨⟨_, hg⟩, rfl⟩)
        case rest =>
          obtain ⟨va', hg2⟩ := hcut
          have HG2 := Lib.hid hg2
          clear hg2 HG
          have HSB2 := Lib.hid (HS.out.below HG2.out.1)
          clear HSB
          obtain ⟨hB, _, ⟨za, fa, ga, sa⟩, _, _, _, _, ⟨qa0, qa1⟩, _⟩ := HG2.out
          obtain ⟨pa, ca, rfl, _, _⟩ := id sa
          have SA := Lib.hid sa
          obtain ⟨p', c', hv, _, hcl⟩ := id HSB2.out
          simp only [Value.slice.injEq] at hv
          obtain ⟨rfl, hx, rfl⟩ := hv
          clear hx
          obtain ⟨bk, off, rfl, hbk, hcell⟩ := hcl (by omega)
          obtain ⟨m, hm, hm2⟩ : ∃ m : Nat, m = xs.length - 1 - k ∧ (xs.length : Int) - 1 - (k : Int) = (m : Int) := ⟨xs.length - 1 - k, rfl, by omega⟩
          have hmlt : (m : Int) < (xs.length : Int) := by omega
          have d1 : wc.cell? ⟨bk, off + m, none⟩ = some (.int .i64 xr) := by
            have := hcell m (by omega) 0 _ rfl
            rw [← HXR.out, ← hm]
            simpa using this
          have w1' : IntKind.i64.wrap ((xs.length : Int) - 1) = (xs.length : Int) - 1 := by rw [IntKind.wrap_i64]; omega
          have w2' : IntKind.i64.wrap (m : Int) = (m : Int) := by rw [IntKind.wrap_i64]; omega
          clear hcell hcl sa hB hm
          go_upto_region 8 with fail
          go_region_with (go_at_call 46; refine (gateVote _ false yb xr true need _ (SA.out.below (Below.refl _ _).drew) (by omega)).mono ?_; rintro e w' ⟨v', rfl, hS', hb', ho'⟩; obtain ⟨p1, c1, rfl, _, _⟩ := id hS'; have u0 := (hb'.cell (p := ⟨bb, 0, none⟩) za).trans fa; have u1 := (hb'.cell (p := ⟨bb, 1, none⟩) za).trans ga; have u2 := (hb'.frozen (p := ⟨bb, 0, none⟩) za).trans qa0; have u3 := (hb'.frozen (p := ⟨bb, 1, none⟩) za).trans qa1; have u4 := Nat.lt_of_lt_of_le za hb'.size; have HB' := Lib.hid hb'; have HS' := Lib.hid hS'; have HO' := Lib.hid ho'; clear hb' hS' ho')
          all_goals
            have hg := (HG2.out.swap.setA ((Below.refl _ wc).drew.trans HB'.out) HS'.out HO'.out).swap
            have HG3 := Lib.hid hg
            clear hg u0 u1 u2 u3 u4
            go_wp2
            go_roundw
            case rel =>
              refine ⟨k + 1, va', .slice p1 (voteL yb xr true).length c1, by omega, by go_num, ?_⟩
              rw [HT.out, HT2.out]
              exact HG3.out
            case measure => simp [intOf] <;> omega
      · obtain rfl : k = xs.length := by omega
        have hg := HG.out
        rw [List.take_of_length_le (Nat.le_refl _), List.take_of_length_le (by simp), VL_rev] at hg
        have hlen := VL_len xs
        generalize VL xs = ys at hg hlen
        have HG1 := Lib.hid hg
        clear hg HG
        obtain ⟨hB, hxa, hxb, _, _, _, _, _, _⟩ := HG1.out
        obtain ⟨pa, ca, rfl, _, _⟩ := id hxa.2.2.2
        obtain ⟨pb, cb, rfl, _, _⟩ := id hxb.2.2.2
        have HB := Lib.hid hB
        have XA := Lib.hid hxa
        have XB := Lib.hid hxb
        clear hB hxa hxb HG1
        obtain ⟨za, fa, ga, _⟩ := XA.out
        go_wp2_with fail
        have q := gateVote _ false ys 0 false need wr XA.out.2.2.2 (by omega)
        unfold VotePost at q
        rw [show voteL ys 0 false = ys from rfl] at q
        refine q.mono ?_
        rintro e w2 ⟨v2, rfl, hS2, hb2, _⟩
        obtain ⟨p2, c2, rfl, _, _⟩ := id hS2
        have hb3 := hb2.trans ((below1 w2 (.cells #[.slice p2 ys.length c2, .bool true] 75)).mono hb2.size)
        have XA2 := Lib.hid (XA.out.below hb3)
        have XB2 := Lib.hid (XB.out.below hb3)
        have XC2 := Lib.hid (show Bx w2.heap.size (.slice p2 ys.length c2) true ys (w2.alloc (.cells #[.slice p2 ys.length c2, .bool true] 75)) from Bx.mk w2 hS2)
        have HB2 := Lib.hid (HB.out.trans (hb3.mono HB.out.size))
        clear q hS2 hb2 hb3 za fa ga XA XB HB
        go_upto_region 11 with fail
        generalize w2.alloc (.cells #[.slice p2 ys.length c2, .bool true] 75) = W2 at XA2 XB2 XC2 HB2 ⊢
        generalize w2.heap.size = bc at XC2 ⊢
        obtain ⟨za, fa, ga, _⟩ := XA2.out
        obtain ⟨zb, fb, gb, _⟩ := XB2.out
        obtain ⟨zc, fc, gc, _⟩ := XC2.out
        go_wp2_with fail
        have q := same02 _ _ ys ys W2 XA2.out.2.2.2 XB2.out.2.2.2 (by omega) (by omega)
        rw [show decide (ys = ys) = true by simp] at q
        refine q.mono ?_
        rintro e w3 ⟨rfl, hb⟩
        have XA3 := Lib.hid (XA2.out.below hb)
        have XC3 := Lib.hid (XC2.out.below hb)
        have HB3 := Lib.hid (HB2.out.trans (hb.mono HB2.out.size))
        clear q hb za fa ga zb fb gb zc fc gc
        obtain ⟨za, fa, ga, _⟩ := XA3.out
        obtain ⟨zc, fc, gc, _⟩ := XC3.out
        go_wp2_with fail
        have q := same02 _ _ ys ys w3 XC3.out.2.2.2 XA3.out.2.2.2 (by omega) (by omega)
        rw [show decide (ys = ys) = true by simp] at q
        refine q.mono ?_
        rintro e w4 ⟨rfl, hb⟩
        have HB4 := Lib.hid (HB3.out.trans (hb.mono HB3.out.size))
        clear q hb
        go_wp2
        go_ret
        exact ⟨by simp, HB4.out⟩

set_option maxRecDepth 100000 in
theorem gateOrder_lifted (os : Os) (started : os.Started) (H : Type) (enc : TypeId × Value → H) :
    ReturnsInHanded {} Try.checked os 12 .any (Rows.gateOrderSpec.pre6 enc Try.prog Try.f12 Rows.gateOrderRow.domain false) (Rows.gateOrderSpec.post enc Try.prog Try.f12 false true false false) := by
  refine law_lift started Try.func12 (by kernel_rfl) (by kernel_rfl) rfl (by kernel_rfl) ?_
    (ChangeSpec.witness6 (enc := enc) (C := Try.checked) false ⟨#[], #[.slice none 0 0, .int .i64 0], []⟩ 8 (by kernel_rfl) (by kernel_rfl) (by kernel_rfl) (by kernel_rfl)) ?_
  · intro ds hd
    rw [Try.params12] at hd
    match ds, hd with
    | [d0, d1], _ => rfl
  · intro W base args ds ps hval hA
    rw [Try.params12] at hA hval
    obtain ⟨v0, vs0, d0, ds0, p0, q0, hargs, rfl, rfl, h0, r0⟩ := trodAll_cons hA
    obtain ⟨v1, vs1, d1, ds1, p1, q1, rfl, rfl, rfl, h1, r1⟩ := trodAll_cons r0
    obtain ⟨rfl, rfl, rfl⟩ := trodAll_nil r1
    obtain rfl : args = #[v0, v1] := by cases args; simp_all
    obtain ⟨s0, n0, k0, rfl⟩ := okWide_slice Try.underlying64 (hval 0 64 v0 rfl rfl)
    obtain ⟨xs, hL, _, hml⟩ := open_structs (encA := encI) (ok := fun _ : Int => True) (k := 1) (by decide) (fun _ => rfl) Try.underlying64 (by kernel_rfl) (fun n cs y h => by
      obtain ⟨b, e1, _, _⟩ := DataW.trod_int Try.underlying3 h
      exact ⟨b, trivial, e1⟩) rfl h0
    obtain ⟨a1, rfl, _, _, w1⟩ := open_int Try.underlying3 (hval 1 3 v1 rfl rfl) h1
    exact gateOrder_walk _ xs _ _ hL hml

theorem gateOrder_holds : Rows.GateOrderSaid :=
  OpenClaim.holds_of_wide 12 Try.f12 rfl rfl rfl rfl rfl rfl rfl ⟨rfl, rfl, rfl, rfl, rfl⟩ rfl rfl rfl rfl rfl (by kernel_rfl) Try.func12 (by kernel_rfl)
    (of_decide_eq_true (by kernel_rfl)) (by unfold Func.isWrapper; first | (rw [if_pos (by decide +kernel)]; kernel_rfl) | (rw [if_neg (by decide +kernel)]; exact ⟨rfl, rfl⟩))
    (fun os started H enc _ => gateOrder_lifted os started H enc)
end Go.Proofs.Ytpkmgdpnimecfaa

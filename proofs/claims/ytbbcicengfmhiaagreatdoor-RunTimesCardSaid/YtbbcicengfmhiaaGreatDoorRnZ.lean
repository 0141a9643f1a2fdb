/- RunTimes: settled at one time, and then at a later one, a run is as settled at the later one at once, as long as it hasn't ended on the way. Every input. -/
import Derived.Test.YtbbcicengfmhiaaGreatDoorRnY
namespace Go.Proofs.YtbbcicengfmhiaaGreatDoor
set_option maxRecDepth 100000
open Go.ChangeShapes Go.WideShapes Go.ChangeAt Go.RowKit Go.Deep Go.Joins

set_option maxHeartbeats 16000000 in
theorem runTimes_walk (nm : ByteArray) (v : Value) (ts : List TaskV) (lv : Value) (os : List OpR) (a b : Int) (w : World) (hT : TasksAt w v ts) (hok : okTs ts) (hnm : nm.size ≤ maxLen) (hO : SlAt 6 encR w lv os) (hoo : ∀ j, j < os.length → os[j]!.ok) (hol : os.length ≤ maxLen) (hM : Met w) :
    Calls Tryz.prog 5 #[.agg #[.string nm, v], lv, .int .i64 a, .int .i64 b] w fun e w' => e = .returned (.bool true) ∧ Below w.heap.size w w' := by
  obtain ⟨A, hA, hA2⟩ := u200 a
  obtain ⟨B, hB, hB2⟩ := u200 b
  have HA := Lib.hid hA
  have HBB := Lib.hid hB
  have HP0 := Lib.hid (PipeAt.mk (nm := nm) hT)
  have HB0 := Lib.hid (below1 w (.cells #[.string nm, v] 46))
  have HM := Lib.hid hM
  obtain ⟨pp, pc, rfl, _⟩ := hT.val
  have HO := Lib.hid hO
  obtain ⟨lp, lc, rfl, _⟩ := id hO
  have HOO := Lib.hid hoo
  have KFew := Lib.hid (fun W (hW : TasksAt W (.slice pp ts.length pc) ts) => ref08Few nm _ ts W hW hok)
  have KFo := Lib.hid (fun W (hW : Below w.heap.size w W) => fewC _ os W (HO.out.below hW) hol)
  have KMay := Lib.hid (fun (hq : fewP nm ts = true) W (hW : TasksAt W (.slice pp ts.length pc) ts) => refMay nm _ ts W hW hok hnm (by
    unfold fewP at hq
    simp only [Bool.and_eq_true, decide_eq_true_eq] at hq
    omega))
  have KNew := Lib.hid (fun W (hW : TasksAt W (.slice pp ts.length pc) ts) => rnNew nm _ ts 0 hW hok hnm)
  have KAw := Lib.hid (fun W (hW : Below w.heap.size w W) => awake13 W (HM.out.below hW))
  have HUS := Lib.hid (fun us (hS : SameT us ts) (hm : mayP nm ts = true) => (show Us nm us from by
    have hp : pipeB nm us = true := by
      have h1 : mayP nm us = true := by rw [hS.may]; exact hm
      unfold mayP at h1
      simp only [Bool.and_eq_true] at h1
      exact h1.1
    refine ⟨hp, fun j hj => ?_, fun j hj => ?_⟩
    · obtain ⟨_, _, _, _, _, _, e7⟩ := hS.at (show j < ts.length by rw [← hS.1]; exact hj)
      rw [e7]
      exact (hok.2 j (by rw [← hS.1]; exact hj)).1
    · have h1 := pipeB_afterLen hp hj
      have h2 := (pipeB_len hp).2
      have h3 := smallM
      omega))
  unfold maxLen at hol
  obtain ⟨n, hn⟩ : ∃ n, n = os.length := ⟨_, rfl⟩
  rw [← hn] at hol HO KFo
  have HN := Lib.hid hn
  rw [← hn]
  clear hn hT hok hnm hO hoo hM hA hB
  generalize htn : ts.length = tn at *
  have HTN := Lib.hid htn
  clear htn
  go_enter Tryz.func5, Tryz.ntmps5
  go_wp2_with fail
  generalize w.alloc (.cells #[.string nm, .slice pp tn pc] 46) = W0 at *
  generalize w.heap.size = Bp at HP0 ⊢
  refine (KAw.out W0 HB0.out).mono ?_
  rintro e w1 ⟨rfl, hb⟩
  have HB1 := Lib.hid (HB0.out.trans (hb.mono HB0.out.size))
  have HP1 := Lib.hid (HP0.out.below hb)
  clear hb HP0
  obtain ⟨hz, c0, c1, hTT⟩ := id HP1.out
  go_wp2_with fail
  refine (KFew.out w1 hTT).mono ?_
  rintro e w2 ⟨rfl, hb⟩
  have HB2 := Lib.hid (HB1.out.trans (hb.mono HB1.out.size))
  have HP2 := Lib.hid (HP1.out.below hb)
  clear hb hz c0 c1 hTT HP1 KFew
  cases hfw : fewP nm ts with
  | false =>
    clear hfw
    go_wp2_with fail
    refine (KAw.out w2 HB2.out).mono ?_
    rintro e wz ⟨rfl, hb⟩
    have HBZ := Lib.hid (HB2.out.trans (hb.mono HB2.out.size))
    clear hb
    go_wp2
    go_ret
    exact ⟨rfl, HBZ.out⟩
  | true =>
    obtain ⟨hz, c0, c1, hTT⟩ := id HP2.out
    have KMY := Lib.hid (KMay.out hfw)
    clear hfw KMay
    go_wp2_with fail
    refine (KFo.out w2 HB2.out).mono ?_
    rintro e w3 ⟨hb, q, rfl, hq⟩
    have HB3 := Lib.hid (HB2.out.trans (hb.mono HB2.out.size))
    have HP3 := Lib.hid (HP2.out.below hb)
    clear hb hz c0 c1 hTT HP2 KFo
    cases q with
    | false =>
      clear hq
      go_wp2_with fail
      refine (KAw.out w3 HB3.out).mono ?_
      rintro e wz ⟨rfl, hb⟩
      have HBZ := Lib.hid (HB3.out.trans (hb.mono HB3.out.size))
      clear hb
      go_wp2
      go_ret
      exact ⟨rfl, HBZ.out⟩
    | true =>
      have HFW := Lib.hid (hq rfl)
      clear hq
      obtain ⟨hz, c0, c1, hTT⟩ := id HP3.out
      go_wp2_with fail
      refine (KMY.out w3 hTT).mono ?_
      rintro e w4 ⟨hb, q, rfl, _⟩
      have HB4 := Lib.hid (HB3.out.trans (hb.mono HB3.out.size))
      have HP4 := Lib.hid (HP3.out.below hb)
      clear hb hz c0 c1 hTT HP3 KMY
      cases q with
      | false =>
        go_wp2_with fail
        refine (KAw.out w4 HB4.out).mono ?_
        rintro e wz ⟨rfl, hb⟩
        have HBZ := Lib.hid (HB4.out.trans (hb.mono HB4.out.size))
        clear hb
        go_wp2
        go_ret
        exact ⟨rfl, HBZ.out⟩
      | true =>
        obtain ⟨hz, c0, c1, hTT⟩ := id HP4.out
        go_wp2_with fail
        refine (KNew.out w4 hTT).mono ?_
        rintro e w5 ⟨hb, (⟨_, rfl⟩ | ⟨hmy, b0, us, rfl, hS, hr, hub⟩)⟩
        · have HB5 := Lib.hid (HB4.out.trans (hb.mono HB4.out.size))
          clear hb hz c0 c1 hTT HP4 KNew HUS
          go_wp2_with fail
          go_loopw [10, 12, 46, 59, 70, 79] (fun s10 _ s46 _ _ _ wr => ∃ (k : Nat) (now : Int), s46 = .int .i64 k ∧ k ≤ n ∧ s10 = .int .i64 now ∧ Below w.heap.size w wr) (fun _ _ s46 _ _ _ _ => n - (intOf s46).toNat)
          case atStart => exact ⟨0, 0, by go_num, by omega, rfl, HB5.out⟩
          case round =>
            obtain ⟨k, now, rfl, hk, rfl, hb⟩ := hrel
            have HB := Lib.hid hb
            clear hb
            by_cases hlt : k < n
            · skip
              have hltz : (k : Int) < (n : Int) := by omega
              have hkl : k < os.length := by rw [← HN.out]; exact hlt
              obtain ⟨sb, so, sc, hv, _⟩ := opAt HO.out hkl
              injection hv with e1 e2 e3
              subst e1
              clear e2 e3
              obtain ⟨x0, x1, x2, x3, x4, x5⟩ := opCells (HO.out.below HB.out) hkl
              have HFO := Lib.hid (HFW.out.2 k (by first | exact hkl | exact hlt))
              have HOK := Lib.hid (HOO.out k hkl)
              generalize os[k]! = op at *
              have HX := Lib.hid (boxO op wr)
              obtain ⟨kd, nw, oa, ob, oc, s⟩ := op
              dsimp only at x0 x1 x2 x3 x4 x5
              have bb := below1 wr (.cells #[.int .i64 kd, .int .i64 nw, .int .i64 oa, .int .i64 ob, .int .i64 oc, .string s] 53)
              have HBX := Lib.hid (HB.out.trans (bb.mono HB.out.size))
              clear bb
              go_upto_region 9 with fail
              clear x0 x1 x2 x3 x4 x5
              generalize wr.alloc (.cells #[.int .i64 kd, .int .i64 nw, .int .i64 oa, .int .i64 ob, .int .i64 oc, .string s] 53) = W1 at *
              generalize wr.heap.size = bx at HX ⊢
              have x := HX.out
              have c0 := x.cell 0
              have c1 := x.cell 1
              have c2 := x.cell 2
              have c3 := x.cell 3
              have c4 := x.cell 4
              have c5 := x.cell 5
              simp only [encR, List.getElem?_cons_succ, List.getElem?_cons_zero] at c0 c1 c2 c3 c4 c5
              clear x
              go_wp2_with fail
              generalize hmx : max now nw = mx
              clear hmx
              refine (nilSettle mx W1).mono ?_
              rintro e w' ⟨rfl, rfl⟩
              by_cases h2 : kd = 2
              · subst h2
                go_wp2_with fail
                refine (runTakeNil oa mx ob oc W1).mono ?_
                rintro e w' ⟨rfl, rfl⟩
                go_wp2
                go_roundw
                case rel => exact ⟨k + 1, mx, by go_num, by omega, (by first | trivial | rfl), HBX.out⟩
                case measure => simp [intOf] <;> omega
              · have z2 : (kd == 2) = false := by simpa using h2
                by_cases h3 : kd = 3
                · subst h3
                  go_wp2_with fail
                  refine (runCompleteNil oa mx s W1).mono ?_
                  rintro e w' ⟨rfl, rfl⟩
                  go_wp2
                  go_roundw
                  case rel => exact ⟨k + 1, mx, by go_num, by omega, (by first | trivial | rfl), HBX.out⟩
                  case measure => simp [intOf] <;> omega
                · have z3 : (kd == 3) = false := by simpa using h3
                  by_cases h4 : kd = 4
                  · subst h4
                    go_wp2_with fail
                    refine (runMissNil oa mx W1).mono ?_
                    rintro e w' ⟨rfl, rfl⟩
                    go_wp2
                    go_roundw
                    case rel => exact ⟨k + 1, mx, by go_num, by omega, (by first | trivial | rfl), HBX.out⟩
                    case measure => simp [intOf] <;> omega
                  · have z4 : (kd == 4) = false := by simpa using h4
                    clear h2 h3 h4
                    go_wp2
                    go_roundw
                    case rel => exact ⟨k + 1, mx, by go_num, by omega, (by first | trivial | rfl), HBX.out⟩
                    case measure => simp [intOf] <;> omega
            · have hkn : n = k := by omega
              subst hkn
              go_wp2_with fail
              refine (nilCopy wr).mono ?_
              rintro e w' ⟨rfl, rfl⟩
              go_wp2_with fail
              refine (nilCopy wr).mono ?_
              rintro e w' ⟨rfl, rfl⟩
              go_wp2_with fail
              refine (nilSettle _ wr).mono ?_
              rintro e w' ⟨rfl, rfl⟩
              go_wp2_with fail
              refine (runStatusNil wr).mono ?_
              rintro e w' ⟨rfl, rfl⟩
              go_wp2_with fail
              refine (nilSettle _ wr).mono ?_
              rintro e w' ⟨rfl, rfl⟩
              go_wp2_with fail
              refine (nilSettle _ wr).mono ?_
              rintro e w' ⟨rfl, rfl⟩
              go_wp2_with fail
              refine (runStatusNil wr).mono ?_
              rintro e w' ⟨rfl, rfl⟩
              go_wp2_with fail
              refine (runStatusNil wr).mono ?_
              rintro e w' ⟨rfl, rfl⟩
              go_wp2_with fail
              refine (nilCopy wr).mono ?_
              rintro e w' ⟨rfl, rfl⟩
              go_wp2_with fail
              refine (textNil wr).mono ?_
              rintro e w7 ⟨rfl, hb⟩
              have HB7 := Lib.hid (HB.out.trans (hb.mono HB.out.size))
              clear hb
              go_wp2_with fail
              refine (textNil w7).mono ?_
              rintro e w8 ⟨rfl, hb⟩
              have HB8 := Lib.hid (HB7.out.trans (hb.mono HB7.out.size))
              clear hb
              go_wp2
              go_ret
              exact ⟨rfl, HB8.out⟩
        · have HB5 := Lib.hid (HB4.out.trans (hb.mono HB4.out.size))
          have HU := Lib.hid (HUS.out us hS hmy)
          have HUB := Lib.hid (show ∀ j, j < us.length → ∀ q, us[j]!.sl.ownBlock = some q → q < w5.heap.size from fun j hj q hq => hub j (by rw [← HTN.out, ← hS.1]; exact hj) q hq)
          have hI5 := (TmI.new (nm := nm) (us := us)).adv (now := 0) (by decide) (by decide)
          obtain ⟨g, tb, tf, tc, c, J, hr1, hr2⟩ := hr.at_
          rw [tvU_of hI5] at hr1
          have HR5 := Lib.hid hr1
          have HI5 := Lib.hid (show TmI ((0 : Nat) : Int) nm us (advanceM (newR nm us) 0) from hI5)
          have htb : tb < w5.heap.size := tb_lt (m := 0) hr1 hI5 HU.out
          have hgw : w.heap.size ≤ g := by have := HB4.out.size; omega
          have hgz : g < w5.heap.size := hr1.row.lt
          have hbz0 : b0 < w5.heap.size := hr1.blk.lt
          clear hb hz c0 c1 hTT HP4 KNew HUS hub hr hS hmy hI5 hr1 hr2
          go_wp2_with fail
          go_loopw [10, 12, 46, 59, 70, 79] (fun s10 _ s46 _ _ _ wr => ∃ (k : Nat) (now : Int) (R : RunM), s46 = .int .i64 k ∧ k ≤ n ∧ s10 = .int .i64 now ∧ (0 ≤ now ∧ now ≤ 10000) ∧ RAt b0 g (tvU tb tf tc us) c J R wr ∧ Below w.heap.size w wr ∧ TmI ((2 * k : Nat) : Int) nm us R ∧ w5.heap.size ≤ wr.heap.size) (fun _ _ s46 _ _ _ _ => n - (intOf s46).toNat)
          case atStart => exact ⟨0, 0, _, by go_num, by omega, rfl, ⟨by decide, by decide⟩, HR5.out, HB5.out, HI5.out, Nat.le_refl _⟩
          case round =>
            obtain ⟨k, now, R, rfl, hk, rfl, hnow, hr, hb, hi, hz5⟩ := hrel
            have HB := Lib.hid hb
            have HR := Lib.hid hr
            have HI := Lib.hid hi
            have hn150 : n ≤ 150 := by rw [HN.out]; exact HFW.out.1
            clear hb hr hi
            by_cases hlt : k < n
            · skip
              have hltz : (k : Int) < (n : Int) := by omega
              have hkl : k < os.length := by rw [← HN.out]; exact hlt
              obtain ⟨sb, so, sc, hv, _⟩ := opAt HO.out hkl
              injection hv with e1 e2 e3
              subst e1
              clear e2 e3
              obtain ⟨x0, x1, x2, x3, x4, x5⟩ := opCells (HO.out.below HB.out) hkl
              have HFO := Lib.hid (HFW.out.2 k (by first | exact hkl | exact hlt))
              have HOK := Lib.hid (HOO.out k hkl)
              generalize os[k]! = op at *
              have HX := Lib.hid (boxO op wr)
              obtain ⟨kd, nw, oa, ob, oc, s⟩ := op
              dsimp only at x0 x1 x2 x3 x4 x5
              have bb := below1 wr (.cells #[.int .i64 kd, .int .i64 nw, .int .i64 oa, .int .i64 ob, .int .i64 oc, .string s] 53)
              have HBX := Lib.hid (HB.out.trans (bb.mono HB.out.size))
              have HRX := Lib.hid (HR.out.below bb)
              have hbxz : g < wr.heap.size := HR.out.row.lt
              have hz5x := bb.size
              clear bb
              go_upto_region 9 with fail
              clear x0 x1 x2 x3 x4 x5
              generalize wr.alloc (.cells #[.int .i64 kd, .int .i64 nw, .int .i64 oa, .int .i64 ob, .int .i64 oc, .string s] 53) = W1 at *
              generalize wr.heap.size = bx at HX hbxz hz5 hz5x ⊢
              have x := HX.out
              have c0 := x.cell 0
              have c1 := x.cell 1
              have c2 := x.cell 2
              have c3 := x.cell 3
              have c4 := x.cell 4
              have c5 := x.cell 5
              simp only [encR, List.getElem?_cons_succ, List.getElem?_cons_zero] at c0 c1 c2 c3 c4 c5
              clear x
              go_wp2_with fail
              generalize hmx : max now nw = mx
              have hmx1 : 0 ≤ mx ∧ mx ≤ 10000 := by
                have h1 := HFO.out.2.1
                dsimp only at h1
                omega
              clear hmx
              have K6 := Lib.hid (setC HRX.out HI.out (by omega) HU.out mx)
              refine K6.out.mono ?_
              rintro e w6 ⟨rfl, h6, k6⟩
              have HR6 := Lib.hid h6
              have HB6 := Lib.hid (HBX.out.trans (k6.1 _ hgw))
              have HI6 := Lib.hid (HI.out.settleN (by omega) (now := mx) (by omega))
              have HX := Lib.hid (HX.out.of (k6.2.1 bx HX.out.lt (by omega)))
              have hz6 := k6.2.2
              clear h6 k6 K6 c0 c1 c2 c3 c4 c5
              have x := HX.out
              have c0 := x.cell 0
              have c1 := x.cell 1
              have c2 := x.cell 2
              have c3 := x.cell 3
              have c4 := x.cell 4
              have c5 := x.cell 5
              simp only [encR, List.getElem?_cons_succ, List.getElem?_cons_zero] at c0 c1 c2 c3 c4 c5
              clear x
              by_cases h2 : kd = 2
              · subst h2
                have K7 := Lib.hid (takeR HR6.out HI6.out HU.out oa mx ob oc hmx1)
                have HI7 := Lib.hid (show TmI ((2 * (k + 1) : Nat) : Int) nm us (takeM (settleM R mx) oa mx ob oc).1 from TmI.moreN (m := 2 * k + 1) (HI6.out.take hmx1.1 (by omega) HOK.out.2.2.2.1 HOK.out.2.2.2.2.1 (fun j hj => (pipe_nums HU.out.pipe hj).2.2.1)) (show 2 * k + 1 ≤ 2 * (k + 1) by omega))
                go_wp2_with fail
                refine K7.out.mono ?_
                rintro e w7 ⟨rfl, h7, k7⟩
                have HR7 := Lib.hid h7
                have HB7 := Lib.hid (HB6.out.trans (k7.1 _ hgw))
                have hz7 : w5.heap.size ≤ w7.heap.size := by have := k7.2.2; omega
                clear h7 k7 K7
                go_wp2
                go_roundw
                case rel => exact ⟨k + 1, mx, _, by go_num, by omega, (by first | trivial | rfl), hmx1, HR7.out, HB7.out, HI7.out, hz7⟩
                case measure => simp [intOf] <;> omega
              · have z2 : (kd == 2) = false := by simpa using h2
                by_cases h3 : kd = 3
                · subst h3
                  have K7 := Lib.hid (completeR HR6.out HI6.out HU.out oa mx s HOK.out.2.2.2.2.2)
                  have HI7 := Lib.hid (show TmI ((2 * (k + 1) : Nat) : Int) nm us (completeM (settleM R mx) oa mx s).1 from TmI.moreN (m := 2 * k + 1) (HI6.out.complete hmx1.1 (by omega)) (show 2 * k + 1 ≤ 2 * (k + 1) by omega))
                  go_wp2_with fail
                  refine K7.out.mono ?_
                  rintro e w7 ⟨rfl, h7, k7⟩
                  have HR7 := Lib.hid h7
                  have HB7 := Lib.hid (HB6.out.trans (k7.1 _ hgw))
                  have hz7 : w5.heap.size ≤ w7.heap.size := by have := k7.2.2; omega
                  clear h7 k7 K7
                  go_wp2
                  go_roundw
                  case rel => exact ⟨k + 1, mx, _, by go_num, by omega, (by first | trivial | rfl), hmx1, HR7.out, HB7.out, HI7.out, hz7⟩
                  case measure => simp [intOf] <;> omega
                · have z3 : (kd == 3) = false := by simpa using h3
                  by_cases h4 : kd = 4
                  · subst h4
                    have K7 := Lib.hid (missR HR6.out HI6.out (by omega) HU.out oa mx hmx1)
                    have HI7 := Lib.hid (show TmI ((2 * (k + 1) : Nat) : Int) nm us (missM (settleM R mx) oa mx).1 from TmI.moreN (HI6.out.missN (by omega) hmx1) (show 2 * k + 1 + 1 ≤ 2 * (k + 1) by omega))
                    go_wp2_with fail
                    refine K7.out.mono ?_
                    rintro e w7 ⟨rfl, h7, k7⟩
                    have HR7 := Lib.hid h7
                    have HB7 := Lib.hid (HB6.out.trans (k7.1 _ hgw))
                    have hz7 : w5.heap.size ≤ w7.heap.size := by have := k7.2.2; omega
                    clear h7 k7 K7
                    go_wp2
                    go_roundw
                    case rel => exact ⟨k + 1, mx, _, by go_num, by omega, (by first | trivial | rfl), hmx1, HR7.out, HB7.out, HI7.out, hz7⟩
                    case measure => simp [intOf] <;> omega
                  · have z4 : (kd == 4) = false := by simpa using h4
                    clear h2 h3 h4
                    have HR7 := Lib.hid HR6.out
                    have HB7 := Lib.hid HB6.out
                    have HI7 := Lib.hid (HI6.out.moreN (show 2 * k + 1 ≤ 2 * (k + 1) by omega))
                    have hz7 : w5.heap.size ≤ w6.heap.size := by omega
                    go_wp2
                    go_roundw
                    case rel => exact ⟨k + 1, mx, _, by go_num, by omega, (by first | trivial | rfl), hmx1, HR7.out, HB7.out, HI7.out, hz7⟩
                    case measure => simp [intOf] <;> omega
            · have hkn : n = k := by omega
              subst hkn
              have hgr : g < wr.heap.size := HR.out.row.lt
              have hbr : b0 < wr.heap.size := HR.out.blk.lt
              have HSL := Lib.hid (show ∀ j, j < us.length → ∀ q, us[j]!.sl.ownBlock = some q → q < wr.heap.size from fun j hj q hq => Nat.lt_of_lt_of_le (HUB.out j hj q hq) hz5)
              have htr : tb < wr.heap.size := by omega
              have hA := HA.out
              have hB := HBB.out
              have hs1 : IntKind.i64.wrap (now + (A : Int)) = now + A := by rw [IntKind.wrap_i64]; omega
              have hs2 : IntKind.i64.wrap (now + (A : Int) + (B : Int)) = now + A + B := by rw [IntKind.wrap_i64]; omega
              have hs3 : wrap64 (now + (A : Int)) = now + A := by unfold wrap64; omega
              have hs4 : wrap64 (now + (A : Int) + (B : Int)) = now + A + B := by unfold wrap64; omega
              have HTW := Lib.hid (settle_twice (R := R) (n1 := now + A) (n2 := now + A + B) (by omega))
              have K := Lib.hid (copyU HR.out HI.out HU.out HSL.out)
              go_wp2_with fail
              refine K.out.mono ?_
              rintro e w6 ⟨b2, g2, c2, J2, rfl, hx, hb, hb2, hg2⟩
              have HB6 := Lib.hid hb
              have HX := Lib.hid hx
              have HR6 := Lib.hid (HR.out.below hb)
              clear hx hb K
              have hz6 := HB6.out.size
              have K := Lib.hid (copyU HR6.out HI.out HU.out (fun j hj q hq => Nat.lt_of_lt_of_le (HSL.out j hj q hq) hz6))
              go_wp2_with fail
              refine K.out.mono ?_
              rintro e w7 ⟨b3, g3, c3, J3, rfl, hy, hb, hb3, hg3⟩
              have hx2 : g2 < w6.heap.size := HX.out.row.lt
              have hx3 : b2 < w6.heap.size := HX.out.blk.lt
              have HB7 := Lib.hid (HB6.out.trans (hb.mono hz6))
              have HX := Lib.hid (HX.out.below hb)
              have HY := Lib.hid hy
              clear hy hb K HR6
              have HIX := Lib.hid (HI.out.settleN (by omega) (now := now + A) (by omega))
              have K := Lib.hid (setC HX.out HI.out (by omega) HU.out (now + A))
              go_wp2_with fail
              refine K.out.mono ?_
              rintro e w8 ⟨rfl, hx, hk⟩
              have HB8 := Lib.hid (HB7.out.trans (hk.1 _ hg2))
              have HY := Lib.hid (otherU HY.out HI.out hk (by omega) (by omega) hg2 htr HSL.out)
              have HX := Lib.hid hx
              clear hx hk K
              have K := Lib.hid (statU HX.out HIX.out HU.out)
              go_wp2_with fail
              refine K.out.mono ?_
              rintro e w9 ⟨rfl, hb⟩
              have HB9 := Lib.hid (HB8.out.trans (hb.mono HB8.out.size))
              have HY := Lib.hid (HY.out.below hb)
              have HX := Lib.hid (HX.out.below hb)
              clear hb K
              have HIX2 := Lib.hid (HIX.out.settleN (by omega) (now := now + A + B) (by omega))
              have K := Lib.hid (setC HX.out HIX.out (by omega) HU.out (now + A + B))
              go_wp2_with fail
              refine K.out.mono ?_
              rintro e w10 ⟨rfl, hx, hk⟩
              have HB10 := Lib.hid (HB9.out.trans (hk.1 _ hg2))
              have HY := Lib.hid (otherU HY.out HI.out hk (by omega) (by omega) hg2 htr HSL.out)
              have HX := Lib.hid hx
              clear hx hk K
              have HIY := Lib.hid (HI.out.settleN (by omega) (now := now + A + B) (by omega))
              have K := Lib.hid (setC HY.out HI.out (by omega) HU.out (now + A + B))
              go_wp2_with fail
              refine K.out.mono ?_
              rintro e w11 ⟨rfl, hy, hk⟩
              have HB11 := Lib.hid (HB10.out.trans (hk.1 _ (by omega)))
              have HX := Lib.hid (otherU HX.out HIX2.out hk (by omega) (by omega) (show wr.heap.size ≤ g3 by omega) htr HSL.out)
              have HY := Lib.hid hy
              clear hy hk K
              have KXT := Lib.hid (fun W (hW : Below w11.heap.size w11 W) => textU (HX.out.below hW) HIX2.out (by omega) HU.out (HM.out.below (HB.out.trans ((HB11.out.trans (hW.mono HB11.out.size)).mono HB.out.size))))
              have KYT := Lib.hid (fun W (hW : Below w11.heap.size w11 W) => textU (HY.out.below hW) HIY.out (by omega) HU.out (HM.out.below (HB.out.trans ((HB11.out.trans (hW.mono HB11.out.size)).mono HB.out.size))))
              have KXS := Lib.hid (fun W (hW : Below w11.heap.size w11 W) => statU (HX.out.below hW) HIX2.out HU.out)
              have KYS := Lib.hid (fun W (hW : Below w11.heap.size w11 W) => statU (HY.out.below hW) HIY.out HU.out)
              have KRC := Lib.hid (fun W (hW : Below w11.heap.size w11 W) => copyU (HR.out.below (HB11.out.trans (hW.mono HB11.out.size))) HI.out HU.out (fun j hj q hq => Nat.lt_of_lt_of_le (HSL.out j hj q hq) (Nat.le_trans HB11.out.size hW.size)))
              have KRT := Lib.hid (fun b' g' c' J' W (hW : Below w11.heap.size w11 W) (h : RAt b' g' (tvU tb tf tc us) c' J' R W) => textU h HI.out (by omega) HU.out (HM.out.below (HB.out.trans ((HB11.out.trans (hW.mono HB11.out.size)).mono HB.out.size))))
              have HRB := Lib.hid (fun W (hW : Below w11.heap.size w11 W) => HR.out.below (HB11.out.trans (hW.mono HB11.out.size)))
              have HBF := Lib.hid (fun W (hW : Below w11.heap.size w11 W) => HB.out.trans ((HB11.out.trans (hW.mono HB11.out.size)).mono HB.out.size))
              clear HX HY HIX HIX2 HIY HB6 HB7 HB8 HB9 HB10 hb2 hg2 hb3 hg3 hx2 hx3 hz6
              by_cases he : statusM (settleM R (now + A)) = 0
              · have hez : (statusM (settleM R (now + A)) != 0) = false := by simpa using he
                have heq := HTW.out.1 he
                rw [heq] at KXT
                clear heq he HTW
                generalize statusM (settleM R (now + A)) = st1 at *
                generalize settleM R (now + A + B) = RY at *
                generalize (⟨(runW RY).toArray⟩ : ByteArray) = ty at KXT KYT
                generalize (⟨(runW R).toArray⟩ : ByteArray) = tr at KRT
                go_wp2_with fail
                refine (KXT.out w11 (Below.refl _ _)).mono ?_
                rintro e w12 ⟨rfl, hb⟩
                have HB12 := Lib.hid hb
                clear hb
                go_wp2_with fail
                refine (KYT.out w12 HB12.out).mono ?_
                rintro e w13 ⟨rfl, hb⟩
                have HB13 := Lib.hid (HB12.out.trans (hb.mono HB12.out.size))
                clear hb
                go_wp2_with fail
                refine (KRC.out w13 HB13.out).mono ?_
                rintro e w14 ⟨b4, g4, c4, J4, rfl, hx, hb, hb4, hg4⟩
                have HB14 := Lib.hid (HB13.out.trans (hb.mono HB13.out.size))
                have K := Lib.hid (KRT.out b4 g4 c4 J4 w14 HB14.out hx)
                clear hx hb hb4 hg4
                go_wp2_with fail
                refine K.out.mono ?_
                rintro e w15 ⟨rfl, hb⟩
                have HB15 := Lib.hid (HB14.out.trans (hb.mono HB14.out.size))
                clear hb K
                have K := Lib.hid (KRT.out b0 g c J w15 HB15.out (HRB.out w15 HB15.out))
                go_wp2_with fail
                refine K.out.mono ?_
                rintro e w16 ⟨rfl, hb⟩
                have HB16 := Lib.hid (HBF.out w16 (HB15.out.trans (hb.mono HB15.out.size)))
                clear hb K
                go_wp2
                go_ret
                exact ⟨rfl, HB16.out⟩
              · have hez : (statusM (settleM R (now + A)) != 0) = true := by simpa using he
                have heq := HTW.out.2 he
                rw [heq] at KXS
                clear heq he HTW
                generalize statusM (settleM R (now + A)) = st1 at *
                generalize settleM R (now + A + B) = RY at *
                generalize statusM RY = sty at KXS KYS
                generalize (⟨(runW R).toArray⟩ : ByteArray) = tr at KRT
                go_wp2_with fail
                refine (KXS.out w11 (Below.refl _ _)).mono ?_
                rintro e w12 ⟨rfl, hb⟩
                have HB12 := Lib.hid hb
                clear hb
                go_wp2_with fail
                refine (KYS.out w12 HB12.out).mono ?_
                rintro e w13 ⟨rfl, hb⟩
                have HB13 := Lib.hid (HB12.out.trans (hb.mono HB12.out.size))
                clear hb
                go_wp2_with fail
                refine (KRC.out w13 HB13.out).mono ?_
                rintro e w14 ⟨b4, g4, c4, J4, rfl, hx, hb, hb4, hg4⟩
                have HB14 := Lib.hid (HB13.out.trans (hb.mono HB13.out.size))
                have K := Lib.hid (KRT.out b4 g4 c4 J4 w14 HB14.out hx)
                clear hx hb hb4 hg4
                go_wp2_with fail
                refine K.out.mono ?_
                rintro e w15 ⟨rfl, hb⟩
                have HB15 := Lib.hid (HB14.out.trans (hb.mono HB14.out.size))
                clear hb K
                have K := Lib.hid (KRT.out b0 g c J w15 HB15.out (HRB.out w15 HB15.out))
                go_wp2_with fail
                refine K.out.mono ?_
                rintro e w16 ⟨rfl, hb⟩
                have HB16 := Lib.hid (HBF.out w16 (HB15.out.trans (hb.mono HB15.out.size)))
                clear hb K
                go_wp2
                go_ret
                exact ⟨rfl, HB16.out⟩

theorem runTimes_lifted (os : Os) (started : os.Started) (H : Type) (enc : TypeId × Value → H) :
    ReturnsInHanded {} Tryz.checked os 5 .any (fun w args => (Rows.runTimesSpec.pre enc Tryz.prog Tryz.f5 [] false w args ∧ laidMetH Tryz.prog laidL w) ∧ sizedMet enc Tryz.prog Tryz.f5 (OpenSpec.ofChange Rows.runTimesSpec) false w args) (Rows.runTimesSpec.post enc Tryz.prog Tryz.f5 false true false false) := by
  refine law_liftD started Tryz.func5 (by kernel_rfl) (by kernel_rfl) rfl (by kernel_rfl) ?_
    (ChangeSpec.witness_shaped (enc := enc) (C := Tryz.checked) (os := os) (X := fun w _ => laidMetH Tryz.prog laidL w) false (World.laidAll Tryz.prog os laidL) #[.agg #[.string ⟨#[]⟩, .slice none 0 0], .slice none 0 0, .int .i64 0, .int .i64 0] 8 rfl (shapedL os _) (by kernel_rfl) (by kernel_rfl) (by kernel_rfl) (laid_metL os _)) ?_
  · intro ds hd
    rw [Tryz.params5] at hd
    match ds, hd with
    | [d0, d1, d2, d3], _ => rfl
  · intro W base args ds ps hM hval hA
    rw [Tryz.params5] at hA hval
    obtain ⟨v0, vs0, d0, ds0, p0, q0, hargs, rfl, rfl, h0, r0⟩ := trodAll_cons hA
    obtain ⟨v1, vs1, d1, ds1, p1, q1, rfl, rfl, rfl, h1, r1⟩ := trodAll_cons r0
    obtain ⟨v2, vs2, d2, ds2, p2, q2, rfl, rfl, rfl, h2, r2⟩ := trodAll_cons r1
    obtain ⟨v3, vs3, d3, ds3, p3, q3, rfl, rfl, rfl, h3, r3⟩ := trodAll_cons r2
    obtain ⟨rfl, rfl, rfl⟩ := trodAll_nil r3
    obtain rfl : args = #[v0, v1, v2, v3] := by cases args; simp_all
    obtain ⟨nm, vt, ts, rfl, hnm, hT, hok⟩ := open_pipe (hval 0 46 v0 rfl rfl) h0
    obtain ⟨s1, n1, k1, rfl⟩ := okWide_slice Tryz.underlying48 (hval 1 48 v1 rfl rfl)
    obtain ⟨fuel, hf1⟩ := h1
    obtain ⟨os, hO, ho, hmo⟩ := openC_structs (encA := encR) (ok := OpR.ok) (k := 6) (by decide) (fun _ => rfl) Tryz.underlying48 (by kernel_rfl) (fun n cs y h => opR_of h) hf1
    obtain ⟨a2, rfl, _, _, _⟩ := open_int Tryz.underlying3 (hval 2 3 v2 rfl rfl) h2
    obtain ⟨a3, rfl, _, _, _⟩ := open_int Tryz.underlying3 (hval 3 3 v3 rfl rfl) h3
    exact runTimes_walk nm _ ts _ os _ _ _ hT hok hnm hO ho hmo hM

theorem runTimes_row : Rows.RunTimesSaid :=
  OpenClaim.holds_of_wide 5 Tryz.f5 rfl rfl rfl rfl rfl rfl rfl ⟨rfl, rfl, rfl, rfl, rfl⟩ rfl rfl rfl rfl rfl (by kernel_rfl) Tryz.func5 (by kernel_rfl)
    (of_decide_eq_true (by kernel_rfl)) (by unfold Func.isWrapper; first | (rw [if_pos (by decide +kernel)]; kernel_rfl) | (rw [if_neg (by decide +kernel)]; exact ⟨rfl, rfl⟩))
    (fun os started H enc _ => runTimes_lifted os started H enc)
theorem runTimes_holds : Rows.RunTimesCardSaid :=
  Claim7.holds_tied_plain_at .later [] [.data, .data, .data, .sentinel, .sentinel] true (true, "2f13b6cc92835c72b660c9667954f9a291f485fe2b50b279bce080c968671950") true
    runTimes_row (fun _ h => by cases h) (by kernel_rfl) (fun _ h => by cases h) runTimes_row_tie rfl ⟨rfl, rfl⟩ (by kernel_rfl) rfl
    (fun f fn hf hfn => by
      obtain rfl : f = 5 := Option.some.inj ((show Tryz.prog.funcNamed "lockage/lockagelaw13.RunTimes" = some 5 by kernel_rfl).symm.trans hf) |>.symm
      obtain rfl : fn = Tryz.f5 := (Option.some.inj (Tryz.func5.symm.trans hfn)).symm
      exact ⟨by kernel_rfl, fun j t ht => by
        rw [Tryz.params5] at ht
        have hm : t ∈ [46, 48, 3, 3] := by simpa using Array.mem_of_getElem? ht
        have hall : ([46, 48, 3, 3].all fun u => !Tryz.prog.wantsStandIn u) = true := by kernel_rfl
        exact (show Tryz.prog.wantsStandIn t = false by simpa using List.all_eq_true.1 hall t hm)⟩)
    (by kernel_rfl)
end Go.Proofs.YtbbcicengfmhiaaGreatDoor

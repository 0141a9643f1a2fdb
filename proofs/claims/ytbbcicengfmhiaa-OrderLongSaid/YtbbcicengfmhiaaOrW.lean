/- OrderLong's own walk. Conditions: sizes. -/
import Derived.Test.YtbbcicengfmhiaaOrV
namespace Go.Proofs.Ytbbcicengfmhiaa
set_option maxRecDepth 100000
open Go.RowKit

set_option maxHeartbeats 16000000 in
theorem orderLong_walk (nm : ByteArray) (vt : Value) (ts : List TaskV) (v1 : Value) (done : List Bool) (a : Int) (w : World) (h : TasksAt w vt ts) (hok : okTs ts) (hnm : nm.size ≤ maxLen) (hd : SlAt 1 encB w v1 done) (hdl : done.length ≤ maxLen) (ha : -9223372036854775808 ≤ a ∧ a ≤ 9223372036854775807) :
    Calls Try.prog 3 #[.agg #[.string nm, vt], v1, .int .i64 a] w fun e w' => e = .returned (.bool true) ∧ Below w.heap.size w w' := by
  obtain ⟨ib, hib, hbz0, hbz1, hbz2⟩ := info_parts bool_infoR
  have HP := Lib.hid (PipeAt.mk (nm := nm) h)
  have HD := Lib.hid (hd.below (below1 w (.cells #[.string nm, vt] 24)))
  have HB0 := Lib.hid (below1 w (.cells #[.string nm, vt] 24))
  obtain ⟨p, c, rfl, hp⟩ := h.val
  obtain ⟨pd, cd, rfl, _⟩ := id hd
  have HPP := Lib.hid hp
  have HFW := Lib.hid (fun (h : fewP nm ts = true) => show ts.length ≤ 20 by
    unfold fewP at h
    simp only [Bool.and_eq_true, decide_eq_true_eq] at h
    exact h.2.1)
  have HLE := Lib.hid (fun (h : pipeB nm ts = true) => pipeB_len h)
  have HFL := Lib.hid (fun (h : pipeB nm ts = true) => flat_long h)
  have HMR := Lib.hid (fun m (h : pipeB nm ts = true) i hi hne => more_ready (done := done) (m := m) h (i := i) hi hne)
  have HNR := Lib.hid (fun m (h : pipeB nm ts = true) hm => not_ready (done := done) (m := m) h hm)
  have HRL := Lib.hid (fun (d : List Bool) => readyP_len (nm := nm) (ts := ts) (done := d))
  have HSU := Lib.hid (fun i => flB_succ ts i)
  have K5 := Lib.hid (fun W (hW : TasksAt W (.slice p ts.length c) ts) => ref08Few nm _ ts W hW hok)
  have K6 := Lib.hid (fun W (hW : TasksAt W (.slice p ts.length c) ts) hb => ref08Right nm _ ts W hW hok hnm hb)
  have K7 := Lib.hid (fun W (hW : TasksAt W (.slice p ts.length c) ts) hb => ordLong nm _ ts W hW hok hnm hb)
  have K9 := Lib.hid (fun W v d (hW : TasksAt W (.slice p ts.length c) ts) (hd : SlAt 1 encB W v d) hb => ordReadyP nm _ v ts d W hW hd hb hok hnm)
  have HMOD := Lib.hid (fun (n : Nat) (hn : 0 < n) => show ∃ m : Nat, m < n ∧ (IntKind.u64.wrap a).tmod n = m by
    obtain ⟨m, ⟨m0, m1⟩, e⟩ := umod a n (by omega)
    obtain ⟨k, rfl⟩ := Int.eq_ofNat_of_zero_le m0
    exact ⟨k, by omega, e⟩)
  have hmm := @run_makeMap Try.prog
  clear h hd hp hok hnm hdl
  generalize fewP nm ts = q5 at HFW K5
  generalize hN : ts.length = N at *
  have HN := Lib.hid hN
  clear hN
  generalize hD : done.length = D at *
  have HDL := Lib.hid hD
  clear hD
  go_enter Try.func3, Try.ntmps3
  go_wp2_with fail
  generalize w.alloc (.cells #[.string nm, .slice p N c] 24) = W0 at HP HB0 HD ⊢
  refine (awake09 _).mono ?_
  rintro e w1 ⟨rfl, hb⟩
  have HB := Lib.hid (HB0.out.trans (hb.mono HB0.out.size))
  have HP := Lib.hid (HP.out.below hb)
  have HD := Lib.hid (HD.out.below hb)
  clear hb
  obtain ⟨_, c0, c1, hts⟩ := id HP.out
  have HT := Lib.hid hts
  clear hts
  go_wp2_with fail
  refine (K5.out _ HT.out).mono ?_
  rintro e w2 ⟨rfl, hb⟩
  have HB := Lib.hid (HB.out.trans (hb.mono HB.out.size))
  have HP := Lib.hid (HP.out.below hb)
  have HD := Lib.hid (HD.out.below hb)
  clear hb
  clear c0 c1 HT
  cases q5 with
  | false =>
    go_wp2_with fail
    refine (awake09 _).mono ?_
    rintro e w3 ⟨rfl, hb⟩
    go_wp2
    go_ret
    exact ⟨rfl, HB.out.trans (hb.mono HB.out.size)⟩
  | true =>
  have hn20 := HFW.out rfl
  obtain ⟨_, c0, c1, hts⟩ := id HP.out
  have HT := Lib.hid hts
  clear hts
  go_wp2_with fail
  refine (K6.out _ HT.out (by omega)).mono ?_
  rintro e w3 ⟨rfl, hb⟩
  have HB := Lib.hid (HB.out.trans (hb.mono HB.out.size))
  have HP := Lib.hid (HP.out.below hb)
  have HD := Lib.hid (HD.out.below hb)
  clear hb
  clear c0 c1 HT K5 K6
  generalize hq6 : pipeB nm ts = q6 at HLE HFL HMR HNR ⊢
  cases q6 with
  | false =>
    go_wp2_with fail
    refine (awake09 _).mono ?_
    rintro e w3 ⟨rfl, hb⟩
    go_wp2
    go_ret
    exact ⟨rfl, HB.out.trans (hb.mono HB.out.size)⟩
  | true =>
  clear hq6
  obtain ⟨hn1, hn8⟩ := HLE.out rfl
  obtain ⟨hle, hfl⟩ := HFL.out rfl
  clear HLE HFL HFW
  obtain ⟨_, c0, c1, hts⟩ := id HP.out
  have HT := Lib.hid hts
  clear hts
  by_cases hDN : D = N
  case neg =>
    have hne : ¬ (D : Int) = (N : Int) := by omega
    go_wp2_with fail
    refine (awake09 _).mono ?_
    rintro e w3 ⟨rfl, hb⟩
    go_wp2
    go_ret
    exact ⟨rfl, HB.out.trans (hb.mono HB.out.size)⟩
  subst hDN
  have hnn : (D : Int) = (D : Int) := rfl
  go_wp2_with fail
  refine (K7.out _ HT.out (by omega)).mono ?_
  rintro e w4 ⟨rfl, hb⟩
  have HB := Lib.hid (HB.out.trans (hb.mono HB.out.size))
  have HP := Lib.hid (HP.out.below hb)
  have HD := Lib.hid (HD.out.below hb)
  clear hb
  clear c0 c1 HT K7 hnn
  generalize longP nm ts = L at hle hfl ⊢
  obtain ⟨b, off, rfl⟩ := HPP.out (by omega)
  obtain ⟨_, c0, c1, hts⟩ := id HP.out
  clear hts
  go_wp2_with fail
  clear c0 c1
  have HFL := Lib.hid hfl
  clear hfl
  go_loopw [8, 44] (fun f t wr => ∃ i : Nat, i ≤ D ∧ t = .int .i64 i ∧ f = .bool (flB ts i) ∧ Below w.heap.size w wr ∧ PipeAt wr w.heap.size nm (.slice (some ⟨b, off, none⟩) D c) ts ∧ SlAt 1 encB wr (.slice pd D cd) done) (fun _ t _ => D - (intOf t).toNat)
  case atStart => exact ⟨0, by omega, rfl, rfl, HB.out, HP.out, HD.out⟩
  case round =>
    obtain ⟨i, hi, rfl, rfl, hb, hp, hd⟩ := hrel
    have HB := Lib.hid hb
    have HP := Lib.hid hp
    have HD := Lib.hid hd
    clear hb hp hd
    by_cases hlt : i < D
    · have hltz : (i : Int) < (D : Int) := by omega
      have hits : i < ts.length := by have := HN.out; omega
      obtain ⟨_, _, _, hts⟩ := id HP.out
      have HTK := Lib.hid (hts.at (j := i) hits)
      have HE := Lib.hid (HSU.out i)
      obtain ⟨d0, d1, d2, d3, d4, d5, d6⟩ := HTK.out.cells
      clear hts hits
      generalize ts[i]! = ta at *
      obtain ⟨tn, tsl, taf, tr, tt, tnd, tl, tst⟩ := ta
      dsimp only at *
      obtain ⟨ps, cs, hv, _⟩ := HTK.out.2.2
      dsimp only at hv
      subst hv
      have hbx := below1 wr (.cells #[.string tn, .slice ps taf.length cs, .int .i64 tr, .int .i64 tt, .int .i64 tnd, .int .i64 tl, .int .u16 (tst : Int)] 34)
      have HBX := Lib.hid (HB.out.trans (hbx.mono HB.out.size))
      have HPX := Lib.hid (HP.out.below hbx)
      have HDX := Lib.hid (HD.out.below hbx)
      clear hbx
      have HEM := Lib.hid (show taf.isEmpty = decide (taf.length = 0) by cases taf <;> simp)
      generalize flB ts i = q at HE ⊢
      cases q with
      | false =>
        go_wp2
        go_roundw
        case rel =>
          have hf : Value.bool false = .bool (flB ts (i + 1)) := by rw [HE.out]; rfl
          first | exact ⟨i + 1, by omega, by go_num, hf, HBX.out, HPX.out, HDX.out⟩ | ((repeat apply Exists.intro); exact ⟨⟨i + 1, by omega, by go_num, hf, HBX.out, HPX.out, HDX.out⟩, rfl⟩)
        case measure => simp [intOf] <;> omega
      | true =>
        have hf : Value.bool ((taf.length : Int) == 0) = .bool (flB ts (i + 1)) := by
          rw [HE.out, HEM.out, Bool.true_and]
          congr 1
          rw [Bool.eq_iff_iff]
          simp
        have HF := Lib.hid hf
        clear hf
        go_wp2
        go_roundw
        case rel => first | exact ⟨i + 1, by omega, by go_num, HF.out, HBX.out, HPX.out, HDX.out⟩ | trace_state
        case measure => simp [intOf] <;> omega
    · obtain rfl : i = D := by omega
      rw [HFL.out]
      obtain ⟨m, hm, hmod⟩ := HMOD.out i (by omega)
      have hmz : (m : Int) < (i : Int) := by omega
      obtain ⟨_, c0, c1, hts⟩ := id HP.out
      have HT := Lib.hid hts
      clear hts
      cases hF : (L == 1)
      · have hL : ¬ L = 1 := by simpa using hF
        go_wp2_with fail
        refine (K9.out _ _ _ HT.out HD.out (by have := HDL.out; omega)).mono ?_
        rintro e w5 ⟨vr, rfl, hR, hb⟩
        have HB := Lib.hid (HB.out.trans (hb.mono HB.out.size))
        have HP := Lib.hid (HP.out.below hb)
        have HD := Lib.hid (HD.out.below hb)
        have HR1 := Lib.hid hR
        have HL1 := Lib.hid (HRL.out done)
        have HM1 := Lib.hid (HMR.out m (by simp))
        have HN1 := Lib.hid (HNR.out m (by simp) (by have := HDL.out; omega))
        have HL2 := Lib.hid (HRL.out (done.set m true))
        obtain ⟨p1, cr1, rfl, _⟩ := id hR
        clear hb c0 c1 HT hR HMR HNR HRL
        generalize readyP nm ts done = l1 at HR1 HL1 HM1 ⊢
        go_wp2_with (at_builtin; refine wpList_copyB rfl _ _ 25 rfl ib Try.underlying25 hib hbz0 hbz1 hbz2 rfl _ done rfl HD.out (by have := HDL.out; omega) ?_)
        intro v' w6 hown hb6
        obtain ⟨g, cg, hv, hg0, hg1, hga⟩ := ownB_set hown (by have := HDL.out; omega)
        obtain ⟨f1, g1, s1⟩ := hga m (by have := HDL.out; omega)
        rw [HDL.out] at hv s1
        subst hv
        have HS1 := Lib.hid s1
        clear hown hga s1
        have hb7 : Below w5.heap.size w5 ((w6.setCell ⟨g, m, none⟩ (.bool true)).alloc (.map #[] 0)) := (hb6.setCell (p := ⟨g, m, none⟩) hg0 (.bool true)).alloc (by have := hb6.size; simp; omega) _
        have hz5 : w.heap.size < w5.heap.size := HP.out.1
        have hz6 : w.heap.size ≤ w6.heap.size := by have := hb6.size; omega
        have HB7 := Lib.hid (HB.out.trans (hb7.mono HB.out.size))
        have HP7 := Lib.hid (HP.out.below hb7)
        have HR7 := Lib.hid (HR1.out.below hb7)
        have HS7 := Lib.hid (HS1.out.below (below1 _ (.map #[] 0)))
        have HG1 := Lib.hid hg1
        clear hb7 hb6 hg0 HB HP HD HR1 HS1
        go_upto_region 17 with fail
        clear f1 g1 hg1
        have hsz : (w6.setCell ⟨g, m, none⟩ (.bool true)).heap.size = w6.heap.size := by simp
        generalize hbm : w6.heap.size = bm at *
        have HNU := Lib.hid (show NumsAt ((w6.setCell ⟨g, m, none⟩ (.bool true)).alloc (.map #[] 0)) bm (readyP nm ts (done.set m true)) 0 by rw [← hsz]; exact ⟨[], MapIs.made _ _ _, fun s => by simp [mlook]⟩)
        clear hsz hbm
        generalize (w6.setCell ⟨g, m, none⟩ (.bool true)).alloc (.map #[] 0) = W7 at *
        obtain ⟨_, c0, c1, hts⟩ := id HP7.out
        have HT := Lib.hid hts
        clear hts
        go_wp2_with fail
        refine (K9.out _ _ (done.set m true) HT.out HS7.out (by have := HDL.out; rw [List.length_set]; omega)).mono ?_
        rintro e w8 ⟨v2, rfl, hR, hb⟩
        have HB8 := Lib.hid (HB7.out.trans (hb.mono HB7.out.size))
        have HR8 := Lib.hid (HR7.out.below hb)
        have HNU := Lib.hid (HNU.out.below hb)
        have HR2 := Lib.hid hR
        obtain ⟨p2, cr2, rfl, _⟩ := id hR
        clear hb c0 c1 HT hR HB7 HP7 HR7 HS7 K9
        generalize readyP nm ts (done.set m true) = l2 at *
        go_wp2_with fail
        go_loopw [102] (fun t wr => ∃ j : Nat, j ≤ l2.length ∧ t = .int .i64 j ∧ Below w.heap.size w wr ∧ NumsAt wr bm l2 j ∧ SlAt 1 encI wr (.slice p1 l1.length cr1) l1 ∧ SlAt 1 encI wr (.slice p2 l2.length cr2) l2) (fun t _ => l2.length - (intOf t).toNat)
        case atStart => exact ⟨0, by omega, rfl, HB8.out, HNU.out, HR8.out, HR2.out⟩
        case round =>
          obtain ⟨j, hj, rfl, hb, hnu, hr1, hr2⟩ := hrel
          have HB := Lib.hid hb
          have HNU := Lib.hid hnu
          have HR1 := Lib.hid hr1
          have HR2 := Lib.hid hr2
          clear hb hnu hr1 hr2 HB8 HR8
          by_cases hlj : j < l2.length
          · have hljz : (j : Int) < (l2.length : Int) := by omega
            have hj20 : (j : Int) < 20 := by have := HL2.out; omega
            obtain ⟨b2, o2, rfl, e2⟩ := HR2.out.cellI hlj
            obtain ⟨mm, hM, hmm2⟩ := HNU.out
            have HMM := Lib.hid hM
            have HML := Lib.hid (fun s => nums_next hlj hmm2 s)
            clear hM hmm2
            generalize hx2 : l2[j]! = x2 at e2 HML
            clear hx2
            go_wp2_with (at_mapUpdate; refine wpList_store rfl _ _ _ 37 rfl 3 4 keyIB Try.underlying37 bm mm rfl HMM.out x2 rfl true rfl ?_; intro w9 hM4 hg4)
            go_roundw
            case rel =>
              obtain ⟨es, ck, hmb, _⟩ := id HMM.out
              have hk := KeepC.map hmb hg4
              have hb4 : Below w.heap.size w w9 := HB.out.grown hg4 HB.out.size (fun k hk => by cases hk; omega)
              have hm4 : NumsAt w9 bm l2 (j + 1) := ⟨_, hM4, HML.out⟩
              first | exact ⟨j + 1, by omega, by go_num, hb4, hm4, HR1.out.keepC hk, HR2.out.keepC hk⟩ | trace_state
            case measure => simp [intOf] <;> omega
          · obtain rfl : j = l2.length := by omega
            have HAL := Lib.hid (show ∀ x : Int, ((l2.take l2.length).any fun u => u == x) = l2.any fun u => u == x from fun x => by rw [List.take_length])
            go_wp2_with fail
            go_loopw [111] (fun t wr => ∃ j : Nat, j ≤ l1.length ∧ t = .int .i64 j ∧ Below w.heap.size w wr ∧ NumsAt wr bm l2 l2.length ∧ SlAt 1 encI wr (.slice p1 l1.length cr1) l1) (fun t _ => l1.length - (intOf t).toNat)
            case atStart => exact ⟨0, by omega, rfl, HB.out, HNU.out, HR1.out⟩
            case round =>
              obtain ⟨k, hk, rfl, hb, hnu, hr1⟩ := hrel
              have HBk := Lib.hid hb
              have HNk := Lib.hid hnu
              have HRk := Lib.hid hr1
              clear hb hnu hr1 HB HNU HR1 HR2
              obtain ⟨mm, hM, hmm2⟩ := HNk.out
              by_cases hlk : k < l1.length
              · have hlkz : (k : Int) < (l1.length : Int) := by omega
                have hk20 : (k : Int) < 20 := by have := HL1.out; omega
                obtain ⟨b1, o1, rfl, e1⟩ := HRk.out.cellI hlk
                have HME := Lib.hid (fun (hne : l1[k]! ≠ (m : Int)) => show (mlook mm l1[k]!).getD false = true by
                  rw [hmm2, HAL.out, List.any_eq_true]
                  exact ⟨l1[k]!, HM1.out _ (by rw [getElem!_pos l1 k hlk]; exact List.getElem_mem hlk) hne, by simp⟩)
                have hlk2 := hM.look keyIB Try.underlying37 false (zeroBB _) l1[k]!
                clear hM hmm2
                generalize l1[k]! = x1 at e1 HME hlk2
                by_cases hx : x1 = (m : Int)
                · clear hlk2
                  go_wp2
                  go_roundw
                  case rel => first | exact ⟨k + 1, by omega, by go_num, HBk.out, HNk.out, HRk.out⟩ | trace_state
                  case measure => simp [intOf] <;> omega
                · rw [HME.out hx] at hlk2
                  go_wp2
                  go_roundw
                  case rel => first | exact ⟨k + 1, by omega, by go_num, HBk.out, HNk.out, HRk.out⟩ | trace_state
                  case measure => simp [intOf] <;> omega
              · obtain rfl : k = l1.length := by omega
                have hlk2 := hM.look keyIB Try.underlying37 false (zeroBB _) (m : Int)
                rw [hmm2, HAL.out, HN1.out] at hlk2
                clear hM hmm2
                go_wp2
                go_ret
                exact ⟨rfl, HBk.out⟩
      · have hL : L = 1 := by simpa using hF
        subst hL
        go_wp2_with fail
        refine (K9.out _ _ _ HT.out HD.out (by have := HDL.out; omega)).mono ?_
        rintro e w5 ⟨vr, rfl, hR, hb⟩
        have HB := Lib.hid (HB.out.trans (hb.mono HB.out.size))
        have HP := Lib.hid (HP.out.below hb)
        have HD := Lib.hid (HD.out.below hb)
        have HR1 := Lib.hid hR
        have HL1 := Lib.hid (HRL.out done)
        have HM1 := Lib.hid (HMR.out m (by simp))
        have HN1 := Lib.hid (HNR.out m (by simp) (by have := HDL.out; omega))
        have HL2 := Lib.hid (HRL.out (done.set m true))
        obtain ⟨p1, cr1, rfl, _⟩ := id hR
        clear hb c0 c1 HT hR HMR HNR HRL
        generalize readyP nm ts done = l1 at HR1 HL1 HM1 ⊢
        go_wp2_with (at_builtin; refine wpList_copyB rfl _ _ 25 rfl ib Try.underlying25 hib hbz0 hbz1 hbz2 rfl _ done rfl HD.out (by have := HDL.out; omega) ?_)
        intro v' w6 hown hb6
        obtain ⟨g, cg, hv, hg0, hg1, hga⟩ := ownB_set hown (by have := HDL.out; omega)
        obtain ⟨f1, g1, s1⟩ := hga m (by have := HDL.out; omega)
        rw [HDL.out] at hv s1
        subst hv
        have HS1 := Lib.hid s1
        clear hown hga s1
        have hb7 : Below w5.heap.size w5 ((w6.setCell ⟨g, m, none⟩ (.bool true)).alloc (.map #[] 0)) := (hb6.setCell (p := ⟨g, m, none⟩) hg0 (.bool true)).alloc (by have := hb6.size; simp; omega) _
        have hz5 : w.heap.size < w5.heap.size := HP.out.1
        have hz6 : w.heap.size ≤ w6.heap.size := by have := hb6.size; omega
        have HB7 := Lib.hid (HB.out.trans (hb7.mono HB.out.size))
        have HP7 := Lib.hid (HP.out.below hb7)
        have HR7 := Lib.hid (HR1.out.below hb7)
        have HS7 := Lib.hid (HS1.out.below (below1 _ (.map #[] 0)))
        have HG1 := Lib.hid hg1
        clear hb7 hb6 hg0 HB HP HD HR1 HS1
        go_upto_region 17 with fail
        clear f1 g1 hg1
        have hsz : (w6.setCell ⟨g, m, none⟩ (.bool true)).heap.size = w6.heap.size := by simp
        generalize hbm : w6.heap.size = bm at *
        have HNU := Lib.hid (show NumsAt ((w6.setCell ⟨g, m, none⟩ (.bool true)).alloc (.map #[] 0)) bm (readyP nm ts (done.set m true)) 0 by rw [← hsz]; exact ⟨[], MapIs.made _ _ _, fun s => by simp [mlook]⟩)
        clear hsz hbm
        generalize (w6.setCell ⟨g, m, none⟩ (.bool true)).alloc (.map #[] 0) = W7 at *
        obtain ⟨_, c0, c1, hts⟩ := id HP7.out
        have HT := Lib.hid hts
        clear hts
        go_wp2_with fail
        refine (K9.out _ _ (done.set m true) HT.out HS7.out (by have := HDL.out; rw [List.length_set]; omega)).mono ?_
        rintro e w8 ⟨v2, rfl, hR, hb⟩
        have HB8 := Lib.hid (HB7.out.trans (hb.mono HB7.out.size))
        have HR8 := Lib.hid (HR7.out.below hb)
        have HNU := Lib.hid (HNU.out.below hb)
        have HR2 := Lib.hid hR
        obtain ⟨p2, cr2, rfl, _⟩ := id hR
        clear hb c0 c1 HT hR HB7 HP7 HR7 HS7 K9
        generalize readyP nm ts (done.set m true) = l2 at *
        go_wp2_with fail
        go_loopw [102] (fun t wr => ∃ j : Nat, j ≤ l2.length ∧ t = .int .i64 j ∧ Below w.heap.size w wr ∧ NumsAt wr bm l2 j ∧ SlAt 1 encI wr (.slice p1 l1.length cr1) l1 ∧ SlAt 1 encI wr (.slice p2 l2.length cr2) l2) (fun t _ => l2.length - (intOf t).toNat)
        case atStart => exact ⟨0, by omega, rfl, HB8.out, HNU.out, HR8.out, HR2.out⟩
        case round =>
          obtain ⟨j, hj, rfl, hb, hnu, hr1, hr2⟩ := hrel
          have HB := Lib.hid hb
          have HNU := Lib.hid hnu
          have HR1 := Lib.hid hr1
          have HR2 := Lib.hid hr2
          clear hb hnu hr1 hr2 HB8 HR8
          by_cases hlj : j < l2.length
          · have hljz : (j : Int) < (l2.length : Int) := by omega
            have hj20 : (j : Int) < 20 := by have := HL2.out; omega
            obtain ⟨b2, o2, rfl, e2⟩ := HR2.out.cellI hlj
            obtain ⟨mm, hM, hmm2⟩ := HNU.out
            have HMM := Lib.hid hM
            have HML := Lib.hid (fun s => nums_next hlj hmm2 s)
            clear hM hmm2
            generalize hx2 : l2[j]! = x2 at e2 HML
            clear hx2
            go_wp2_with (at_mapUpdate; refine wpList_store rfl _ _ _ 37 rfl 3 4 keyIB Try.underlying37 bm mm rfl HMM.out x2 rfl true rfl ?_; intro w9 hM4 hg4)
            go_roundw
            case rel =>
              obtain ⟨es, ck, hmb, _⟩ := id HMM.out
              have hk := KeepC.map hmb hg4
              have hb4 : Below w.heap.size w w9 := HB.out.grown hg4 HB.out.size (fun k hk => by cases hk; omega)
              have hm4 : NumsAt w9 bm l2 (j + 1) := ⟨_, hM4, HML.out⟩
              first | exact ⟨j + 1, by omega, by go_num, hb4, hm4, HR1.out.keepC hk, HR2.out.keepC hk⟩ | trace_state
            case measure => simp [intOf] <;> omega
          · obtain rfl : j = l2.length := by omega
            have HAL := Lib.hid (show ∀ x : Int, ((l2.take l2.length).any fun u => u == x) = l2.any fun u => u == x from fun x => by rw [List.take_length])
            go_wp2_with fail
            go_loopw [111] (fun t wr => ∃ j : Nat, j ≤ l1.length ∧ t = .int .i64 j ∧ Below w.heap.size w wr ∧ NumsAt wr bm l2 l2.length ∧ SlAt 1 encI wr (.slice p1 l1.length cr1) l1) (fun t _ => l1.length - (intOf t).toNat)
            case atStart => exact ⟨0, by omega, rfl, HB.out, HNU.out, HR1.out⟩
            case round =>
              obtain ⟨k, hk, rfl, hb, hnu, hr1⟩ := hrel
              have HBk := Lib.hid hb
              have HNk := Lib.hid hnu
              have HRk := Lib.hid hr1
              clear hb hnu hr1 HB HNU HR1 HR2
              obtain ⟨mm, hM, hmm2⟩ := HNk.out
              by_cases hlk : k < l1.length
              · have hlkz : (k : Int) < (l1.length : Int) := by omega
                have hk20 : (k : Int) < 20 := by have := HL1.out; omega
                obtain ⟨b1, o1, rfl, e1⟩ := HRk.out.cellI hlk
                have HME := Lib.hid (fun (hne : l1[k]! ≠ (m : Int)) => show (mlook mm l1[k]!).getD false = true by
                  rw [hmm2, HAL.out, List.any_eq_true]
                  exact ⟨l1[k]!, HM1.out _ (by rw [getElem!_pos l1 k hlk]; exact List.getElem_mem hlk) hne, by simp⟩)
                have hlk2 := hM.look keyIB Try.underlying37 false (zeroBB _) l1[k]!
                clear hM hmm2
                generalize l1[k]! = x1 at e1 HME hlk2
                by_cases hx : x1 = (m : Int)
                · clear hlk2
                  go_wp2
                  go_roundw
                  case rel => first | exact ⟨k + 1, by omega, by go_num, HBk.out, HNk.out, HRk.out⟩ | trace_state
                  case measure => simp [intOf] <;> omega
                · rw [HME.out hx] at hlk2
                  go_wp2
                  go_roundw
                  case rel => first | exact ⟨k + 1, by omega, by go_num, HBk.out, HNk.out, HRk.out⟩ | trace_state
                  case measure => simp [intOf] <;> omega
              · obtain rfl : k = l1.length := by omega
                have hlk2 := hM.look keyIB Try.underlying37 false (zeroBB _) (m : Int)
                rw [hmm2, HAL.out, HN1.out] at hlk2
                clear hM hmm2
                go_wp2
                go_ret
                exact ⟨rfl, HBk.out⟩
end Go.Proofs.Ytbbcicengfmhiaa

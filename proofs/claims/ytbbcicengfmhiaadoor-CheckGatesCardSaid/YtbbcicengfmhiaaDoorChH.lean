/- CheckGates: of what check.Check has nothing to say against, each gate stands as the law says. Every input. -/
import Derived.Test.YtbbcicengfmhiaaDoorChG
import Derived.Test.YtbbcicengfmhiaaDoorRoz
import Derived.Test.YtbbcicengfmhiaaDoorAwk10
import Derived.Test.YtbbcicengfmhiaaDoorFrameE
import Derived.Test.YtbbcicengfmhiaaDoorRosO
namespace Go.Proofs.YtbbcicengfmhiaaDoor
set_option maxRecDepth 100000
open Go.ChangeShapes Go.WideShapes Go.ChangeAt Go.RowKit Go.Deep Go.Joins

/-- what lies about there -/
def GwAt (w : World) (nm : ByteArray) (vt vl vp : Value) (ts : List TaskV) (ls : List Lbl) (ps : List Psn) (W : World) : Prop :=
  Below w.heap.size w W ∧ MetE W ∧ SlAt 2 encL W vl ls ∧ SlAt 3 encP W vp ps ∧ PipeAt W w.heap.size nm vt ts
theorem GwAt.next {w W W' : World} {nm : ByteArray} {vt vl vp : Value} {ts : List TaskV} {ls : List Lbl} {ps : List Psn} (h : GwAt w nm vt vl vp ts ls ps W) (hb : Below W.heap.size W W') : GwAt w nm vt vl vp ts ls ps W' := by
  obtain ⟨h1, h2, h3, h4, h5⟩ := h
  exact ⟨h1.trans (hb.mono h1.size), h2.below hb, h3.below hb, h4.below hb, h5.below hb⟩
theorem GwAt.mk {w : World} {nm : ByteArray} {vt vl vp : Value} {ts : List TaskV} {ls : List Lbl} {ps : List Psn} (hT : TasksAt w vt ts) (hL : SlAt 2 encL w vl ls) (hP : SlAt 3 encP w vp ps) (hM : MetE w) : GwAt w nm vt vl vp ts ls ps (w.alloc (.cells #[.string nm, vt] 24)) := by
  have hb0 := below1 w (.cells #[.string nm, vt] 24)
  exact ⟨hb0, hM.below hb0, hL.below hb0, hP.below hb0, PipeAt.mk hT⟩
/-- where a label, a principal lies -/
theorem SlAt.cellL {w : World} {xs : List Lbl} {v : Value} (h : SlAt 2 encL w v xs) {k : Nat} (hk : k < xs.length) : ∃ b o c, v = .slice (some ⟨b, o, none⟩) xs.length c ∧ b < w.heap.size ∧ ∀ j, j < xs.length → w.cell? ⟨b, o + j * 2, none⟩ = some (.int .i64 xs[j]!.1) ∧ w.cell? ⟨b, o + j * 2 + 1, none⟩ = some (.int .u16 (xs[j]!.2 : Int)) := by
  obtain ⟨p, c, rfl, _, hc⟩ := h
  obtain ⟨b, o, rfl, hb, hcc⟩ := hc (by omega)
  exact ⟨b, o, c, rfl, hb, fun j hj => ⟨hcc j hj 0 _ rfl, hcc j hj 1 _ rfl⟩⟩
theorem SlAt.cellP {w : World} {xs : List Psn} {v : Value} (h : SlAt 3 encP w v xs) {k : Nat} (hk : k < xs.length) : ∃ b o c, v = .slice (some ⟨b, o, none⟩) xs.length c ∧ b < w.heap.size ∧ ∀ j, j < xs.length → w.cell? ⟨b, o + j * 3, none⟩ = some (.int .i64 xs[j]!.1) ∧ w.cell? ⟨b, o + j * 3 + 1, none⟩ = some (.int .i64 xs[j]!.2.1) ∧ w.cell? ⟨b, o + j * 3 + 2, none⟩ = some (.int .u16 (xs[j]!.2.2 : Int)) := by
  obtain ⟨p, c, rfl, _, hc⟩ := h
  obtain ⟨b, o, rfl, hb, hcc⟩ := hc (by omega)
  exact ⟨b, o, c, rfl, hb, fun j hj => ⟨hcc j hj 0 _ rfl, hcc j hj 1 _ rfl, hcc j hj 2 _ rfl⟩⟩
theorem SlAt.cellJ {w : World} {xs : List Int} {v : Value} (h : SlAt 1 encI w v xs) {k : Nat} (hk : k < xs.length) : ∃ b o c, v = .slice (some ⟨b, o, none⟩) xs.length c ∧ b < w.heap.size ∧ ∀ j, j < xs.length → w.cell? ⟨b, o + j, none⟩ = some (.int .i64 xs[j]!) := by
  obtain ⟨p, c, rfl, _, hc⟩ := h
  obtain ⟨b, o, rfl, hb, hcc⟩ := hc (by omega)
  refine ⟨b, o, c, rfl, hb, fun j hj => ?_⟩
  have := hcc j hj 0 _ rfl
  simpa using this

set_option maxHeartbeats 32000000 in
theorem checkGates_walk (nm : ByteArray) (vt vl vp : Value) (ts : List TaskV) (ls : List Lbl) (ps : List Psn) (part : Int) (w : World) (hT : TasksAt w vt ts) (hok : okTs ts) (hnm : nm.size ≤ maxLen) (hL : SlAt 2 encL w vl ls) (hP : SlAt 3 encP w vp ps) (hml : ls.length ≤ maxLen) (hmp : ps.length ≤ maxLen) (ho : okL ls) (hop : okP ps) (hM : MetE w) :
    Calls Tryd.prog 3 #[.agg #[.string nm, vt], vl, vp, .int .i64 part] w fun e w' => e = .returned (.bool true) ∧ Below w.heap.size w w' := by
  unfold maxLen at hml hmp
  have HV := Lib.hid (GwAt.mk (nm := nm) hT hL hP hM)
  obtain ⟨pl, cl, rfl, _⟩ := id hL
  obtain ⟨pp, cp, rfl, _⟩ := id hP
  obtain ⟨pt, ct, rfl, hpt⟩ := hT.val
  have HPP := Lib.hid hpt
  have HOL := Lib.hid ho
  have HOP := Lib.hid hop
  have HOK := Lib.hid hok
  have KN := Lib.hid (fun W (h1 : SlAt 2 encL W (.slice pl ls.length cl) ls) (h2 : SlAt 3 encP W (.slice pp ps.length cp) ps) => refNew _ _ ls ps W h1 h2 (by omega) (by omega))
  have HBD := Lib.hid (new_bounds (ls := ls) (ps := ps))
  have K11 := Lib.hid (fun W (hW : TasksAt W (.slice pt ts.length ct) ts) => ref08Few nm _ ts W hW hok)
  have K14 := Lib.hid (fun v W (h : Ros W v ls ps) (hW : TasksAt W (.slice pt ts.length ct) ts) h1 h2 => checkCheck v ls ps part nm _ ts W h hW hok hnm h1 h2 ho hop)
  have K15 := Lib.hid (fun v W (h : Ros W v ls ps) (hW : TasksAt W (.slice pt ts.length ct) ts) h1 => checkTargets v ls ps nm _ ts W h hW hok hnm h1)
  have HCN := Lib.hid (fun (h : chkE nm ts ls ps part = none) => chk_none h)
  have HGF := Lib.hid (fun (h : chkE nm ts ls ps part = none) (i : Nat) (hi : i < ts.length) hn => gate_facts h hi hn)
  have HTL := Lib.hid (fun (h : pipeB nm ts = true) => targetsL_len (ls := ls) h)
  have HLN := Lib.hid (pipeB_len (nm := nm) (ts := ts))
  obtain ⟨n, hn⟩ : ∃ n, n = newC ls ps := ⟨_, rfl⟩
  have HNC := Lib.hid hn
  rw [← hn] at KN
  generalize fewP nm ts = q11 at K11
  clear hL hP hM hT ho hop hn hok hpt hnm
  go_enter Tryd.func3, Tryd.ntmps3
  go_wp2_with fail
  generalize w.alloc (.cells #[.string nm, .slice pt ts.length ct] 24) = W0 at HV ⊢
  refine (awake10 W0 HV.out.2.1).mono ?_
  rintro e w1 ⟨rfl, hb1⟩
  have HV := Lib.hid (HV.out.next hb1)
  clear hb1
  obtain ⟨_, c0, c1, hts⟩ := id HV.out.2.2.2.2
  have HT := Lib.hid hts
  clear hts
  go_wp2_with fail
  refine (K11.out w1 HT.out).mono ?_
  rintro e w2 ⟨rfl, hb2⟩
  have HV := Lib.hid (HV.out.next hb2)
  clear hb2 c0 c1 HT
  cases q11 with
  | false =>
    go_wp2_with fail
    refine (awake10 w2 HV.out.2.1).mono ?_
    rintro e w3 ⟨rfl, hb3⟩
    go_wp2
    go_ret
    exact ⟨rfl, HV.out.1.trans (hb3.mono HV.out.1.size)⟩
  | true =>
  go_wp2_with fail
  refine (KN.out w2 HV.out.2.2.1 HV.out.2.2.2.1).mono ?_
  rintro e w3 ⟨rfl, hb3⟩
  have HV := Lib.hid (HV.out.next hb3)
  clear hb3
  by_cases hn0 : n = 0
  case neg =>
    have hnb : (n == 0) = false := by simpa using hn0
    go_wp2_with fail
    refine (awake10 w3 HV.out.2.1).mono ?_
    rintro e w4 ⟨rfl, hb4⟩
    go_wp2
    go_ret
    exact ⟨rfl, HV.out.1.trans (hb4.mono HV.out.1.size)⟩
  have HN0 := Lib.hid (show newC ls ps = 0 by rw [← HNC.out]; exact hn0)
  subst hn0
  obtain ⟨_, hl4, hp12⟩ := HBD.out HN0.out
  go_wp2_with fail
  refine (rosterNew _ _ ls ps w3 HV.out.2.2.1 HV.out.2.2.2.1 (by omega) (by omega)).mono ?_
  rintro e w4 ⟨pv, rfl, hb4, _, hr⟩
  obtain ⟨r, rfl, hr4⟩ := hr HN0.out
  rw [HN0.out]
  have HR := Lib.hid (show Ros w4 (.pointer (some ⟨r, 0, none⟩)) ls ps from .inr ⟨r, rfl, hr4⟩)
  have HV := Lib.hid (HV.out.next hb4)
  clear hb4 hr hr4 KN HBD HNC
  obtain ⟨_, c0, c1, hts⟩ := id HV.out.2.2.2.2
  have HT := Lib.hid hts
  clear hts
  go_wp2_with fail
  refine (K14.out _ w4 HR.out HT.out (by omega) (by omega)).mono ?_
  rintro e w5 ⟨vc, rfl, he, hb5⟩
  have HR := Lib.hid (HR.out.below hb5)
  have HV := Lib.hid (HV.out.next hb5)
  clear hb5 c0 c1 HT K14
  cases hc : chkE nm ts ls ps part with
  | some x =>
    rw [hc] at he
    obtain ⟨x1, x2⟩ := x
    obtain ⟨be, rfl⟩ := ErrAt.some_form he
    clear he hc
    go_wp2
    go_ret
    exact ⟨rfl, HV.out.1⟩
  | none =>
  rw [hc] at he
  obtain rfl : vc = .nilIface := he
  obtain ⟨hin, hpi, _⟩ := HCN.out hc
  have HGF := Lib.hid (HGF.out hc)
  have htl := HTL.out hpi
  have hln := HLN.out hpi
  obtain ⟨kp, rfl, hkp⟩ := inR_mk hin
  have HLA := Lib.hid (show labAt ls (kp : Int) = ls[kp]! by unfold labAt; rw [hin]; simp)
  clear hin hpi hc HCN HTL HLN
  obtain ⟨_, c0, c1, hts⟩ := id HV.out.2.2.2.2
  have HT := Lib.hid hts
  clear hts
  go_wp2_with fail
  refine (K15.out _ w5 HR.out HT.out (by omega)).mono ?_
  rintro e w6 ⟨vg, rfl, hg, hb6⟩
  have HR := Lib.hid (HR.out.below hb6)
  have HV := Lib.hid (HV.out.next hb6)
  have HG := Lib.hid hg
  obtain ⟨pg, cg, rfl, _⟩ := id hg
  clear hb6 c0 c1 HT K15 hg
  generalize targetsL nm ts ls = tg at *
  have HTG := Lib.hid htl
  clear htl
  obtain ⟨b, off, rfl⟩ := HPP.out (by omega)
  obtain ⟨_, c0, c1, hts⟩ := id HV.out.2.2.2.2
  clear hts
  generalize hN : ts.length = N at *
  have HN := Lib.hid hN
  clear hN
  have htgN : (tg.length : Int) = (N : Int) := by have := HTG.out; omega
  go_wp2_with fail
  clear c0 c1
  go_loopw [48] (fun t wr => ∃ i : Nat, i ≤ N ∧ t = .int .i64 i ∧ GwAt w nm (.slice (some ⟨b, off, none⟩) N ct) (.slice pl ls.length cl) (.slice pp ps.length cp) ts ls ps wr ∧ Ros wr (.pointer (some ⟨r, 0, none⟩)) ls ps ∧ SlAt 1 encI wr (.slice pg tg.length cg) tg) (fun t _ => N - (intOf t).toNat)
  case atStart => exact ⟨0, by omega, rfl, HV.out, HR.out, HG.out⟩
  case round =>
    obtain ⟨i, hi, rfl, hv, hr, hg⟩ := hrel
    have HV := Lib.hid hv
    have HR := Lib.hid hr
    have HG := Lib.hid hg
    clear hv hr hg
    by_cases hlt : i < N
    · have hltz : (i : Int) < (N : Int) := by omega
      have hits : i < ts.length := by have := HN.out; omega
      obtain ⟨_, _, _, hts⟩ := id HV.out.2.2.2.2
      have HTK := Lib.hid (hts.at (j := i) hits)
      have HGI := Lib.hid (fun hn => HGF.out i hlt hn)
      have HSE := Lib.hid ((HOK.out.2 i (by have := HN.out; omega)).1)
      obtain ⟨d0, d1, d2, d3, d4, d5, d6⟩ := HTK.out.cells
      clear hts hits
      generalize ts[i]! = ta at *
      obtain ⟨tn, tsl, taf, tr, tt, tnd, tl, tst⟩ := ta
      dsimp only at *
      obtain ⟨pa, ca, hv, _⟩ := HTK.out.2.2
      dsimp only at hv
      subst hv
      have hbx := below1 wr (.cells #[.string tn, .slice pa taf.length ca, .int .i64 tr, .int .i64 tt, .int .i64 tnd, .int .i64 tl, .int .u16 (tst : Int)] 43)
      have HVX := Lib.hid (HV.out.next hbx)
      have HRX := Lib.hid (HR.out.below hbx)
      have HGX := Lib.hid (HG.out.below hbx)
      have HX := Lib.hid (MapKept.heap_alloc wr (.cells #[.string tn, .slice pa taf.length ca, .int .i64 tr, .int .i64 tt, .int .i64 tnd, .int .i64 tl, .int .u16 (tst : Int)] 43)).1
      clear hbx
      go_upto_region 10 with fail
      clear d0 d1 d2 d3 d4 d5 d6
      generalize wr.alloc (.cells #[.string tn, .slice pa taf.length ca, .int .i64 tr, .int .i64 tt, .int .i64 tnd, .int .i64 tl, .int .u16 (tst : Int)] 43) = W1 at HVX HRX HGX HX ⊢
      generalize hB4 : wr.heap.size = B4 at *
      have HB4 := Lib.hid hB4
      clear hB4
      have HLT := Lib.hid (Array.getElem?_eq_some_iff.1 HX.out).1
      have HBC := Lib.hid (fun (W : World) (hb : Below W1.heap.size W1 W) => show W.cell? ⟨B4, 1, none⟩ = some (.slice pa taf.length ca) ∧ W.cell? ⟨B4, 4, none⟩ = some (.int .i64 tnd) ∧ W.cell? ⟨B4, 5, none⟩ = some (.int .i64 tl) ∧ W.cell? ⟨B4, 5 + 1, none⟩ = some (.int .u16 (tst : Int)) by
        have hx := (hb.block B4 HLT.out).trans HX.out
        refine ⟨?_, ?_, ?_, ?_⟩ <;> (rw [Lib.cell_of_heap hx]; rfl))
      obtain ⟨d1, d4, d5, d6⟩ := HBC.out W1 (Below.refl _ _)
      by_cases hnd : tnd = 0
      · subst hnd
        go_wp2
        go_roundw
        case rel => first | exact ⟨i + 1, by omega, by go_num, HVX.out, HRX.out, HGX.out⟩ | trace_state
        case measure => simp [intOf] <;> omega
      obtain ⟨ga, ⟨j, hj, htj, hl1, hl2⟩, hlq, hnl⟩ := HGI.out hnd
      rw [HLA.out] at hlq
      obtain ⟨bl, ol, cl', hvl, hbl, hcl⟩ := HVX.out.2.2.1.cellL hj
      simp only [Value.slice.injEq] at hvl
      obtain ⟨rfl, _, rfl⟩ := hvl
      obtain ⟨bg, og, cg', hvg, hbg, hcg⟩ := HGX.out.cellJ (k := i) (by have := HTG.out; omega)
      simp only [Value.slice.injEq] at hvg
      obtain ⟨rfl, _, rfl⟩ := hvg
      obtain ⟨e0, e1⟩ := hcl kp hkp
      obtain ⟨f0, f1⟩ := hcl j hj
      have g0 := hcg i (by have := HTG.out; omega)
      rw [htj] at g0
      rw [hl1] at f0
      rw [hl2] at f1
      have HO := Lib.hid (HOL.out kp hkp)
      have HVF := Lib.hid (fun (k : Nat) (hk : k < ps.length) (h : votB ls ps (kp : Int) tl tst k = true) => show ps[k]!.1 = (kp : Int) ∧ leqB (offLv ls[kp]!.1 tl) (mNot ls[kp]!.2 tst) ps[k]!.2.1 ps[k]!.2.2 = true by
        rw [← HLA.out]
        exact vot_facts hk h)
      generalize ls[kp]!.1 = o1 at e0 hlq HVF
      generalize ls[kp]!.2 = o2 at e1 hlq HO HVF
      have HCL := Lib.hid (fun (W : World) (hb : Below W1.heap.size W1 W) => show (W.cell? ⟨bl, ol + kp * 2, none⟩ = some (.int .i64 o1) ∧ W.cell? ⟨bl, ol + kp * 2 + 1, none⟩ = some (.int .u16 (o2 : Int))) ∧ (W.cell? ⟨bl, ol + j * 2, none⟩ = some (.int .i64 tl) ∧ W.cell? ⟨bl, ol + j * 2 + 1, none⟩ = some (.int .u16 (tst : Int))) ∧ W.cell? ⟨bg, og + i, none⟩ = some (.int .i64 (j : Int)) ∧ B4 < W.heap.size ∧ bl < W.heap.size ∧ bg < W.heap.size from
        ⟨⟨(hb.cell (p := ⟨bl, ol + kp * 2, none⟩) hbl).trans e0, (hb.cell (p := ⟨bl, ol + kp * 2 + 1, none⟩) hbl).trans e1⟩, ⟨(hb.cell (p := ⟨bl, ol + j * 2, none⟩) hbl).trans f0, (hb.cell (p := ⟨bl, ol + j * 2 + 1, none⟩) hbl).trans f1⟩, (hb.cell (p := ⟨bg, og + i, none⟩) hbg).trans g0, Nat.lt_of_lt_of_le HLT.out hb.size, Nat.lt_of_lt_of_le hbl hb.size, Nat.lt_of_lt_of_le hbg hb.size⟩)
      have H3 := Lib.hid (fun W => show Calls Tryd.prog 16 #[(.agg #[.int .i64 (o1), .int .u16 ((o2 : Nat) : Int)]), (.agg #[.int .i64 (tl), .int .u16 ((tst : Nat) : Int)])] W fun e w' => e = .returned (.bool false) ∧ Below W.heap.size W w' by
        have := ref01Leq o1 tl o2 tst HO.out HSE.out W
        rw [hlq] at this
        exact this)
      have H5 := Lib.hid (fun W => ref01Off o1 tl o2 tst HO.out HSE.out W)
      have H6 := Lib.hid (fun p1 (p2 : Nat) (hp : p2 < 65536) W => ref01Leq (offLv o1 tl) p1 (mNot o2 tst) p2 (mNot_lt HO.out) hp W)
      generalize offLv o1 tl = r1 at HVF H5 H6
      generalize mNot o2 tst = r2 at HVF H5 H6
      have HVM := Lib.hid (fun who (h : who ∈ votL ls ps (kp : Int) tl tst ps.length) => vot_mem ps.length h)
      have HVN := Lib.hid (votL_len ls ps (kp : Int) tl tst ps.length)
      have K17 := Lib.hid (fun W (h : Ros W (.pointer (some ⟨r, 0, none⟩)) ls ps) => checkVoters _ ls ps (kp : Int) tl tst W h (by omega) (by omega) HOL.out HOP.out HSE.out)
      generalize votL ls ps (kp : Int) tl tst ps.length = vs at hnl HVM HVN K17
      have hgaz : (taf.length : Int) = 1 := by omega
      have hiz : (i : Int) < (tg.length : Int) := by have := HTG.out; omega
      have hkz : (kp : Int) < (ls.length : Int) := by omega
      have hjz : (j : Int) < (ls.length : Int) := by omega
      have hj0 : ¬ (j : Int) < 0 := by omega
      have hz4 := HLT.out
      clear hcl hcg hlq htj hl1 hl2 HGI HTK
      go_wp2_with fail
      go_region_held3 (fun w' => (∀ b o, b < (W1).heap.size → w'.cell? ⟨b, o, none⟩ = (W1).cell? ⟨b, o, none⟩) ∧ Below (W1).heap.size (W1) w') (first | exact stay0 _ | exact stay ‹_› ‹_›)
        (first | (go_at_call 16; (with_reducible refine (H3.out _).mono ?_); rintro e w' ⟨rfl, hb⟩))
      have hst := stayEnd (Below.refl W1.heap.size W1) (Nat.le_refl _) ‹_›
      clear d1 d4 d5 d6 e0 e1 f0 f1 g0 hz4
      obtain ⟨d1, d4, d5, d6⟩ := HBC.out _ hst
      have HST := Lib.hid hst
      go_wp2_with fail
      refine (K17.out _ (HRX.out.below HST.out)).mono ?_
      rintro e w8 ⟨vv, rfl, hvv, hb8⟩
      have HB8 := Lib.hid (HST.out.trans (hb8.mono HST.out.size))
      have HVV := Lib.hid hvv
      obtain ⟨pw, cw, rfl, _⟩ := id hvv
      clear d1 d4 d5 d6 hst hb8 hvv
      obtain ⟨d1, d4, d5, d6⟩ := HBC.out _ HB8.out
      go_wp2_with fail
      clear d1 d4 d5 d6
      go_loopw [93] (fun t wr => ∃ q : Nat, q ≤ vs.length ∧ t = .int .i64 q ∧ Below w8.heap.size w8 wr) (fun t _ => vs.length - (intOf t).toNat)
      case atStart => exact ⟨0, by omega, rfl, Below.refl _ _⟩
      case round =>
        obtain ⟨q, hq, rfl, hb⟩ := hrel
        have HBQ := Lib.hid hb
        have HBW := Lib.hid (HB8.out.trans (hb.mono HB8.out.size))
        clear hb
        by_cases hlq : q < vs.length
        · have hlqz : (q : Int) < (vs.length : Int) := by omega
          have hq12 : (q : Int) < 12 := by have := HVN.out; omega
          obtain ⟨k, hwk, hk, hvb⟩ := HVM.out vs[q]! (by rw [getElem!_pos vs q hlq]; exact List.getElem_mem hlq)
          obtain ⟨hpk, hqk⟩ := HVF.out k hk hvb
          obtain ⟨bw, ow, cw', hvw, hbw, hcw⟩ := (HVV.out.below HBQ.out).cellJ hlq
          simp only [Value.slice.injEq] at hvw
          obtain ⟨rfl, _, rfl⟩ := hvw
          have x0 := hcw q hlq
          rw [hwk] at x0
          obtain ⟨bp, op, cp', hvp, hbp, hcp⟩ := (HVX.out.next HBW.out).2.2.2.1.cellP hk
          simp only [Value.slice.injEq] at hvp
          obtain ⟨rfl, _, rfl⟩ := hvp
          obtain ⟨y0, y1, y2⟩ := hcp k hk
          rw [hpk] at y0
          have kP := HOP.out k hk
          have hkpz : (k : Int) < (ps.length : Int) := by omega
          have H7 := Lib.hid (fun W => show Calls Tryd.prog 16 #[(.agg #[.int .i64 (r1), .int .u16 ((r2 : Nat) : Int)]), (.agg #[.int .i64 (ps[k]!.2.1), .int .u16 ((ps[k]!.2.2 : Nat) : Int)])] W fun e w' => e = .returned (.bool true) ∧ Below W.heap.size W w' by
            have := H6.out ps[k]!.2.1 ps[k]!.2.2 kP W
            rw [hqk] at this
            exact this)
          generalize ps[k]!.2.1 = p1 at y1 H7
          generalize ps[k]!.2.2 = p2 at y2 H7
          obtain ⟨⟨e0, e1⟩, ⟨f0, f1⟩, g0, z4, zl, zg⟩ := HCL.out _ HBW.out
          clear hcw hcp hpk hqk hvb hwk kP
          go_wp2_with fail
          go_region_held3 (fun w' => (∀ b o, b < (wr).heap.size → w'.cell? ⟨b, o, none⟩ = (wr).cell? ⟨b, o, none⟩) ∧ Below (wr).heap.size (wr) w') (first | exact stay0 _ | exact stay ‹_› ‹_›)
            (first
              | (go_at_call 18; (with_reducible refine (H5.out _).mono ?_); rintro e w' ⟨rfl, hb⟩)
              | (go_at_call 16; (with_reducible refine (H7.out _).mono ?_); rintro e w' ⟨rfl, hb⟩))
          have hst := stayEnd HBQ.out HBQ.out.size ‹_›
          have HS9 := Lib.hid hst
          clear hst
          go_wp2
          go_roundw
          case rel => first | exact ⟨q + 1, by omega, by go_num, HS9.out⟩ | trace_state
          case measure => simp [intOf] <;> omega
        · obtain rfl : q = vs.length := by omega
          go_wp2
          go_roundw
          case rel => first | exact ⟨i + 1, by omega, by go_num, HVX.out.next HBW.out, HRX.out.below HBW.out, HGX.out.below HBW.out⟩ | trace_state
          case measure => simp [intOf] <;> omega
    · obtain rfl : i = N := by omega
      go_wp2
      go_ret
      exact ⟨rfl, HV.out.1⟩
end Go.Proofs.YtbbcicengfmhiaaDoor

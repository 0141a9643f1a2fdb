/- RosterFlows: who sees a partition sees all that that one's people see; each may let something go up; what one of the same partition with more may let go one with less may not always. Every input. -/
import Derived.Test.YtpkmgdpnimecfaaRosB
namespace Go.Proofs.Ytpkmgdpnimecfaa
open Go.ChangeShapes Go.WideShapes Go.ChangeAt Go.RowKit

theorem leqB_trans {a b c : Int} {x y z : Nat} (hx : x < 65536) (hy : y < 65536) (hz : z < 65536) (h1 : leqB a x b y = true) (h2 : leqB b y c z = true) : leqB a x c z = true := by
  obtain ⟨p1, p2⟩ := (leqB_bits hx hy).1 h1
  obtain ⟨q1, q2⟩ := (leqB_bits hy hz).1 h2
  refine (leqB_bits hx hz).2 ⟨by omega, fun i hi => ?_⟩
  have := p2 i hi
  have := q2 i hi
  revert this
  revert this
  cases x.testBit i <;> cases y.testBit i <;> cases z.testBit i <;> simp
theorem partAt_in {n : Nat} {ps : List Psn} {a : Int} (h : inR n (partAt ps a) = true) : inR ps.length a = true := by
  cases hq : inR ps.length a with
  | true => rfl
  | false =>
    have : partAt ps a = -1 := by unfold partAt; rw [hq]; rfl
    rw [this] at h
    simp [inR] at h
theorem sees_trans {ls : List Lbl} {ps : List Psn} (ho : okL ls) {a b part : Int} (h1 : seesB ls ps a (partAt ps b) = true) (h2 : seesB ls ps b part = true) : seesB ls ps a part = true := by
  simp only [seesB, Bool.and_eq_true] at h1 h2 ⊢
  exact ⟨⟨h1.1.1, h2.1.2⟩, leqB_trans (labAt_ok ho _) (labAt_ok ho _) (labAt_ok ho _) h2.2 h1.2⟩
theorem new_right {ls : List Lbl} {ps : List Psn} (h : newC ls ps = 0) {k : Nat} (hk : k < ps.length) : rightLv ps[k]!.2.1 = true := by
  unfold newC at h
  split at h
  · cases h
  split at h
  · cases h
  rename_i h2
  cases hq : rightLv ps[k]!.2.1 with
  | true => rfl
  | false => exact absurd (.inr (rightPv_any hk hq)) h2
theorem may_up {ls : List Lbl} {ps : List Psn} (ho : okL ls) (hop : okP ps) (h0 : newC ls ps = 0) {a l : Int} {x : Nat} (hx : x < 65536) (hin : inR ls.length (partAt ps a) = true)
    (hl : leqB (labAt ls (partAt ps a)).1 (labAt ls (partAt ps a)).2 l x = true) : mayB ls ps a l x = true := by
  have hi := partAt_in hin
  obtain ⟨k, rfl, hk⟩ := inR_mk hi
  obtain ⟨p1, p2⟩ := (leqB_bits (labAt_ok ho _) hx).1 hl
  have hr := new_right h0 hk
  unfold mayB
  rw [hin, hi, Bool.true_and, Bool.true_and, Int.toNat_natCast]
  have hm : mNot (labAt ls (partAt ps (k : Int))).2 x = 0 := by
    have := leqBits (labAt_ok ho _) hx p2
    simpa using this
  rw [hm, show offLv (labAt ls (partAt ps (k : Int))).1 l = 0 by unfold offLv; rw [if_neg (by omega)]]
  refine (leqB_bits (by omega) (hop k hk)).2 ⟨?_, fun i _ => by simp⟩
  simp only [rightLv, Bool.and_eq_true, decide_eq_true_eq] at hr
  exact hr.1
theorem may_less {ls : List Lbl} {ps : List Psn} (ho : okL ls) (hop : okP ps) {i j : Nat} (hi : i < ps.length) (hj : j < ps.length) {l : Int} {x : Nat} (hx : x < 65536) (hp : ps[i]!.1 = ps[j]!.1)
    (hl : leqB ps[i]!.2.1 ps[i]!.2.2 ps[j]!.2.1 ps[j]!.2.2 = true) (hm : mayB ls ps i l x = true) : mayB ls ps j l x = true := by
  have ii : inR ps.length (i : Int) = true := by simp [inR]; omega
  have jj : inR ps.length (j : Int) = true := by simp [inR]; omega
  have pe : partAt ps (i : Int) = partAt ps (j : Int) := by unfold partAt; rw [ii, jj]; simpa using hp
  simp only [mayB, Bool.and_eq_true, Int.toNat_natCast] at hm ⊢
  rw [← pe]
  exact ⟨hm.1, jj, leqB_trans (mNot_lt (labAt_ok ho _)) (hop i hi) (hop j hj) hm.2.2 hl⟩

section
variable {P : Program} {ops : Array Oper} {Q : Exit → Act → World → Prop} {md : Region.Mode} {S : World → Prop}
theorem at_drop {i : Nat} {oi : Oper} {rest : List Oper} (hi : ops.toList.drop i = oi :: rest) : ops[i]? = some oi := by
  have : ops.toList[i]? = some oi := by
    have h := congrArg (·[0]?) hi
    simpa using h
  simpa using this
/-- wpAnyH_take with the operation met as a list's member, so that it stands written out -/
theorem takeL {i : Nat} {oi : Oper} {rest : List Oper} {v : Value} {fuel : Nat} {listed : Array Bool} {a : Act} {w : World} (hi : ops.toList.drop i = oi :: rest)
    (hs : Region.noSelect ops = true) (hf : Region.free md ops listed i = true) (hr : (Region.ready md ops listed).contains i = true)
    (hQ : ∀ c a w, Q (.panic c) (a.put oi.dst v) w → Q (.panic c) a w) (hy : YieldsIf P ops S oi v a) (hS : S w)
    (h : wpAnyH P md ops Q S fuel (listed.setIfInBounds i true) (a.put oi.dst v) w) : wpAnyH P md ops Q S (fuel + 1) listed a w :=
  wpAnyH_take (at_drop hi) hs hf hr hQ hy hS h
theorem readyL {fuel : Nat} {listed : Array Bool} {a : Act} {w : World} {i : Nat} {o : Oper} {rest : List Oper} {rs : List Nat} (ho : ops.toList.drop i = o :: rest)
    (h : ∀ K' : Act → World → Prop, Shut (∀ a w, S w → (S w → wpAnyH P md ops Q S fuel (listed.setIfInBounds i true) a w) → K' a w) → if Region.wanted o (yielded ops a.tmps) = true then Oper.wp P o a w K' Q else K' (a.put o.dst undef) w)
    (hs : AllReadyH P md ops Q S fuel listed a w rs) : AllReadyH P md ops Q S fuel listed a w (i :: rs) := AllReadyH.cons (at_drop ho) h hs
end

set_option maxRecDepth 100000 in
set_option maxHeartbeats 8000000 in
theorem rosterFlows_walk (vl vp : Value) (ls : List Lbl) (ps : List Psn) (a b part : Int) (w : World) (hL : SlAt 2 encL w vl ls) (hP : SlAt 3 encP w vp ps) (hml : ls.length ≤ maxLen) (hmp : ps.length ≤ maxLen)
    (ho : okL ls) (hop : okP ps) :
    Calls Try.prog 8 #[vl, vp, .int .i64 a, .int .i64 b, .int .i64 part] w fun e w' => e = .returned (.bool true) ∧ Below w.heap.size w w' := by
  have HL := Lib.hid hL
  have HP := Lib.hid hP
  have HO := Lib.hid ho
  have HOP := Lib.hid hop
  have HML := Lib.hid hml
  have HMP := Lib.hid hmp
  obtain ⟨pl, cl, rfl, _, _⟩ := id hL
  obtain ⟨pp, cp, rfl, _, _⟩ := id hP
  clear hL hP ho hop hml hmp
  go_enter Try.func8, Try.ntmps8
  go_wp2_with fail
  refine (awake02 _).mono ?_
  rintro e w1 ⟨rfl, hb⟩
  have HB := Lib.hid hb
  clear hb
  go_wp2_with fail
  refine (refNew _ _ ls ps _ (HL.out.below HB.out) (HP.out.below HB.out) HML.out HMP.out).mono ?_
  rintro e w2 ⟨rfl, hb⟩
  have HB := Lib.hid (HB.out.trans (hb.mono HB.out.size))
  clear hb
  by_cases hc0 : newC ls ps = 0
  · have HC0 := Lib.hid hc0
    rw [hc0]
    clear hc0
    have hbd := new_bounds HC0.out
    go_wp2_with fail
    refine (rosterNew _ _ ls ps _ (HL.out.below HB.out) (HP.out.below HB.out) (by omega) (by omega)).mono ?_
    rintro e w3 ⟨pv, rfl, hb, _, hr0⟩
    obtain ⟨r, rfl, hr⟩ := hr0 HC0.out
    clear hr0
    rw [HC0.out]
    have HB := Lib.hid (HB.out.trans (hb.mono HB.out.size))
    have HR := Lib.hid (show Ros w3 (.pointer (some ⟨r, 0, none⟩)) ls ps from .inr ⟨r, rfl, hr⟩)
    clear hb hr
    have HWL := Lib.hid (HL.out.below HB.out)
    have HWP := Lib.hid (HP.out.below HB.out)
    go_upto_region 6 with fail
    go_cut [52] (fun s52 wx => s52 = .bool false ∧ Below w3.heap.size w3 wx)
    case first =>
      go_wp2_with fail
      refine (rosPart _ ls ps b _ HR.out (by omega)).mono ?_
      rintro e w4 ⟨rfl, rfl⟩
      go_wp2_with fail
      refine (rosSees _ ls ps a (partAt ps b) _ HR.out (by omega) (by omega) HO.out).mono ?_
      rintro e w4 ⟨rfl, hb4⟩
      have HT := Lib.hid (fun h1 h2 => sees_trans (ls := ls) (ps := ps) HO.out (a := a) (b := b) (part := part) h1 h2)
      cases t1 : seesB ls ps a (partAt ps b) with
      | false =>
        go_wp2_with fail
        go_meet
        case rel => exact ⟨rfl, hb4⟩
      | true =>
        go_wp2_with fail
        refine (rosSees _ ls ps b part _ (HR.out.below hb4) (by omega) (by omega) HO.out).mono ?_
        rintro e w5 ⟨rfl, hb5⟩
        have hb5 := hb4.trans (hb5.mono hb4.size)
        cases t2 : seesB ls ps b part with
        | false =>
          go_wp2_with fail
          go_meet
          case rel => exact ⟨rfl, hb5⟩
        | true =>
          go_wp2_with fail
          have q := rosSees _ ls ps a part _ (HR.out.below hb5) (by omega) (by omega) HO.out
          rw [HT.out t1 t2] at q
          refine q.mono ?_
          rintro e w6 ⟨rfl, hb6⟩
          have hb6 := hb5.trans (hb6.mono hb5.size)
          clear q
          go_wp2_with fail
          go_meet
          case rel => exact ⟨rfl, hb6⟩
    case rest =>
      obtain ⟨rfl, hb4⟩ := hcut
      have HB4 := Lib.hid hb4
      clear hb4
      go_wp2
      go_loopw [55] (fun i wr => ∃ k : Nat, k ≤ ls.length ∧ i = .int .i64 k ∧ Below w3.heap.size w3 wr) (fun i _ => ls.length - (intOf i).toNat)
      case atStart => exact ⟨0, by omega, rfl, HB4.out⟩
      case round =>
        clear HB4
        obtain ⟨k, hk, rfl, hB⟩ := hrel
        have HN := Lib.hid hB
        clear hB
        by_cases hlt : k < ls.length
        · have hltz : (k : Int) < (ls.length : Int) := by omega
          obtain ⟨p', c', hv, _, hc⟩ := HWL.out.below HN.out
          simp only [Value.slice.injEq] at hv
          obtain ⟨rfl, _, rfl⟩ := hv
          obtain ⟨bk, off, rfl, hb, hcell⟩ := hc (by omega)
          have d0 : wr.cell? ⟨bk, off + k * 2, none⟩ = some (.int .i64 ls[k]!.1) := hcell k hlt 0 _ rfl
          have d1 : wr.cell? ⟨bk, off + k * 2 + 1, none⟩ = some (.int .u16 (ls[k]!.2 : Int)) := hcell k hlt 1 _ rfl
          have HF := Lib.hid (find_self HC0.out hlt)
          have hx' := HO.out k hlt
          clear hcell hc
          generalize ls[k]!.1 = a1 at d0 HF
          generalize ls[k]!.2 = x1 at d1 HF hx'
          have HX1 := Lib.hid hx'
          clear hx'
          have M1 := Lib.hid (fun W hW => rosMay (.pointer (some ⟨r, 0, none⟩)) ls ps a a1 x1 W hW (by omega) (by omega) HO.out HOP.out HX1.out)
          have M2 := Lib.hid (fun W hW => rosMay (.pointer (some ⟨r, 0, none⟩)) ls ps b a1 x1 W hW (by omega) (by omega) HO.out HOP.out HX1.out)
          have U1 := Lib.hid (fun h1 h2 => may_up (ls := ls) (ps := ps) HO.out HOP.out HC0.out (a := a) (l := a1) (x := x1) HX1.out h1 h2)
          have U2 := Lib.hid (fun (i j : Nat) hi hj h1 h2 h3 => may_less (ls := ls) (ps := ps) HO.out HOP.out (i := i) (j := j) hi hj (l := a1) (x := x1) HX1.out h1 h2 h3)
          go_upto_region 11 with fail
          have HN2 := Lib.hid (HN.out.alloc HN.out.size (.cells #[.int .i64 a1, .int .u16 (x1 : Int)] 48))
          have k0 : (wr.alloc (.cells #[.int .i64 a1, .int .u16 (x1 : Int)] 48)).cell? ⟨wr.heap.size, 0, none⟩ = some (.int .i64 a1) := by go_simp
          have k1 : (wr.alloc (.cells #[.int .i64 a1, .int .u16 (x1 : Int)] 48)).cell? ⟨wr.heap.size, 1, none⟩ = some (.int .u16 (x1 : Int)) := by go_simp
          have kz : wr.heap.size < (wr.alloc (.cells #[.int .i64 a1, .int .u16 (x1 : Int)] 48)).heap.size := by simp
          generalize wr.alloc (.cells #[.int .i64 a1, .int .u16 (x1 : Int)] 48) = W1 at HN2 k0 k1 kz ⊢
          generalize wr.heap.size = B1 at k0 k1 kz ⊢
          clear d0 d1
          go_wp2_with fail
          refine (rosPart _ ls ps a _ (HR.out.below HN2.out) (by omega)).mono ?_
          rintro e w4 ⟨rfl, rfl⟩
          go_wp2_with fail
          refine (rosLabel _ ls ps (partAt ps a) _ (HR.out.below HN2.out) (by omega)).mono ?_
          rintro e w5 ⟨rfl, hb5⟩
          have HO1 := Lib.hid (labAt_ok HO.out (partAt ps a))
          generalize hown : labAt ls (partAt ps a) = own at HO1 U1
          have HOW := Lib.hid hown
          clear hown
          obtain ⟨o1, o2⟩ := own
          have HN3 := Lib.hid (HN2.out.trans (hb5.mono HN2.out.size))
          have k0' := (hb5.cell (p := ⟨B1, 0, none⟩) kz).trans k0
          have k1' := (hb5.cell (p := ⟨B1, 1, none⟩) kz).trans k1
          have kz' := Nat.lt_of_lt_of_le kz hb5.size
          clear hb5 k0 k1 kz HN2
          have L1 := Lib.hid (fun W => ref01Leq o1 a1 o2 x1 HO1.out HX1.out W)
          generalize hm1 : mayB ls ps a a1 x1 = m1 at M1 U1 U2
          generalize hm2 : mayB ls ps b a1 x1 = m2 at M2 U2
          have HM1 := Lib.hid hm1
          have HM2 := Lib.hid hm2
          clear hm1 hm2
          go_upto_region 12 with fail
          have HN4 := Lib.hid (HN3.out.alloc HN3.out.size (.cells #[.int .i64 o1, .int .u16 (o2 : Int)] 48))
          have q0 : (w5.alloc (.cells #[.int .i64 o1, .int .u16 (o2 : Int)] 48)).cell? ⟨w5.heap.size, 0, none⟩ = some (.int .i64 o1) := by go_simp
          have q1 : (w5.alloc (.cells #[.int .i64 o1, .int .u16 (o2 : Int)] 48)).cell? ⟨w5.heap.size, 1, none⟩ = some (.int .u16 (o2 : Int)) := by go_simp
          have qz : w5.heap.size < (w5.alloc (.cells #[.int .i64 o1, .int .u16 (o2 : Int)] 48)).heap.size := by simp
          have k0 : (w5.alloc (.cells #[.int .i64 o1, .int .u16 (o2 : Int)] 48)).cell? ⟨B1, 0, none⟩ = some (.int .i64 a1) := by go_simp
          have k1 : (w5.alloc (.cells #[.int .i64 o1, .int .u16 (o2 : Int)] 48)).cell? ⟨B1, 1, none⟩ = some (.int .u16 (x1 : Int)) := by go_simp
          have kz : B1 < (w5.alloc (.cells #[.int .i64 o1, .int .u16 (o2 : Int)] 48)).heap.size := by simp; omega
          generalize w5.alloc (.cells #[.int .i64 o1, .int .u16 (o2 : Int)] 48) = W2 at HN4 q0 q1 qz k0 k1 kz ⊢
          generalize w5.heap.size = B2 at q0 q1 qz ⊢
          clear k0' k1' kz' HN3
          generalize hok : inR ls.length (partAt ps a) = ok
          have HOK := Lib.hid hok
          clear hok
          go_cut [80] (fun s80 wx => s80 = .bool false ∧ Below W2.heap.size W2 wx)
          case first =>
            cases ok with
            | false =>
              go_wp2_with fail
              go_meet
              case rel => first | exact ⟨rfl, Below.refl _ _⟩ | ((repeat apply Exists.intro); exact ⟨⟨rfl, Below.refl _ _⟩, rfl⟩)
            | true =>
              go_wp2_with fail
              refine (L1.out _).mono ?_
              rintro e w6 ⟨rfl, hb6⟩
              cases hl : leqB o1 o2 a1 x1 with
              | false =>
                go_wp2_with fail
                go_meet
                case rel => first | exact ⟨rfl, hb6⟩ | ((repeat apply Exists.intro); exact ⟨⟨rfl, hb6⟩, rfl⟩)
              | true =>
                obtain rfl : m1 = true := U1.out HOK.out hl
                have k0' := (hb6.cell (p := ⟨B1, 0, none⟩) kz).trans k0
                have k1' := (hb6.cell (p := ⟨B1, 1, none⟩) kz).trans k1
                have kz' := Nat.lt_of_lt_of_le kz hb6.size
                go_wp2_with fail
                refine (M1.out _ (HR.out.below (HN4.out.trans (hb6.mono HN4.out.size)))).mono ?_
                rintro e w7 ⟨rfl, hb7⟩
                go_wp2_with fail
                go_meet
                case rel => first | exact ⟨rfl, hb6.trans (hb7.mono hb6.size)⟩ | ((repeat apply Exists.intro); exact ⟨⟨rfl, hb6.trans (hb7.mono hb6.size)⟩, rfl⟩)
          case rest =>
            obtain ⟨rfl, hbc⟩ := hcut
            have HN5 := Lib.hid (HN4.out.trans (hbc.mono HN4.out.size))
            have c0 := (hbc.cell (p := ⟨B1, 0, none⟩) kz).trans k0
            have c1 := (hbc.cell (p := ⟨B1, 1, none⟩) kz).trans k1
            have cz := Nat.lt_of_lt_of_le kz hbc.size
            clear k0 k1 kz q0 q1 qz hbc HN4 L1 U1 HO1 HOW
            go_upto_region 14 with fail
            go_cut [136] (fun s136 wx => s136 = .bool false ∧ Below wc.heap.size wc wx)
            case first =>
              cases ok with
              | false =>
                clear M1 M2 U2
                go_wp2_with fail
                go_quiet (fail)
                go_wp2_with fail
                go_meet
                case rel => first | exact ⟨rfl, belowN (Below.refl _ _) _⟩ | ((repeat apply Exists.intro); exact ⟨⟨rfl, belowN (Below.refl _ _) _⟩, rfl⟩)
              | true =>
                obtain ⟨ka, rfl, hka⟩ := inR_mk (partAt_in HOK.out)
                have hkz : (ka : Int) < (ps.length : Int) := by omega
                cases t1 : decide ((0 : Int) ≤ b) with
                | false =>
                  clear M1 M2 U2
                  go_wp2_with fail
                  go_quiet (fail)
                  go_wp2_with fail
                  go_meet
                  case rel => first | exact ⟨rfl, belowN (Below.refl _ _) _⟩ | ((repeat apply Exists.intro); exact ⟨⟨rfl, belowN (Below.refl _ _) _⟩, rfl⟩)
                | true =>
                  cases t2 : decide (b < (ps.length : Int)) with
                  | false =>
                    clear M1 M2 U2
                    go_wp2_with fail
                    go_quiet (fail)
                    go_wp2_with fail
                    go_meet
                    case rel => first | exact ⟨rfl, belowN (Below.refl _ _) _⟩ | ((repeat apply Exists.intro); exact ⟨⟨rfl, belowN (Below.refl _ _) _⟩, rfl⟩)
                  | true =>
                    obtain ⟨kb, rfl, hkb⟩ : ∃ kb : Nat, b = kb ∧ kb < ps.length := by
                      simp only [decide_eq_true_eq] at t1 t2
                      exact ⟨b.toNat, by omega, by omega⟩
                    have hkz2 : (kb : Int) < (ps.length : Int) := by omega
                    clear t1 t2
                    obtain ⟨p', c', hv, _, hc⟩ := HWP.out.below HN5.out
                    simp only [Value.slice.injEq] at hv
                    obtain ⟨rfl, _, rfl⟩ := hv
                    obtain ⟨bp, offp, rfl, hbp, hcell⟩ := hc (by omega)
                    have f0 : wc.cell? ⟨bp, offp + ka * 3, none⟩ = some (.int .i64 ps[ka]!.1) := hcell ka hka 0 _ rfl
                    have f1 : wc.cell? ⟨bp, offp + ka * 3 + 1, none⟩ = some (.int .i64 ps[ka]!.2.1) := hcell ka hka 1 _ rfl
                    have f2 : wc.cell? ⟨bp, offp + ka * 3 + 1 + 1, none⟩ = some (.int .u16 (ps[ka]!.2.2 : Int)) := hcell ka hka 2 _ rfl
                    have g0 : wc.cell? ⟨bp, offp + kb * 3, none⟩ = some (.int .i64 ps[kb]!.1) := hcell kb hkb 0 _ rfl
                    have g1 : wc.cell? ⟨bp, offp + kb * 3 + 1, none⟩ = some (.int .i64 ps[kb]!.2.1) := hcell kb hkb 1 _ rfl
                    have g2 : wc.cell? ⟨bp, offp + kb * 3 + 1 + 1, none⟩ = some (.int .u16 (ps[kb]!.2.2 : Int)) := hcell kb hkb 2 _ rfl
                    have x1l := HOP.out ka hka
                    have x2l := HOP.out kb hkb
                    have hU := Lib.hid (U2.out ka kb hka hkb)
                    clear hcell hc
                    generalize ps[ka]!.1 = p1 at f0 hU
                    generalize ps[ka]!.2.1 = p2 at f1 hU
                    generalize ps[ka]!.2.2 = p3 at f2 hU x1l
                    generalize ps[kb]!.1 = q1 at g0 hU
                    generalize ps[kb]!.2.1 = q2 at g1 hU
                    generalize ps[kb]!.2.2 = q3 at g2 hU x2l
                    have K43 := Lib.hid (fun W => ref01Leq p2 q2 p3 q3 x1l x2l W)
                    clear x1l x2l U2
                    cases t3 : (p1 == q1) with
                    | false =>
                      clear M1 M2 hU K43
                      go_wp2_with fail
                      go_quiet (fail)
                      go_wp2_with fail
                      go_meet
                      case rel => first | exact ⟨rfl, belowN (Below.refl _ _) _⟩ | ((repeat apply Exists.intro); exact ⟨⟨rfl, belowN (Below.refl _ _) _⟩, rfl⟩)
                    | true =>
                      obtain rfl : p1 = q1 := by simpa using t3
                      have K36 := Lib.hid (fun (w' : World) (h : (∀ b o, b < wc.heap.size → w'.cell? ⟨b, o, none⟩ = wc.cell? ⟨b, o, none⟩) ∧ Below wc.heap.size wc w') => M1.out w' ((HR.out.below HN5.out).below h.2))
                      have K37 := Lib.hid (fun (w' : World) (h : (∀ b o, b < wc.heap.size → w'.cell? ⟨b, o, none⟩ = wc.cell? ⟨b, o, none⟩) ∧ Below wc.heap.size wc w') => M2.out w' ((HR.out.below HN5.out).below h.2))
                      cases t4 : leqB p2 p3 q2 q3 with
                      | false =>
                        rw [t4] at K43
                        clear M1 M2 hU
                        go_wp2_with fail
                        refine wp_region_held_drew (S := (fun w' => (∀ b o, b < (wc).heap.size → w'.cell? ⟨b, o, none⟩ = (wc).cell? ⟨b, o, none⟩) ∧ Below (wc).heap.size (wc) w')) (by kernel_rfl) (stay0 _) (fun hHeld => ?_)
                        try dsimp only [List.size_toArray, List.length_cons, List.length_nil]
                        refine takeL (i := 0) rfl (v := ?v0a) (by kernel_rfl) (by kernel_rfl) (by kernel_rfl) (fun _ _ _ h => h) (Or.inl ⟨by rfl, fun w hSw => ?hy0a⟩) (by assumption) ?rest0a
                        case hy0a =>
                          (try dsimp only at hSw)
                          go_simp
                          try with_reducible rfl
                        try simp only [Act.put, List.setIfInBounds_toArray, List.set_cons_zero, List.set_cons_succ]
                        refine takeL (i := 1) rfl (v := ?v1a) (by kernel_rfl) (by kernel_rfl) (by kernel_rfl) (fun _ _ _ h => h) (Or.inl ⟨by rfl, fun w hSw => ?hy1a⟩) (by assumption) ?rest1a
                        case hy1a =>
                          (try dsimp only at hSw)
                          go_simp
                          try with_reducible rfl
                        try simp only [Act.put, List.setIfInBounds_toArray, List.set_cons_zero, List.set_cons_succ]
                        refine takeL (i := 2) rfl (v := ?v2a) (by kernel_rfl) (by kernel_rfl) (by kernel_rfl) (fun _ _ _ h => h) (Or.inl ⟨by rfl, fun w hSw => ?hy2a⟩) (by assumption) ?rest2a
                        case hy2a =>
                          (try dsimp only at hSw)
                          go_simp
                          try with_reducible rfl
                        try simp only [Act.put, List.setIfInBounds_toArray, List.set_cons_zero, List.set_cons_succ]
                        refine takeL (i := 3) rfl (v := ?v3a) (by kernel_rfl) (by kernel_rfl) (by kernel_rfl) (fun _ _ _ h => h) (Or.inl ⟨by rfl, fun w hSw => ?hy3a⟩) (by assumption) ?rest3a
                        case hy3a =>
                          (try dsimp only at hSw)
                          go_simp
                          try with_reducible rfl
                        try simp only [Act.put, List.setIfInBounds_toArray, List.set_cons_zero, List.set_cons_succ]
                        refine takeL (i := 4) rfl (v := ?v4a) (by kernel_rfl) (by kernel_rfl) (by kernel_rfl) (fun _ _ _ h => h) (Or.inl ⟨by rfl, fun w hSw => ?hy4a⟩) (by assumption) ?rest4a
                        case hy4a =>
                          (try dsimp only at hSw)
                          go_simp
                          try with_reducible rfl
                        try simp only [Act.put, List.setIfInBounds_toArray, List.set_cons_zero, List.set_cons_succ]
                        refine takeL (i := 5) rfl (v := ?v5a) (by kernel_rfl) (by kernel_rfl) (by kernel_rfl) (fun _ _ _ h => h) (Or.inl ⟨by rfl, fun w hSw => ?hy5a⟩) (by assumption) ?rest5a
                        case hy5a =>
                          (try dsimp only at hSw)
                          go_simp
                          try with_reducible rfl
                        try simp only [Act.put, List.setIfInBounds_toArray, List.set_cons_zero, List.set_cons_succ]
                        refine takeL (i := 6) rfl (v := ?v6a) (by kernel_rfl) (by kernel_rfl) (by kernel_rfl) (fun _ _ _ h => h) (Or.inl ⟨by rfl, fun w hSw => ?hy6a⟩) (by assumption) ?rest6a
                        case hy6a =>
                          (try dsimp only at hSw)
                          go_simp
                          try with_reducible rfl
                        try simp only [Act.put, List.setIfInBounds_toArray, List.set_cons_zero, List.set_cons_succ]
                        refine takeL (i := 7) rfl (v := ?v7a) (by kernel_rfl) (by kernel_rfl) (by kernel_rfl) (fun _ _ _ h => h) (Or.inl ⟨by rfl, fun w hSw => ?hy7a⟩) (by assumption) ?rest7a
                        case hy7a =>
                          (try dsimp only at hSw)
                          go_simp
                          try with_reducible rfl
                        try simp only [Act.put, List.setIfInBounds_toArray, List.set_cons_zero, List.set_cons_succ]
                        refine takeL (i := 8) rfl (v := ?v8a) (by kernel_rfl) (by kernel_rfl) (by kernel_rfl) (fun _ _ _ h => h) (Or.inl ⟨by rfl, fun w hSw => ?hy8a⟩) (by assumption) ?rest8a
                        case hy8a =>
                          (try dsimp only at hSw)
                          go_simp
                          try with_reducible rfl
                        try simp only [Act.put, List.setIfInBounds_toArray, List.set_cons_zero, List.set_cons_succ]
                        refine takeL (i := 9) rfl (v := ?v9a) (by kernel_rfl) (by kernel_rfl) (by kernel_rfl) (fun _ _ _ h => h) (Or.inl ⟨by rfl, fun w hSw => ?hy9a⟩) (by assumption) ?rest9a
                        case hy9a =>
                          (try dsimp only at hSw)
                          go_simp
                          try with_reducible rfl
                        try simp only [Act.put, List.setIfInBounds_toArray, List.set_cons_zero, List.set_cons_succ]
                        refine takeL (i := 10) rfl (v := ?v10a) (by kernel_rfl) (by kernel_rfl) (by kernel_rfl) (fun _ _ _ h => h) (Or.inl ⟨by rfl, fun w hSw => ?hy10a⟩) (by assumption) ?rest10a
                        case hy10a =>
                          (try dsimp only at hSw)
                          go_simp
                          try with_reducible rfl
                        try simp only [Act.put, List.setIfInBounds_toArray, List.set_cons_zero, List.set_cons_succ]
                        refine takeL (i := 11) rfl (v := ?v11a) (by kernel_rfl) (by kernel_rfl) (by kernel_rfl) (fun _ _ _ h => h) (Or.inl ⟨by rfl, fun w hSw => ?hy11a⟩) (by assumption) ?rest11a
                        case hy11a =>
                          (try dsimp only at hSw)
                          go_simp
                          try with_reducible rfl
                        try simp only [Act.put, List.setIfInBounds_toArray, List.set_cons_zero, List.set_cons_succ]
                        refine takeL (i := 12) rfl (v := ?v12a) (by kernel_rfl) (by kernel_rfl) (by kernel_rfl) (fun _ _ _ h => h) (Or.inl ⟨by rfl, fun w hSw => ?hy12a⟩) (by assumption) ?rest12a
                        case hy12a =>
                          (try dsimp only at hSw)
                          go_simp
                          try with_reducible rfl
                        try simp only [Act.put, List.setIfInBounds_toArray, List.set_cons_zero, List.set_cons_succ]
                        refine takeL (i := 13) rfl (v := ?v13a) (by kernel_rfl) (by kernel_rfl) (by kernel_rfl) (fun _ _ _ h => h) (Or.inl ⟨by rfl, fun w hSw => ?hy13a⟩) (by assumption) ?rest13a
                        case hy13a =>
                          (try dsimp only at hSw)
                          go_simp
                          try with_reducible rfl
                        try simp only [Act.put, List.setIfInBounds_toArray, List.set_cons_zero, List.set_cons_succ]
                        refine takeL (i := 14) rfl (v := ?v14a) (by kernel_rfl) (by kernel_rfl) (by kernel_rfl) (fun _ _ _ h => h) (Or.inl ⟨by rfl, fun w hSw => ?hy14a⟩) (by assumption) ?rest14a
                        case hy14a =>
                          (try dsimp only at hSw)
                          go_simp
                          try with_reducible rfl
                        try simp only [Act.put, List.setIfInBounds_toArray, List.set_cons_zero, List.set_cons_succ]
                        refine takeL (i := 15) rfl (v := ?v15a) (by kernel_rfl) (by kernel_rfl) (by kernel_rfl) (fun _ _ _ h => h) (Or.inl ⟨by rfl, fun w hSw => ?hy15a⟩) (by assumption) ?rest15a
                        case hy15a =>
                          (try dsimp only at hSw)
                          go_simp
                          try with_reducible rfl
                        try simp only [Act.put, List.setIfInBounds_toArray, List.set_cons_zero, List.set_cons_succ]
                        refine takeL (i := 16) rfl (v := ?v16a) (by kernel_rfl) (by kernel_rfl) (by kernel_rfl) (fun _ _ _ h => h) (Or.inl ⟨by rfl, fun w hSw => ?hy16a⟩) (by assumption) ?rest16a
                        case hy16a =>
                          (try dsimp only at hSw)
                          go_simp
                          try with_reducible rfl
                        try simp only [Act.put, List.setIfInBounds_toArray, List.set_cons_zero, List.set_cons_succ]
                        refine takeL (i := 17) rfl (v := ?v17a) (by kernel_rfl) (by kernel_rfl) (by kernel_rfl) (fun _ _ _ h => h) (Or.inl ⟨by rfl, fun w hSw => ?hy17a⟩) (by assumption) ?rest17a
                        case hy17a =>
                          (try dsimp only at hSw)
                          go_simp
                          try with_reducible rfl
                        try simp only [Act.put, List.setIfInBounds_toArray, List.set_cons_zero, List.set_cons_succ]
                        refine takeL (i := 18) rfl (v := ?v18a) (by kernel_rfl) (by kernel_rfl) (by kernel_rfl) (fun _ _ _ h => h) (Or.inl ⟨by rfl, fun w hSw => ?hy18a⟩) (by assumption) ?rest18a
                        case hy18a =>
                          (try dsimp only at hSw)
                          go_simp
                          try with_reducible rfl
                        try simp only [Act.put, List.setIfInBounds_toArray, List.set_cons_zero, List.set_cons_succ]
                        refine takeL (i := 19) rfl (v := ?v19a) (by kernel_rfl) (by kernel_rfl) (by kernel_rfl) (fun _ _ _ h => h) (Or.inl ⟨by rfl, fun w hSw => ?hy19a⟩) (by assumption) ?rest19a
                        case hy19a =>
                          (try dsimp only at hSw)
                          go_simp
                          try with_reducible rfl
                        try simp only [Act.put, List.setIfInBounds_toArray, List.set_cons_zero, List.set_cons_succ]
                        refine takeL (i := 20) rfl (v := ?v20a) (by kernel_rfl) (by kernel_rfl) (by kernel_rfl) (fun _ _ _ h => h) (Or.inl ⟨by rfl, fun w hSw => ?hy20a⟩) (by assumption) ?rest20a
                        case hy20a =>
                          (try dsimp only at hSw)
                          go_simp
                          try with_reducible rfl
                        try simp only [Act.put, List.setIfInBounds_toArray, List.set_cons_zero, List.set_cons_succ]
                        refine takeL (i := 21) rfl (v := ?v21a) (by kernel_rfl) (by kernel_rfl) (by kernel_rfl) (fun _ _ _ h => h) (Or.inl ⟨by rfl, fun w hSw => ?hy21a⟩) (by assumption) ?rest21a
                        case hy21a =>
                          (try dsimp only at hSw)
                          go_simp
                          try with_reducible rfl
                        try simp only [Act.put, List.setIfInBounds_toArray, List.set_cons_zero, List.set_cons_succ]
                        refine takeL (i := 22) rfl (v := ?v22a) (by kernel_rfl) (by kernel_rfl) (by kernel_rfl) (fun _ _ _ h => h) (Or.inl ⟨by rfl, fun w hSw => ?hy22a⟩) (by assumption) ?rest22a
                        case hy22a =>
                          (try dsimp only at hSw)
                          go_simp
                          try with_reducible rfl
                        try simp only [Act.put, List.setIfInBounds_toArray, List.set_cons_zero, List.set_cons_succ]
                        refine takeL (i := 23) rfl (v := ?v23a) (by kernel_rfl) (by kernel_rfl) (by kernel_rfl) (fun _ _ _ h => h) (Or.inl ⟨by rfl, fun w hSw => ?hy23a⟩) (by assumption) ?rest23a
                        case hy23a =>
                          (try dsimp only at hSw)
                          go_simp
                          try with_reducible rfl
                        try simp only [Act.put, List.setIfInBounds_toArray, List.set_cons_zero, List.set_cons_succ]
                        refine takeL (i := 24) rfl (v := ?v24a) (by kernel_rfl) (by kernel_rfl) (by kernel_rfl) (fun _ _ _ h => h) (Or.inl ⟨by rfl, fun w hSw => ?hy24a⟩) (by assumption) ?rest24a
                        case hy24a =>
                          (try dsimp only at hSw)
                          go_simp
                          try with_reducible rfl
                        try simp only [Act.put, List.setIfInBounds_toArray, List.set_cons_zero, List.set_cons_succ]
                        refine takeL (i := 25) rfl (v := ?v25a) (by kernel_rfl) (by kernel_rfl) (by kernel_rfl) (fun _ _ _ h => h) (Or.inl ⟨by rfl, fun w hSw => ?hy25a⟩) (by assumption) ?rest25a
                        case hy25a =>
                          (try dsimp only at hSw)
                          go_simp
                          try with_reducible rfl
                        try simp only [Act.put, List.setIfInBounds_toArray, List.set_cons_zero, List.set_cons_succ]
                        refine takeL (i := 26) rfl (v := ?v26a) (by kernel_rfl) (by kernel_rfl) (by kernel_rfl) (fun _ _ _ h => h) (Or.inl ⟨by rfl, fun w hSw => ?hy26a⟩) (by assumption) ?rest26a
                        case hy26a =>
                          (try dsimp only at hSw)
                          go_simp
                          try with_reducible rfl
                        try simp only [Act.put, List.setIfInBounds_toArray, List.set_cons_zero, List.set_cons_succ]
                        refine takeL (i := 27) rfl (v := ?v27a) (by kernel_rfl) (by kernel_rfl) (by kernel_rfl) (fun _ _ _ h => h) (Or.inl ⟨by rfl, fun w hSw => ?hy27a⟩) (by assumption) ?rest27a
                        case hy27a =>
                          (try dsimp only at hSw)
                          go_simp
                          try with_reducible rfl
                        try simp only [Act.put, List.setIfInBounds_toArray, List.set_cons_zero, List.set_cons_succ]
                        refine takeL (i := 28) rfl (v := ?v28a) (by kernel_rfl) (by kernel_rfl) (by kernel_rfl) (fun _ _ _ h => h) (Or.inl ⟨by rfl, fun w hSw => ?hy28a⟩) (by assumption) ?rest28a
                        case hy28a =>
                          (try dsimp only at hSw)
                          go_simp
                          try with_reducible rfl
                        try simp only [Act.put, List.setIfInBounds_toArray, List.set_cons_zero, List.set_cons_succ]
                        refine takeL (i := 29) rfl (v := ?v29a) (by kernel_rfl) (by kernel_rfl) (by kernel_rfl) (fun _ _ _ h => h) (Or.inl ⟨by rfl, fun w hSw => ?hy29a⟩) (by assumption) ?rest29a
                        case hy29a =>
                          (try dsimp only at hSw)
                          go_simp
                          try with_reducible rfl
                        try simp only [Act.put, List.setIfInBounds_toArray, List.set_cons_zero, List.set_cons_succ]
                        refine takeL (i := 30) rfl (v := ?v30a) (by kernel_rfl) (by kernel_rfl) (by kernel_rfl) (fun _ _ _ h => h) (Or.inl ⟨by rfl, fun w hSw => ?hy30a⟩) (by assumption) ?rest30a
                        case hy30a =>
                          (try dsimp only at hSw)
                          go_simp
                          try with_reducible rfl
                        try simp only [Act.put, List.setIfInBounds_toArray, List.set_cons_zero, List.set_cons_succ]
                        refine takeL (i := 31) rfl (v := ?v31a) (by kernel_rfl) (by kernel_rfl) (by kernel_rfl) (fun _ _ _ h => h) (Or.inl ⟨by rfl, fun w hSw => ?hy31a⟩) (by assumption) ?rest31a
                        case hy31a =>
                          (try dsimp only at hSw)
                          go_simp
                          try with_reducible rfl
                        try simp only [Act.put, List.setIfInBounds_toArray, List.set_cons_zero, List.set_cons_succ]
                        refine takeL (i := 32) rfl (v := ?v32a) (by kernel_rfl) (by kernel_rfl) (by kernel_rfl) (fun _ _ _ h => h) (Or.inl ⟨by rfl, fun w hSw => ?hy32a⟩) (by assumption) ?rest32a
                        case hy32a =>
                          (try dsimp only at hSw)
                          go_simp
                          try with_reducible rfl
                        try simp only [Act.put, List.setIfInBounds_toArray, List.set_cons_zero, List.set_cons_succ]
                        refine takeL (i := 33) rfl (v := ?v33a) (by kernel_rfl) (by kernel_rfl) (by kernel_rfl) (fun _ _ _ h => h) (Or.inl ⟨by rfl, fun w hSw => ?hy33a⟩) (by assumption) ?rest33a
                        case hy33a =>
                          (try dsimp only at hSw)
                          go_simp
                          try with_reducible rfl
                        try simp only [Act.put, List.setIfInBounds_toArray, List.set_cons_zero, List.set_cons_succ]
                        refine takeL (i := 34) rfl (v := ?v34a) (by kernel_rfl) (by kernel_rfl) (by kernel_rfl) (fun _ _ _ h => h) (Or.inl ⟨by rfl, fun w hSw => ?hy34a⟩) (by assumption) ?rest34a
                        case hy34a =>
                          (try dsimp only at hSw)
                          go_simp
                          try with_reducible rfl
                        try simp only [Act.put, List.setIfInBounds_toArray, List.set_cons_zero, List.set_cons_succ]
                        refine takeL (i := 35) rfl (v := ?v35a) (by kernel_rfl) (by kernel_rfl) (by kernel_rfl) (fun _ _ _ h => h) (Or.inl ⟨by rfl, fun w hSw => ?hy35a⟩) (by assumption) ?rest35a
                        case hy35a =>
                          (try dsimp only at hSw)
                          go_simp
                          try with_reducible rfl
                        try simp only [Act.put, List.setIfInBounds_toArray, List.set_cons_zero, List.set_cons_succ]
                        refine takeL (i := 36) rfl (v := ?v36a) (by kernel_rfl) (by kernel_rfl) (by kernel_rfl) (fun _ _ _ h => h) (Or.inl ⟨by rfl, fun w hSw => ?hy36a⟩) (by assumption) ?rest36a
                        case hy36a =>
                          (try dsimp only at hSw)
                          go_simp
                          try with_reducible rfl
                        try simp only [Act.put, List.setIfInBounds_toArray, List.set_cons_zero, List.set_cons_succ]
                        refine takeL (i := 37) rfl (v := ?v37a) (by kernel_rfl) (by kernel_rfl) (by kernel_rfl) (fun _ _ _ h => h) (Or.inl ⟨by rfl, fun w hSw => ?hy37a⟩) (by assumption) ?rest37a
                        case hy37a =>
                          (try dsimp only at hSw)
                          go_simp
                          try with_reducible rfl
                        try simp only [Act.put, List.setIfInBounds_toArray, List.set_cons_zero, List.set_cons_succ]
                        refine takeL (i := 38) rfl (v := ?v38a) (by kernel_rfl) (by kernel_rfl) (by kernel_rfl) (fun _ _ _ h => h) (Or.inl ⟨by rfl, fun w hSw => ?hy38a⟩) (by assumption) ?rest38a
                        case hy38a =>
                          (try dsimp only at hSw)
                          go_simp
                          try with_reducible rfl
                        try simp only [Act.put, List.setIfInBounds_toArray, List.set_cons_zero, List.set_cons_succ]
                        refine takeL (i := 39) rfl (v := ?v39a) (by kernel_rfl) (by kernel_rfl) (by kernel_rfl) (fun _ _ _ h => h) (Or.inl ⟨by rfl, fun w hSw => ?hy39a⟩) (by assumption) ?rest39a
                        case hy39a =>
                          (try dsimp only at hSw)
                          go_simp
                          try with_reducible rfl
                        try simp only [Act.put, List.setIfInBounds_toArray, List.set_cons_zero, List.set_cons_succ]
                        refine takeL (i := 40) rfl (v := ?v40a) (by kernel_rfl) (by kernel_rfl) (by kernel_rfl) (fun _ _ _ h => h) (Or.inl ⟨by rfl, fun w hSw => ?hy40a⟩) (by assumption) ?rest40a
                        case hy40a =>
                          (try dsimp only at hSw)
                          go_simp
                          try with_reducible rfl
                        try simp only [Act.put, List.setIfInBounds_toArray, List.set_cons_zero, List.set_cons_succ]
                        refine wpAnyH_ready (rs := [41]) (by kernel_rfl) (by simp) (readyL rfl (fun K hK => ?_) AllReadyH.nil)
                        go_simp
                        with_reducible refine (K43.out _).mono ?_
                        rintro e w' ⟨rfl, hb⟩
                        try dsimp only
                        refine hK.out _ _ (stay ‹_› ‹_›) (fun hHeld => ?_)
                        clear hK K
                        try simp only [Act.put, List.setIfInBounds_toArray, List.set_cons_zero, List.set_cons_succ]
                        refine takeL (i := 42) rfl (v := ?v42a) (by kernel_rfl) (by kernel_rfl) (by kernel_rfl) (fun _ _ _ h => h) (Or.inl ⟨by rfl, fun w hSw => ?hy42a⟩) (by assumption) ?rest42a
                        case hy42a =>
                          (try dsimp only at hSw)
                          go_simp
                          try with_reducible rfl
                        try simp only [Act.put, List.setIfInBounds_toArray, List.set_cons_zero, List.set_cons_succ]
                        refine takeL (i := 43) rfl (v := ?v43a) (by kernel_rfl) (by kernel_rfl) (by kernel_rfl) (fun _ _ _ h => h) (Or.inl ⟨by rfl, fun w hSw => ?hy43a⟩) (by assumption) ?rest43a
                        case hy43a =>
                          (try dsimp only at hSw)
                          go_simp
                          try with_reducible rfl
                        try simp only [Act.put, List.setIfInBounds_toArray, List.set_cons_zero, List.set_cons_succ]
                        refine takeL (i := 44) rfl (v := undef) (by kernel_rfl) (by kernel_rfl) (by kernel_rfl) (fun _ _ _ h => h) (Or.inr ⟨by rfl, rfl⟩) (by assumption) ?_
                        try simp only [Act.put, List.setIfInBounds_toArray, List.set_cons_zero, List.set_cons_succ]
                        refine takeL (i := 45) rfl (v := undef) (by kernel_rfl) (by kernel_rfl) (by kernel_rfl) (fun _ _ _ h => h) (Or.inr ⟨by rfl, rfl⟩) (by assumption) ?_
                        try simp only [Act.put, List.setIfInBounds_toArray, List.set_cons_zero, List.set_cons_succ]
                        refine takeL (i := 46) rfl (v := undef) (by kernel_rfl) (by kernel_rfl) (by kernel_rfl) (fun _ _ _ h => h) (Or.inr ⟨by rfl, rfl⟩) (by assumption) ?_
                        try simp only [Act.put, List.setIfInBounds_toArray, List.set_cons_zero, List.set_cons_succ]
                        refine takeL (i := 47) rfl (v := undef) (by kernel_rfl) (by kernel_rfl) (by kernel_rfl) (fun _ _ _ h => h) (Or.inr ⟨by rfl, rfl⟩) (by assumption) ?_
                        try simp only [Act.put, List.setIfInBounds_toArray, List.set_cons_zero, List.set_cons_succ]
                        refine takeL (i := 48) rfl (v := ?v48a) (by kernel_rfl) (by kernel_rfl) (by kernel_rfl) (fun _ _ _ h => h) (Or.inl ⟨by rfl, fun w hSw => ?hy48a⟩) (by assumption) ?rest48a
                        case hy48a =>
                          (try dsimp only at hSw)
                          go_simp
                          try with_reducible rfl
                        try simp only [Act.put, List.setIfInBounds_toArray, List.set_cons_zero, List.set_cons_succ]
                        refine takeL (i := 49) rfl (v := ?v49a) (by kernel_rfl) (by kernel_rfl) (by kernel_rfl) (fun _ _ _ h => h) (Or.inl ⟨by rfl, fun w hSw => ?hy49a⟩) (by assumption) ?rest49a
                        case hy49a =>
                          (try dsimp only at hSw)
                          go_simp
                          try with_reducible rfl
                        try simp only [Act.put, List.setIfInBounds_toArray, List.set_cons_zero, List.set_cons_succ]
                        refine takeL (i := 50) rfl (v := undef) (by kernel_rfl) (by kernel_rfl) (by kernel_rfl) (fun _ _ _ h => h) (Or.inr ⟨by rfl, rfl⟩) (by assumption) ?_
                        try simp only [Act.put, List.setIfInBounds_toArray, List.set_cons_zero, List.set_cons_succ]
                        refine takeL (i := 51) rfl (v := undef) (by kernel_rfl) (by kernel_rfl) (by kernel_rfl) (fun _ _ _ h => h) (Or.inr ⟨by rfl, rfl⟩) (by assumption) ?_
                        try simp only [Act.put, List.setIfInBounds_toArray, List.set_cons_zero, List.set_cons_succ]
                        refine takeL (i := 52) rfl (v := undef) (by kernel_rfl) (by kernel_rfl) (by kernel_rfl) (fun _ _ _ h => h) (Or.inr ⟨by rfl, rfl⟩) (by assumption) ?_
                        try simp only [Act.put, List.setIfInBounds_toArray, List.set_cons_zero, List.set_cons_succ]
                        refine takeL (i := 53) rfl (v := undef) (by kernel_rfl) (by kernel_rfl) (by kernel_rfl) (fun _ _ _ h => h) (Or.inr ⟨by rfl, rfl⟩) (by assumption) ?_
                        try simp only [Act.put, List.setIfInBounds_toArray, List.set_cons_zero, List.set_cons_succ]
                        refine takeL (i := 54) rfl (v := undef) (by kernel_rfl) (by kernel_rfl) (by kernel_rfl) (fun _ _ _ h => h) (Or.inr ⟨by rfl, rfl⟩) (by assumption) ?_
                        try simp only [Act.put, List.setIfInBounds_toArray, List.set_cons_zero, List.set_cons_succ]
                        refine takeL (i := 55) rfl (v := ?v55a) (by kernel_rfl) (by kernel_rfl) (by kernel_rfl) (fun _ _ _ h => h) (Or.inl ⟨by rfl, fun w hSw => ?hy55a⟩) (by assumption) ?rest55a
                        case hy55a =>
                          (try dsimp only at hSw)
                          go_simp
                          try with_reducible rfl
                        try simp only [Act.put, List.setIfInBounds_toArray, List.set_cons_zero, List.set_cons_succ]
                        refine wpAnyH_done (by kernel_rfl) ?_ _
                        go_wp2_with fail
                        go_meet
                        case rel =>
                          have hst := stayEnd (Below.refl wc.heap.size wc) (Nat.le_refl _) ‹_›
                          first | exact ⟨rfl, hst⟩ | ((repeat apply Exists.intro); exact ⟨⟨rfl, hst⟩, rfl⟩)
                      | true =>
                        rw [t4] at K43
                        cases m1 with
                        | false =>
                          clear M1 M2 hU
                          go_wp2_with fail
                          refine wp_region_held_drew (S := (fun w' => (∀ b o, b < (wc).heap.size → w'.cell? ⟨b, o, none⟩ = (wc).cell? ⟨b, o, none⟩) ∧ Below (wc).heap.size (wc) w')) (by kernel_rfl) (stay0 _) (fun hHeld => ?_)
                          try dsimp only [List.size_toArray, List.length_cons, List.length_nil]
                          refine takeL (i := 0) rfl (v := ?v0b) (by kernel_rfl) (by kernel_rfl) (by kernel_rfl) (fun _ _ _ h => h) (Or.inl ⟨by rfl, fun w hSw => ?hy0b⟩) (by assumption) ?rest0b
                          case hy0b =>
                            (try dsimp only at hSw)
                            go_simp
                            try with_reducible rfl
                          try simp only [Act.put, List.setIfInBounds_toArray, List.set_cons_zero, List.set_cons_succ]
                          refine takeL (i := 1) rfl (v := ?v1b) (by kernel_rfl) (by kernel_rfl) (by kernel_rfl) (fun _ _ _ h => h) (Or.inl ⟨by rfl, fun w hSw => ?hy1b⟩) (by assumption) ?rest1b
                          case hy1b =>
                            (try dsimp only at hSw)
                            go_simp
                            try with_reducible rfl
                          try simp only [Act.put, List.setIfInBounds_toArray, List.set_cons_zero, List.set_cons_succ]
                          refine takeL (i := 2) rfl (v := ?v2b) (by kernel_rfl) (by kernel_rfl) (by kernel_rfl) (fun _ _ _ h => h) (Or.inl ⟨by rfl, fun w hSw => ?hy2b⟩) (by assumption) ?rest2b
                          case hy2b =>
                            (try dsimp only at hSw)
                            go_simp
                            try with_reducible rfl
                          try simp only [Act.put, List.setIfInBounds_toArray, List.set_cons_zero, List.set_cons_succ]
                          refine takeL (i := 3) rfl (v := ?v3b) (by kernel_rfl) (by kernel_rfl) (by kernel_rfl) (fun _ _ _ h => h) (Or.inl ⟨by rfl, fun w hSw => ?hy3b⟩) (by assumption) ?rest3b
                          case hy3b =>
                            (try dsimp only at hSw)
                            go_simp
                            try with_reducible rfl
                          try simp only [Act.put, List.setIfInBounds_toArray, List.set_cons_zero, List.set_cons_succ]
                          refine takeL (i := 4) rfl (v := ?v4b) (by kernel_rfl) (by kernel_rfl) (by kernel_rfl) (fun _ _ _ h => h) (Or.inl ⟨by rfl, fun w hSw => ?hy4b⟩) (by assumption) ?rest4b
                          case hy4b =>
                            (try dsimp only at hSw)
                            go_simp
                            try with_reducible rfl
                          try simp only [Act.put, List.setIfInBounds_toArray, List.set_cons_zero, List.set_cons_succ]
                          refine takeL (i := 5) rfl (v := ?v5b) (by kernel_rfl) (by kernel_rfl) (by kernel_rfl) (fun _ _ _ h => h) (Or.inl ⟨by rfl, fun w hSw => ?hy5b⟩) (by assumption) ?rest5b
                          case hy5b =>
                            (try dsimp only at hSw)
                            go_simp
                            try with_reducible rfl
                          try simp only [Act.put, List.setIfInBounds_toArray, List.set_cons_zero, List.set_cons_succ]
                          refine takeL (i := 6) rfl (v := ?v6b) (by kernel_rfl) (by kernel_rfl) (by kernel_rfl) (fun _ _ _ h => h) (Or.inl ⟨by rfl, fun w hSw => ?hy6b⟩) (by assumption) ?rest6b
                          case hy6b =>
                            (try dsimp only at hSw)
                            go_simp
                            try with_reducible rfl
                          try simp only [Act.put, List.setIfInBounds_toArray, List.set_cons_zero, List.set_cons_succ]
                          refine takeL (i := 7) rfl (v := ?v7b) (by kernel_rfl) (by kernel_rfl) (by kernel_rfl) (fun _ _ _ h => h) (Or.inl ⟨by rfl, fun w hSw => ?hy7b⟩) (by assumption) ?rest7b
                          case hy7b =>
                            (try dsimp only at hSw)
                            go_simp
                            try with_reducible rfl
                          try simp only [Act.put, List.setIfInBounds_toArray, List.set_cons_zero, List.set_cons_succ]
                          refine takeL (i := 8) rfl (v := ?v8b) (by kernel_rfl) (by kernel_rfl) (by kernel_rfl) (fun _ _ _ h => h) (Or.inl ⟨by rfl, fun w hSw => ?hy8b⟩) (by assumption) ?rest8b
                          case hy8b =>
                            (try dsimp only at hSw)
                            go_simp
                            try with_reducible rfl
                          try simp only [Act.put, List.setIfInBounds_toArray, List.set_cons_zero, List.set_cons_succ]
                          refine takeL (i := 9) rfl (v := ?v9b) (by kernel_rfl) (by kernel_rfl) (by kernel_rfl) (fun _ _ _ h => h) (Or.inl ⟨by rfl, fun w hSw => ?hy9b⟩) (by assumption) ?rest9b
                          case hy9b =>
                            (try dsimp only at hSw)
                            go_simp
                            try with_reducible rfl
                          try simp only [Act.put, List.setIfInBounds_toArray, List.set_cons_zero, List.set_cons_succ]
                          refine takeL (i := 10) rfl (v := ?v10b) (by kernel_rfl) (by kernel_rfl) (by kernel_rfl) (fun _ _ _ h => h) (Or.inl ⟨by rfl, fun w hSw => ?hy10b⟩) (by assumption) ?rest10b
                          case hy10b =>
                            (try dsimp only at hSw)
                            go_simp
                            try with_reducible rfl
                          try simp only [Act.put, List.setIfInBounds_toArray, List.set_cons_zero, List.set_cons_succ]
                          refine takeL (i := 11) rfl (v := ?v11b) (by kernel_rfl) (by kernel_rfl) (by kernel_rfl) (fun _ _ _ h => h) (Or.inl ⟨by rfl, fun w hSw => ?hy11b⟩) (by assumption) ?rest11b
                          case hy11b =>
                            (try dsimp only at hSw)
                            go_simp
                            try with_reducible rfl
                          try simp only [Act.put, List.setIfInBounds_toArray, List.set_cons_zero, List.set_cons_succ]
                          refine takeL (i := 12) rfl (v := ?v12b) (by kernel_rfl) (by kernel_rfl) (by kernel_rfl) (fun _ _ _ h => h) (Or.inl ⟨by rfl, fun w hSw => ?hy12b⟩) (by assumption) ?rest12b
                          case hy12b =>
                            (try dsimp only at hSw)
                            go_simp
                            try with_reducible rfl
                          try simp only [Act.put, List.setIfInBounds_toArray, List.set_cons_zero, List.set_cons_succ]
                          refine takeL (i := 13) rfl (v := ?v13b) (by kernel_rfl) (by kernel_rfl) (by kernel_rfl) (fun _ _ _ h => h) (Or.inl ⟨by rfl, fun w hSw => ?hy13b⟩) (by assumption) ?rest13b
                          case hy13b =>
                            (try dsimp only at hSw)
                            go_simp
                            try with_reducible rfl
                          try simp only [Act.put, List.setIfInBounds_toArray, List.set_cons_zero, List.set_cons_succ]
                          refine takeL (i := 14) rfl (v := ?v14b) (by kernel_rfl) (by kernel_rfl) (by kernel_rfl) (fun _ _ _ h => h) (Or.inl ⟨by rfl, fun w hSw => ?hy14b⟩) (by assumption) ?rest14b
                          case hy14b =>
                            (try dsimp only at hSw)
                            go_simp
                            try with_reducible rfl
                          try simp only [Act.put, List.setIfInBounds_toArray, List.set_cons_zero, List.set_cons_succ]
                          refine takeL (i := 15) rfl (v := ?v15b) (by kernel_rfl) (by kernel_rfl) (by kernel_rfl) (fun _ _ _ h => h) (Or.inl ⟨by rfl, fun w hSw => ?hy15b⟩) (by assumption) ?rest15b
                          case hy15b =>
                            (try dsimp only at hSw)
                            go_simp
                            try with_reducible rfl
                          try simp only [Act.put, List.setIfInBounds_toArray, List.set_cons_zero, List.set_cons_succ]
                          refine takeL (i := 16) rfl (v := ?v16b) (by kernel_rfl) (by kernel_rfl) (by kernel_rfl) (fun _ _ _ h => h) (Or.inl ⟨by rfl, fun w hSw => ?hy16b⟩) (by assumption) ?rest16b
                          case hy16b =>
                            (try dsimp only at hSw)
                            go_simp
                            try with_reducible rfl
                          try simp only [Act.put, List.setIfInBounds_toArray, List.set_cons_zero, List.set_cons_succ]
                          refine takeL (i := 17) rfl (v := ?v17b) (by kernel_rfl) (by kernel_rfl) (by kernel_rfl) (fun _ _ _ h => h) (Or.inl ⟨by rfl, fun w hSw => ?hy17b⟩) (by assumption) ?rest17b
                          case hy17b =>
                            (try dsimp only at hSw)
                            go_simp
                            try with_reducible rfl
                          try simp only [Act.put, List.setIfInBounds_toArray, List.set_cons_zero, List.set_cons_succ]
                          refine takeL (i := 18) rfl (v := ?v18b) (by kernel_rfl) (by kernel_rfl) (by kernel_rfl) (fun _ _ _ h => h) (Or.inl ⟨by rfl, fun w hSw => ?hy18b⟩) (by assumption) ?rest18b
                          case hy18b =>
                            (try dsimp only at hSw)
                            go_simp
                            try with_reducible rfl
                          try simp only [Act.put, List.setIfInBounds_toArray, List.set_cons_zero, List.set_cons_succ]
                          refine takeL (i := 19) rfl (v := ?v19b) (by kernel_rfl) (by kernel_rfl) (by kernel_rfl) (fun _ _ _ h => h) (Or.inl ⟨by rfl, fun w hSw => ?hy19b⟩) (by assumption) ?rest19b
                          case hy19b =>
                            (try dsimp only at hSw)
                            go_simp
                            try with_reducible rfl
                          try simp only [Act.put, List.setIfInBounds_toArray, List.set_cons_zero, List.set_cons_succ]
                          refine takeL (i := 20) rfl (v := ?v20b) (by kernel_rfl) (by kernel_rfl) (by kernel_rfl) (fun _ _ _ h => h) (Or.inl ⟨by rfl, fun w hSw => ?hy20b⟩) (by assumption) ?rest20b
                          case hy20b =>
                            (try dsimp only at hSw)
                            go_simp
                            try with_reducible rfl
                          try simp only [Act.put, List.setIfInBounds_toArray, List.set_cons_zero, List.set_cons_succ]
                          refine takeL (i := 21) rfl (v := ?v21b) (by kernel_rfl) (by kernel_rfl) (by kernel_rfl) (fun _ _ _ h => h) (Or.inl ⟨by rfl, fun w hSw => ?hy21b⟩) (by assumption) ?rest21b
                          case hy21b =>
                            (try dsimp only at hSw)
                            go_simp
                            try with_reducible rfl
                          try simp only [Act.put, List.setIfInBounds_toArray, List.set_cons_zero, List.set_cons_succ]
                          refine takeL (i := 22) rfl (v := ?v22b) (by kernel_rfl) (by kernel_rfl) (by kernel_rfl) (fun _ _ _ h => h) (Or.inl ⟨by rfl, fun w hSw => ?hy22b⟩) (by assumption) ?rest22b
                          case hy22b =>
                            (try dsimp only at hSw)
                            go_simp
                            try with_reducible rfl
                          try simp only [Act.put, List.setIfInBounds_toArray, List.set_cons_zero, List.set_cons_succ]
                          refine takeL (i := 23) rfl (v := ?v23b) (by kernel_rfl) (by kernel_rfl) (by kernel_rfl) (fun _ _ _ h => h) (Or.inl ⟨by rfl, fun w hSw => ?hy23b⟩) (by assumption) ?rest23b
                          case hy23b =>
                            (try dsimp only at hSw)
                            go_simp
                            try with_reducible rfl
                          try simp only [Act.put, List.setIfInBounds_toArray, List.set_cons_zero, List.set_cons_succ]
                          refine takeL (i := 24) rfl (v := ?v24b) (by kernel_rfl) (by kernel_rfl) (by kernel_rfl) (fun _ _ _ h => h) (Or.inl ⟨by rfl, fun w hSw => ?hy24b⟩) (by assumption) ?rest24b
                          case hy24b =>
                            (try dsimp only at hSw)
                            go_simp
                            try with_reducible rfl
                          try simp only [Act.put, List.setIfInBounds_toArray, List.set_cons_zero, List.set_cons_succ]
                          refine takeL (i := 25) rfl (v := ?v25b) (by kernel_rfl) (by kernel_rfl) (by kernel_rfl) (fun _ _ _ h => h) (Or.inl ⟨by rfl, fun w hSw => ?hy25b⟩) (by assumption) ?rest25b
                          case hy25b =>
                            (try dsimp only at hSw)
                            go_simp
                            try with_reducible rfl
                          try simp only [Act.put, List.setIfInBounds_toArray, List.set_cons_zero, List.set_cons_succ]
                          refine takeL (i := 26) rfl (v := ?v26b) (by kernel_rfl) (by kernel_rfl) (by kernel_rfl) (fun _ _ _ h => h) (Or.inl ⟨by rfl, fun w hSw => ?hy26b⟩) (by assumption) ?rest26b
                          case hy26b =>
                            (try dsimp only at hSw)
                            go_simp
                            try with_reducible rfl
                          try simp only [Act.put, List.setIfInBounds_toArray, List.set_cons_zero, List.set_cons_succ]
                          refine takeL (i := 27) rfl (v := ?v27b) (by kernel_rfl) (by kernel_rfl) (by kernel_rfl) (fun _ _ _ h => h) (Or.inl ⟨by rfl, fun w hSw => ?hy27b⟩) (by assumption) ?rest27b
                          case hy27b =>
                            (try dsimp only at hSw)
                            go_simp
                            try with_reducible rfl
                          try simp only [Act.put, List.setIfInBounds_toArray, List.set_cons_zero, List.set_cons_succ]
                          refine takeL (i := 28) rfl (v := ?v28b) (by kernel_rfl) (by kernel_rfl) (by kernel_rfl) (fun _ _ _ h => h) (Or.inl ⟨by rfl, fun w hSw => ?hy28b⟩) (by assumption) ?rest28b
                          case hy28b =>
                            (try dsimp only at hSw)
                            go_simp
                            try with_reducible rfl
                          try simp only [Act.put, List.setIfInBounds_toArray, List.set_cons_zero, List.set_cons_succ]
                          refine takeL (i := 29) rfl (v := ?v29b) (by kernel_rfl) (by kernel_rfl) (by kernel_rfl) (fun _ _ _ h => h) (Or.inl ⟨by rfl, fun w hSw => ?hy29b⟩) (by assumption) ?rest29b
                          case hy29b =>
                            (try dsimp only at hSw)
                            go_simp
                            try with_reducible rfl
                          try simp only [Act.put, List.setIfInBounds_toArray, List.set_cons_zero, List.set_cons_succ]
                          refine takeL (i := 30) rfl (v := ?v30b) (by kernel_rfl) (by kernel_rfl) (by kernel_rfl) (fun _ _ _ h => h) (Or.inl ⟨by rfl, fun w hSw => ?hy30b⟩) (by assumption) ?rest30b
                          case hy30b =>
                            (try dsimp only at hSw)
                            go_simp
                            try with_reducible rfl
                          try simp only [Act.put, List.setIfInBounds_toArray, List.set_cons_zero, List.set_cons_succ]
                          refine takeL (i := 31) rfl (v := ?v31b) (by kernel_rfl) (by kernel_rfl) (by kernel_rfl) (fun _ _ _ h => h) (Or.inl ⟨by rfl, fun w hSw => ?hy31b⟩) (by assumption) ?rest31b
                          case hy31b =>
                            (try dsimp only at hSw)
                            go_simp
                            try with_reducible rfl
                          try simp only [Act.put, List.setIfInBounds_toArray, List.set_cons_zero, List.set_cons_succ]
                          refine takeL (i := 32) rfl (v := ?v32b) (by kernel_rfl) (by kernel_rfl) (by kernel_rfl) (fun _ _ _ h => h) (Or.inl ⟨by rfl, fun w hSw => ?hy32b⟩) (by assumption) ?rest32b
                          case hy32b =>
                            (try dsimp only at hSw)
                            go_simp
                            try with_reducible rfl
                          try simp only [Act.put, List.setIfInBounds_toArray, List.set_cons_zero, List.set_cons_succ]
                          refine takeL (i := 33) rfl (v := ?v33b) (by kernel_rfl) (by kernel_rfl) (by kernel_rfl) (fun _ _ _ h => h) (Or.inl ⟨by rfl, fun w hSw => ?hy33b⟩) (by assumption) ?rest33b
                          case hy33b =>
                            (try dsimp only at hSw)
                            go_simp
                            try with_reducible rfl
                          try simp only [Act.put, List.setIfInBounds_toArray, List.set_cons_zero, List.set_cons_succ]
                          refine takeL (i := 34) rfl (v := ?v34b) (by kernel_rfl) (by kernel_rfl) (by kernel_rfl) (fun _ _ _ h => h) (Or.inl ⟨by rfl, fun w hSw => ?hy34b⟩) (by assumption) ?rest34b
                          case hy34b =>
                            (try dsimp only at hSw)
                            go_simp
                            try with_reducible rfl
                          try simp only [Act.put, List.setIfInBounds_toArray, List.set_cons_zero, List.set_cons_succ]
                          refine takeL (i := 35) rfl (v := ?v35b) (by kernel_rfl) (by kernel_rfl) (by kernel_rfl) (fun _ _ _ h => h) (Or.inl ⟨by rfl, fun w hSw => ?hy35b⟩) (by assumption) ?rest35b
                          case hy35b =>
                            (try dsimp only at hSw)
                            go_simp
                            try with_reducible rfl
                          try simp only [Act.put, List.setIfInBounds_toArray, List.set_cons_zero, List.set_cons_succ]
                          refine takeL (i := 36) rfl (v := ?v36b) (by kernel_rfl) (by kernel_rfl) (by kernel_rfl) (fun _ _ _ h => h) (Or.inl ⟨by rfl, fun w hSw => ?hy36b⟩) (by assumption) ?rest36b
                          case hy36b =>
                            (try dsimp only at hSw)
                            go_simp
                            try with_reducible rfl
                          try simp only [Act.put, List.setIfInBounds_toArray, List.set_cons_zero, List.set_cons_succ]
                          refine takeL (i := 37) rfl (v := ?v37b) (by kernel_rfl) (by kernel_rfl) (by kernel_rfl) (fun _ _ _ h => h) (Or.inl ⟨by rfl, fun w hSw => ?hy37b⟩) (by assumption) ?rest37b
                          case hy37b =>
                            (try dsimp only at hSw)
                            go_simp
                            try with_reducible rfl
                          try simp only [Act.put, List.setIfInBounds_toArray, List.set_cons_zero, List.set_cons_succ]
                          refine takeL (i := 38) rfl (v := ?v38b) (by kernel_rfl) (by kernel_rfl) (by kernel_rfl) (fun _ _ _ h => h) (Or.inl ⟨by rfl, fun w hSw => ?hy38b⟩) (by assumption) ?rest38b
                          case hy38b =>
                            (try dsimp only at hSw)
                            go_simp
                            try with_reducible rfl
                          try simp only [Act.put, List.setIfInBounds_toArray, List.set_cons_zero, List.set_cons_succ]
                          refine takeL (i := 39) rfl (v := ?v39b) (by kernel_rfl) (by kernel_rfl) (by kernel_rfl) (fun _ _ _ h => h) (Or.inl ⟨by rfl, fun w hSw => ?hy39b⟩) (by assumption) ?rest39b
                          case hy39b =>
                            (try dsimp only at hSw)
                            go_simp
                            try with_reducible rfl
                          try simp only [Act.put, List.setIfInBounds_toArray, List.set_cons_zero, List.set_cons_succ]
                          refine takeL (i := 40) rfl (v := ?v40b) (by kernel_rfl) (by kernel_rfl) (by kernel_rfl) (fun _ _ _ h => h) (Or.inl ⟨by rfl, fun w hSw => ?hy40b⟩) (by assumption) ?rest40b
                          case hy40b =>
                            (try dsimp only at hSw)
                            go_simp
                            try with_reducible rfl
                          try simp only [Act.put, List.setIfInBounds_toArray, List.set_cons_zero, List.set_cons_succ]
                          refine wpAnyH_ready (rs := [41]) (by kernel_rfl) (by simp) (readyL rfl (fun K hK => ?_) AllReadyH.nil)
                          go_simp
                          with_reducible refine (K43.out _).mono ?_
                          rintro e w' ⟨rfl, hb⟩
                          try dsimp only
                          refine hK.out _ _ (stay ‹_› ‹_›) (fun hHeld => ?_)
                          clear hK K
                          try simp only [Act.put, List.setIfInBounds_toArray, List.set_cons_zero, List.set_cons_succ]
                          refine takeL (i := 42) rfl (v := ?v42b) (by kernel_rfl) (by kernel_rfl) (by kernel_rfl) (fun _ _ _ h => h) (Or.inl ⟨by rfl, fun w hSw => ?hy42b⟩) (by assumption) ?rest42b
                          case hy42b =>
                            (try dsimp only at hSw)
                            go_simp
                            try with_reducible rfl
                          try simp only [Act.put, List.setIfInBounds_toArray, List.set_cons_zero, List.set_cons_succ]
                          refine takeL (i := 43) rfl (v := ?v43b) (by kernel_rfl) (by kernel_rfl) (by kernel_rfl) (fun _ _ _ h => h) (Or.inl ⟨by rfl, fun w hSw => ?hy43b⟩) (by assumption) ?rest43b
                          case hy43b =>
                            (try dsimp only at hSw)
                            go_simp
                            try with_reducible rfl
                          try simp only [Act.put, List.setIfInBounds_toArray, List.set_cons_zero, List.set_cons_succ]
                          refine takeL (i := 44) rfl (v := ?v44b) (by kernel_rfl) (by kernel_rfl) (by kernel_rfl) (fun _ _ _ h => h) (Or.inl ⟨by rfl, fun w hSw => ?hy44b⟩) (by assumption) ?rest44b
                          case hy44b =>
                            (try dsimp only at hSw)
                            go_simp
                            try with_reducible rfl
                          try simp only [Act.put, List.setIfInBounds_toArray, List.set_cons_zero, List.set_cons_succ]
                          refine takeL (i := 45) rfl (v := ?v45b) (by kernel_rfl) (by kernel_rfl) (by kernel_rfl) (fun _ _ _ h => h) (Or.inl ⟨by rfl, fun w hSw => ?hy45b⟩) (by assumption) ?rest45b
                          case hy45b =>
                            (try dsimp only at hSw)
                            go_simp
                            try with_reducible rfl
                          try simp only [Act.put, List.setIfInBounds_toArray, List.set_cons_zero, List.set_cons_succ]
                          refine takeL (i := 46) rfl (v := ?v46b) (by kernel_rfl) (by kernel_rfl) (by kernel_rfl) (fun _ _ _ h => h) (Or.inl ⟨by rfl, fun w hSw => ?hy46b⟩) (by assumption) ?rest46b
                          case hy46b =>
                            (try dsimp only at hSw)
                            go_simp
                            try with_reducible rfl
                          try simp only [Act.put, List.setIfInBounds_toArray, List.set_cons_zero, List.set_cons_succ]
                          refine wpAnyH_ready (rs := [47]) (by kernel_rfl) (by simp) (readyL rfl (fun K hK => ?_) AllReadyH.nil)
                          go_simp
                          with_reducible refine (K36.out _ ‹_›).mono ?_
                          rintro e w' ⟨rfl, hb⟩
                          try dsimp only
                          refine hK.out _ _ (stay ‹_› ‹_›) (fun hHeld => ?_)
                          clear hK K
                          try simp only [Act.put, List.setIfInBounds_toArray, List.set_cons_zero, List.set_cons_succ]
                          refine takeL (i := 48) rfl (v := ?v48b) (by kernel_rfl) (by kernel_rfl) (by kernel_rfl) (fun _ _ _ h => h) (Or.inl ⟨by rfl, fun w hSw => ?hy48b⟩) (by assumption) ?rest48b
                          case hy48b =>
                            (try dsimp only at hSw)
                            go_simp
                            try with_reducible rfl
                          try simp only [Act.put, List.setIfInBounds_toArray, List.set_cons_zero, List.set_cons_succ]
                          refine takeL (i := 49) rfl (v := ?v49b) (by kernel_rfl) (by kernel_rfl) (by kernel_rfl) (fun _ _ _ h => h) (Or.inl ⟨by rfl, fun w hSw => ?hy49b⟩) (by assumption) ?rest49b
                          case hy49b =>
                            (try dsimp only at hSw)
                            go_simp
                            try with_reducible rfl
                          try simp only [Act.put, List.setIfInBounds_toArray, List.set_cons_zero, List.set_cons_succ]
                          refine takeL (i := 50) rfl (v := undef) (by kernel_rfl) (by kernel_rfl) (by kernel_rfl) (fun _ _ _ h => h) (Or.inr ⟨by rfl, rfl⟩) (by assumption) ?_
                          try simp only [Act.put, List.setIfInBounds_toArray, List.set_cons_zero, List.set_cons_succ]
                          refine takeL (i := 51) rfl (v := undef) (by kernel_rfl) (by kernel_rfl) (by kernel_rfl) (fun _ _ _ h => h) (Or.inr ⟨by rfl, rfl⟩) (by assumption) ?_
                          try simp only [Act.put, List.setIfInBounds_toArray, List.set_cons_zero, List.set_cons_succ]
                          refine takeL (i := 52) rfl (v := undef) (by kernel_rfl) (by kernel_rfl) (by kernel_rfl) (fun _ _ _ h => h) (Or.inr ⟨by rfl, rfl⟩) (by assumption) ?_
                          try simp only [Act.put, List.setIfInBounds_toArray, List.set_cons_zero, List.set_cons_succ]
                          refine takeL (i := 53) rfl (v := undef) (by kernel_rfl) (by kernel_rfl) (by kernel_rfl) (fun _ _ _ h => h) (Or.inr ⟨by rfl, rfl⟩) (by assumption) ?_
                          try simp only [Act.put, List.setIfInBounds_toArray, List.set_cons_zero, List.set_cons_succ]
                          refine takeL (i := 54) rfl (v := undef) (by kernel_rfl) (by kernel_rfl) (by kernel_rfl) (fun _ _ _ h => h) (Or.inr ⟨by rfl, rfl⟩) (by assumption) ?_
                          try simp only [Act.put, List.setIfInBounds_toArray, List.set_cons_zero, List.set_cons_succ]
                          refine takeL (i := 55) rfl (v := ?v55b) (by kernel_rfl) (by kernel_rfl) (by kernel_rfl) (fun _ _ _ h => h) (Or.inl ⟨by rfl, fun w hSw => ?hy55b⟩) (by assumption) ?rest55b
                          case hy55b =>
                            (try dsimp only at hSw)
                            go_simp
                            try with_reducible rfl
                          try simp only [Act.put, List.setIfInBounds_toArray, List.set_cons_zero, List.set_cons_succ]
                          refine wpAnyH_done (by kernel_rfl) ?_ _
                          go_wp2_with fail
                          go_meet
                          case rel =>
                            have hst := stayEnd (Below.refl wc.heap.size wc) (Nat.le_refl _) ‹_›
                            first | exact ⟨rfl, hst⟩ | ((repeat apply Exists.intro); exact ⟨⟨rfl, hst⟩, rfl⟩)
                        | true =>
                          obtain rfl : m2 = true := by rw [← HM2.out]; exact hU.out rfl t4 HM1.out
                          clear M1 M2 hU
                          go_wp2_with fail
                          refine wp_region_held_drew (S := (fun w' => (∀ b o, b < (wc).heap.size → w'.cell? ⟨b, o, none⟩ = (wc).cell? ⟨b, o, none⟩) ∧ Below (wc).heap.size (wc) w')) (by kernel_rfl) (stay0 _) (fun hHeld => ?_)
                          try dsimp only [List.size_toArray, List.length_cons, List.length_nil]
                          refine takeL (i := 0) rfl (v := ?v0c) (by kernel_rfl) (by kernel_rfl) (by kernel_rfl) (fun _ _ _ h => h) (Or.inl ⟨by rfl, fun w hSw => ?hy0c⟩) (by assumption) ?rest0c
                          case hy0c =>
                            (try dsimp only at hSw)
                            go_simp
                            try with_reducible rfl
                          try simp only [Act.put, List.setIfInBounds_toArray, List.set_cons_zero, List.set_cons_succ]
                          refine takeL (i := 1) rfl (v := ?v1c) (by kernel_rfl) (by kernel_rfl) (by kernel_rfl) (fun _ _ _ h => h) (Or.inl ⟨by rfl, fun w hSw => ?hy1c⟩) (by assumption) ?rest1c
                          case hy1c =>
                            (try dsimp only at hSw)
                            go_simp
                            try with_reducible rfl
                          try simp only [Act.put, List.setIfInBounds_toArray, List.set_cons_zero, List.set_cons_succ]
                          refine takeL (i := 2) rfl (v := ?v2c) (by kernel_rfl) (by kernel_rfl) (by kernel_rfl) (fun _ _ _ h => h) (Or.inl ⟨by rfl, fun w hSw => ?hy2c⟩) (by assumption) ?rest2c
                          case hy2c =>
                            (try dsimp only at hSw)
                            go_simp
                            try with_reducible rfl
                          try simp only [Act.put, List.setIfInBounds_toArray, List.set_cons_zero, List.set_cons_succ]
                          refine takeL (i := 3) rfl (v := ?v3c) (by kernel_rfl) (by kernel_rfl) (by kernel_rfl) (fun _ _ _ h => h) (Or.inl ⟨by rfl, fun w hSw => ?hy3c⟩) (by assumption) ?rest3c
                          case hy3c =>
                            (try dsimp only at hSw)
                            go_simp
                            try with_reducible rfl
                          try simp only [Act.put, List.setIfInBounds_toArray, List.set_cons_zero, List.set_cons_succ]
                          refine takeL (i := 4) rfl (v := ?v4c) (by kernel_rfl) (by kernel_rfl) (by kernel_rfl) (fun _ _ _ h => h) (Or.inl ⟨by rfl, fun w hSw => ?hy4c⟩) (by assumption) ?rest4c
                          case hy4c =>
                            (try dsimp only at hSw)
                            go_simp
                            try with_reducible rfl
                          try simp only [Act.put, List.setIfInBounds_toArray, List.set_cons_zero, List.set_cons_succ]
                          refine takeL (i := 5) rfl (v := ?v5c) (by kernel_rfl) (by kernel_rfl) (by kernel_rfl) (fun _ _ _ h => h) (Or.inl ⟨by rfl, fun w hSw => ?hy5c⟩) (by assumption) ?rest5c
                          case hy5c =>
                            (try dsimp only at hSw)
                            go_simp
                            try with_reducible rfl
                          try simp only [Act.put, List.setIfInBounds_toArray, List.set_cons_zero, List.set_cons_succ]
                          refine takeL (i := 6) rfl (v := ?v6c) (by kernel_rfl) (by kernel_rfl) (by kernel_rfl) (fun _ _ _ h => h) (Or.inl ⟨by rfl, fun w hSw => ?hy6c⟩) (by assumption) ?rest6c
                          case hy6c =>
                            (try dsimp only at hSw)
                            go_simp
                            try with_reducible rfl
                          try simp only [Act.put, List.setIfInBounds_toArray, List.set_cons_zero, List.set_cons_succ]
                          refine takeL (i := 7) rfl (v := ?v7c) (by kernel_rfl) (by kernel_rfl) (by kernel_rfl) (fun _ _ _ h => h) (Or.inl ⟨by rfl, fun w hSw => ?hy7c⟩) (by assumption) ?rest7c
                          case hy7c =>
                            (try dsimp only at hSw)
                            go_simp
                            try with_reducible rfl
                          try simp only [Act.put, List.setIfInBounds_toArray, List.set_cons_zero, List.set_cons_succ]
                          refine takeL (i := 8) rfl (v := ?v8c) (by kernel_rfl) (by kernel_rfl) (by kernel_rfl) (fun _ _ _ h => h) (Or.inl ⟨by rfl, fun w hSw => ?hy8c⟩) (by assumption) ?rest8c
                          case hy8c =>
                            (try dsimp only at hSw)
                            go_simp
                            try with_reducible rfl
                          try simp only [Act.put, List.setIfInBounds_toArray, List.set_cons_zero, List.set_cons_succ]
                          refine takeL (i := 9) rfl (v := ?v9c) (by kernel_rfl) (by kernel_rfl) (by kernel_rfl) (fun _ _ _ h => h) (Or.inl ⟨by rfl, fun w hSw => ?hy9c⟩) (by assumption) ?rest9c
                          case hy9c =>
                            (try dsimp only at hSw)
                            go_simp
                            try with_reducible rfl
                          try simp only [Act.put, List.setIfInBounds_toArray, List.set_cons_zero, List.set_cons_succ]
                          refine takeL (i := 10) rfl (v := ?v10c) (by kernel_rfl) (by kernel_rfl) (by kernel_rfl) (fun _ _ _ h => h) (Or.inl ⟨by rfl, fun w hSw => ?hy10c⟩) (by assumption) ?rest10c
                          case hy10c =>
                            (try dsimp only at hSw)
                            go_simp
                            try with_reducible rfl
                          try simp only [Act.put, List.setIfInBounds_toArray, List.set_cons_zero, List.set_cons_succ]
                          refine takeL (i := 11) rfl (v := ?v11c) (by kernel_rfl) (by kernel_rfl) (by kernel_rfl) (fun _ _ _ h => h) (Or.inl ⟨by rfl, fun w hSw => ?hy11c⟩) (by assumption) ?rest11c
                          case hy11c =>
                            (try dsimp only at hSw)
                            go_simp
                            try with_reducible rfl
                          try simp only [Act.put, List.setIfInBounds_toArray, List.set_cons_zero, List.set_cons_succ]
                          refine takeL (i := 12) rfl (v := ?v12c) (by kernel_rfl) (by kernel_rfl) (by kernel_rfl) (fun _ _ _ h => h) (Or.inl ⟨by rfl, fun w hSw => ?hy12c⟩) (by assumption) ?rest12c
                          case hy12c =>
                            (try dsimp only at hSw)
                            go_simp
                            try with_reducible rfl
                          try simp only [Act.put, List.setIfInBounds_toArray, List.set_cons_zero, List.set_cons_succ]
                          refine takeL (i := 13) rfl (v := ?v13c) (by kernel_rfl) (by kernel_rfl) (by kernel_rfl) (fun _ _ _ h => h) (Or.inl ⟨by rfl, fun w hSw => ?hy13c⟩) (by assumption) ?rest13c
                          case hy13c =>
                            (try dsimp only at hSw)
                            go_simp
                            try with_reducible rfl
                          try simp only [Act.put, List.setIfInBounds_toArray, List.set_cons_zero, List.set_cons_succ]
                          refine takeL (i := 14) rfl (v := ?v14c) (by kernel_rfl) (by kernel_rfl) (by kernel_rfl) (fun _ _ _ h => h) (Or.inl ⟨by rfl, fun w hSw => ?hy14c⟩) (by assumption) ?rest14c
                          case hy14c =>
                            (try dsimp only at hSw)
                            go_simp
                            try with_reducible rfl
                          try simp only [Act.put, List.setIfInBounds_toArray, List.set_cons_zero, List.set_cons_succ]
                          refine takeL (i := 15) rfl (v := ?v15c) (by kernel_rfl) (by kernel_rfl) (by kernel_rfl) (fun _ _ _ h => h) (Or.inl ⟨by rfl, fun w hSw => ?hy15c⟩) (by assumption) ?rest15c
                          case hy15c =>
                            (try dsimp only at hSw)
                            go_simp
                            try with_reducible rfl
                          try simp only [Act.put, List.setIfInBounds_toArray, List.set_cons_zero, List.set_cons_succ]
                          refine takeL (i := 16) rfl (v := ?v16c) (by kernel_rfl) (by kernel_rfl) (by kernel_rfl) (fun _ _ _ h => h) (Or.inl ⟨by rfl, fun w hSw => ?hy16c⟩) (by assumption) ?rest16c
                          case hy16c =>
                            (try dsimp only at hSw)
                            go_simp
                            try with_reducible rfl
                          try simp only [Act.put, List.setIfInBounds_toArray, List.set_cons_zero, List.set_cons_succ]
                          refine takeL (i := 17) rfl (v := ?v17c) (by kernel_rfl) (by kernel_rfl) (by kernel_rfl) (fun _ _ _ h => h) (Or.inl ⟨by rfl, fun w hSw => ?hy17c⟩) (by assumption) ?rest17c
                          case hy17c =>
                            (try dsimp only at hSw)
                            go_simp
                            try with_reducible rfl
                          try simp only [Act.put, List.setIfInBounds_toArray, List.set_cons_zero, List.set_cons_succ]
                          refine takeL (i := 18) rfl (v := ?v18c) (by kernel_rfl) (by kernel_rfl) (by kernel_rfl) (fun _ _ _ h => h) (Or.inl ⟨by rfl, fun w hSw => ?hy18c⟩) (by assumption) ?rest18c
                          case hy18c =>
                            (try dsimp only at hSw)
                            go_simp
                            try with_reducible rfl
                          try simp only [Act.put, List.setIfInBounds_toArray, List.set_cons_zero, List.set_cons_succ]
                          refine takeL (i := 19) rfl (v := ?v19c) (by kernel_rfl) (by kernel_rfl) (by kernel_rfl) (fun _ _ _ h => h) (Or.inl ⟨by rfl, fun w hSw => ?hy19c⟩) (by assumption) ?rest19c
                          case hy19c =>
                            (try dsimp only at hSw)
                            go_simp
                            try with_reducible rfl
                          try simp only [Act.put, List.setIfInBounds_toArray, List.set_cons_zero, List.set_cons_succ]
                          refine takeL (i := 20) rfl (v := ?v20c) (by kernel_rfl) (by kernel_rfl) (by kernel_rfl) (fun _ _ _ h => h) (Or.inl ⟨by rfl, fun w hSw => ?hy20c⟩) (by assumption) ?rest20c
                          case hy20c =>
                            (try dsimp only at hSw)
                            go_simp
                            try with_reducible rfl
                          try simp only [Act.put, List.setIfInBounds_toArray, List.set_cons_zero, List.set_cons_succ]
                          refine takeL (i := 21) rfl (v := ?v21c) (by kernel_rfl) (by kernel_rfl) (by kernel_rfl) (fun _ _ _ h => h) (Or.inl ⟨by rfl, fun w hSw => ?hy21c⟩) (by assumption) ?rest21c
                          case hy21c =>
                            (try dsimp only at hSw)
                            go_simp
                            try with_reducible rfl
                          try simp only [Act.put, List.setIfInBounds_toArray, List.set_cons_zero, List.set_cons_succ]
                          refine takeL (i := 22) rfl (v := ?v22c) (by kernel_rfl) (by kernel_rfl) (by kernel_rfl) (fun _ _ _ h => h) (Or.inl ⟨by rfl, fun w hSw => ?hy22c⟩) (by assumption) ?rest22c
                          case hy22c =>
                            (try dsimp only at hSw)
                            go_simp
                            try with_reducible rfl
                          try simp only [Act.put, List.setIfInBounds_toArray, List.set_cons_zero, List.set_cons_succ]
                          refine takeL (i := 23) rfl (v := ?v23c) (by kernel_rfl) (by kernel_rfl) (by kernel_rfl) (fun _ _ _ h => h) (Or.inl ⟨by rfl, fun w hSw => ?hy23c⟩) (by assumption) ?rest23c
                          case hy23c =>
                            (try dsimp only at hSw)
                            go_simp
                            try with_reducible rfl
                          try simp only [Act.put, List.setIfInBounds_toArray, List.set_cons_zero, List.set_cons_succ]
                          refine takeL (i := 24) rfl (v := ?v24c) (by kernel_rfl) (by kernel_rfl) (by kernel_rfl) (fun _ _ _ h => h) (Or.inl ⟨by rfl, fun w hSw => ?hy24c⟩) (by assumption) ?rest24c
                          case hy24c =>
                            (try dsimp only at hSw)
                            go_simp
                            try with_reducible rfl
                          try simp only [Act.put, List.setIfInBounds_toArray, List.set_cons_zero, List.set_cons_succ]
                          refine takeL (i := 25) rfl (v := ?v25c) (by kernel_rfl) (by kernel_rfl) (by kernel_rfl) (fun _ _ _ h => h) (Or.inl ⟨by rfl, fun w hSw => ?hy25c⟩) (by assumption) ?rest25c
                          case hy25c =>
                            (try dsimp only at hSw)
                            go_simp
                            try with_reducible rfl
                          try simp only [Act.put, List.setIfInBounds_toArray, List.set_cons_zero, List.set_cons_succ]
                          refine takeL (i := 26) rfl (v := ?v26c) (by kernel_rfl) (by kernel_rfl) (by kernel_rfl) (fun _ _ _ h => h) (Or.inl ⟨by rfl, fun w hSw => ?hy26c⟩) (by assumption) ?rest26c
                          case hy26c =>
                            (try dsimp only at hSw)
                            go_simp
                            try with_reducible rfl
                          try simp only [Act.put, List.setIfInBounds_toArray, List.set_cons_zero, List.set_cons_succ]
                          refine takeL (i := 27) rfl (v := ?v27c) (by kernel_rfl) (by kernel_rfl) (by kernel_rfl) (fun _ _ _ h => h) (Or.inl ⟨by rfl, fun w hSw => ?hy27c⟩) (by assumption) ?rest27c
                          case hy27c =>
                            (try dsimp only at hSw)
                            go_simp
                            try with_reducible rfl
                          try simp only [Act.put, List.setIfInBounds_toArray, List.set_cons_zero, List.set_cons_succ]
                          refine takeL (i := 28) rfl (v := ?v28c) (by kernel_rfl) (by kernel_rfl) (by kernel_rfl) (fun _ _ _ h => h) (Or.inl ⟨by rfl, fun w hSw => ?hy28c⟩) (by assumption) ?rest28c
                          case hy28c =>
                            (try dsimp only at hSw)
                            go_simp
                            try with_reducible rfl
                          try simp only [Act.put, List.setIfInBounds_toArray, List.set_cons_zero, List.set_cons_succ]
                          refine takeL (i := 29) rfl (v := ?v29c) (by kernel_rfl) (by kernel_rfl) (by kernel_rfl) (fun _ _ _ h => h) (Or.inl ⟨by rfl, fun w hSw => ?hy29c⟩) (by assumption) ?rest29c
                          case hy29c =>
                            (try dsimp only at hSw)
                            go_simp
                            try with_reducible rfl
                          try simp only [Act.put, List.setIfInBounds_toArray, List.set_cons_zero, List.set_cons_succ]
                          refine takeL (i := 30) rfl (v := ?v30c) (by kernel_rfl) (by kernel_rfl) (by kernel_rfl) (fun _ _ _ h => h) (Or.inl ⟨by rfl, fun w hSw => ?hy30c⟩) (by assumption) ?rest30c
                          case hy30c =>
                            (try dsimp only at hSw)
                            go_simp
                            try with_reducible rfl
                          try simp only [Act.put, List.setIfInBounds_toArray, List.set_cons_zero, List.set_cons_succ]
                          refine takeL (i := 31) rfl (v := ?v31c) (by kernel_rfl) (by kernel_rfl) (by kernel_rfl) (fun _ _ _ h => h) (Or.inl ⟨by rfl, fun w hSw => ?hy31c⟩) (by assumption) ?rest31c
                          case hy31c =>
                            (try dsimp only at hSw)
                            go_simp
                            try with_reducible rfl
                          try simp only [Act.put, List.setIfInBounds_toArray, List.set_cons_zero, List.set_cons_succ]
                          refine takeL (i := 32) rfl (v := ?v32c) (by kernel_rfl) (by kernel_rfl) (by kernel_rfl) (fun _ _ _ h => h) (Or.inl ⟨by rfl, fun w hSw => ?hy32c⟩) (by assumption) ?rest32c
                          case hy32c =>
                            (try dsimp only at hSw)
                            go_simp
                            try with_reducible rfl
                          try simp only [Act.put, List.setIfInBounds_toArray, List.set_cons_zero, List.set_cons_succ]
                          refine takeL (i := 33) rfl (v := ?v33c) (by kernel_rfl) (by kernel_rfl) (by kernel_rfl) (fun _ _ _ h => h) (Or.inl ⟨by rfl, fun w hSw => ?hy33c⟩) (by assumption) ?rest33c
                          case hy33c =>
                            (try dsimp only at hSw)
                            go_simp
                            try with_reducible rfl
                          try simp only [Act.put, List.setIfInBounds_toArray, List.set_cons_zero, List.set_cons_succ]
                          refine takeL (i := 34) rfl (v := ?v34c) (by kernel_rfl) (by kernel_rfl) (by kernel_rfl) (fun _ _ _ h => h) (Or.inl ⟨by rfl, fun w hSw => ?hy34c⟩) (by assumption) ?rest34c
                          case hy34c =>
                            (try dsimp only at hSw)
                            go_simp
                            try with_reducible rfl
                          try simp only [Act.put, List.setIfInBounds_toArray, List.set_cons_zero, List.set_cons_succ]
                          refine takeL (i := 35) rfl (v := ?v35c) (by kernel_rfl) (by kernel_rfl) (by kernel_rfl) (fun _ _ _ h => h) (Or.inl ⟨by rfl, fun w hSw => ?hy35c⟩) (by assumption) ?rest35c
                          case hy35c =>
                            (try dsimp only at hSw)
                            go_simp
                            try with_reducible rfl
                          try simp only [Act.put, List.setIfInBounds_toArray, List.set_cons_zero, List.set_cons_succ]
                          refine takeL (i := 36) rfl (v := ?v36c) (by kernel_rfl) (by kernel_rfl) (by kernel_rfl) (fun _ _ _ h => h) (Or.inl ⟨by rfl, fun w hSw => ?hy36c⟩) (by assumption) ?rest36c
                          case hy36c =>
                            (try dsimp only at hSw)
                            go_simp
                            try with_reducible rfl
                          try simp only [Act.put, List.setIfInBounds_toArray, List.set_cons_zero, List.set_cons_succ]
                          refine takeL (i := 37) rfl (v := ?v37c) (by kernel_rfl) (by kernel_rfl) (by kernel_rfl) (fun _ _ _ h => h) (Or.inl ⟨by rfl, fun w hSw => ?hy37c⟩) (by assumption) ?rest37c
                          case hy37c =>
                            (try dsimp only at hSw)
                            go_simp
                            try with_reducible rfl
                          try simp only [Act.put, List.setIfInBounds_toArray, List.set_cons_zero, List.set_cons_succ]
                          refine takeL (i := 38) rfl (v := ?v38c) (by kernel_rfl) (by kernel_rfl) (by kernel_rfl) (fun _ _ _ h => h) (Or.inl ⟨by rfl, fun w hSw => ?hy38c⟩) (by assumption) ?rest38c
                          case hy38c =>
                            (try dsimp only at hSw)
                            go_simp
                            try with_reducible rfl
                          try simp only [Act.put, List.setIfInBounds_toArray, List.set_cons_zero, List.set_cons_succ]
                          refine takeL (i := 39) rfl (v := ?v39c) (by kernel_rfl) (by kernel_rfl) (by kernel_rfl) (fun _ _ _ h => h) (Or.inl ⟨by rfl, fun w hSw => ?hy39c⟩) (by assumption) ?rest39c
                          case hy39c =>
                            (try dsimp only at hSw)
                            go_simp
                            try with_reducible rfl
                          try simp only [Act.put, List.setIfInBounds_toArray, List.set_cons_zero, List.set_cons_succ]
                          refine takeL (i := 40) rfl (v := ?v40c) (by kernel_rfl) (by kernel_rfl) (by kernel_rfl) (fun _ _ _ h => h) (Or.inl ⟨by rfl, fun w hSw => ?hy40c⟩) (by assumption) ?rest40c
                          case hy40c =>
                            (try dsimp only at hSw)
                            go_simp
                            try with_reducible rfl
                          try simp only [Act.put, List.setIfInBounds_toArray, List.set_cons_zero, List.set_cons_succ]
                          refine wpAnyH_ready (rs := [41]) (by kernel_rfl) (by simp) (readyL rfl (fun K hK => ?_) AllReadyH.nil)
                          go_simp
                          with_reducible refine (K43.out _).mono ?_
                          rintro e w' ⟨rfl, hb⟩
                          try dsimp only
                          refine hK.out _ _ (stay ‹_› ‹_›) (fun hHeld => ?_)
                          clear hK K
                          try simp only [Act.put, List.setIfInBounds_toArray, List.set_cons_zero, List.set_cons_succ]
                          refine takeL (i := 42) rfl (v := ?v42c) (by kernel_rfl) (by kernel_rfl) (by kernel_rfl) (fun _ _ _ h => h) (Or.inl ⟨by rfl, fun w hSw => ?hy42c⟩) (by assumption) ?rest42c
                          case hy42c =>
                            (try dsimp only at hSw)
                            go_simp
                            try with_reducible rfl
                          try simp only [Act.put, List.setIfInBounds_toArray, List.set_cons_zero, List.set_cons_succ]
                          refine takeL (i := 43) rfl (v := ?v43c) (by kernel_rfl) (by kernel_rfl) (by kernel_rfl) (fun _ _ _ h => h) (Or.inl ⟨by rfl, fun w hSw => ?hy43c⟩) (by assumption) ?rest43c
                          case hy43c =>
                            (try dsimp only at hSw)
                            go_simp
                            try with_reducible rfl
                          try simp only [Act.put, List.setIfInBounds_toArray, List.set_cons_zero, List.set_cons_succ]
                          refine takeL (i := 44) rfl (v := ?v44c) (by kernel_rfl) (by kernel_rfl) (by kernel_rfl) (fun _ _ _ h => h) (Or.inl ⟨by rfl, fun w hSw => ?hy44c⟩) (by assumption) ?rest44c
                          case hy44c =>
                            (try dsimp only at hSw)
                            go_simp
                            try with_reducible rfl
                          try simp only [Act.put, List.setIfInBounds_toArray, List.set_cons_zero, List.set_cons_succ]
                          refine takeL (i := 45) rfl (v := ?v45c) (by kernel_rfl) (by kernel_rfl) (by kernel_rfl) (fun _ _ _ h => h) (Or.inl ⟨by rfl, fun w hSw => ?hy45c⟩) (by assumption) ?rest45c
                          case hy45c =>
                            (try dsimp only at hSw)
                            go_simp
                            try with_reducible rfl
                          try simp only [Act.put, List.setIfInBounds_toArray, List.set_cons_zero, List.set_cons_succ]
                          refine takeL (i := 46) rfl (v := ?v46c) (by kernel_rfl) (by kernel_rfl) (by kernel_rfl) (fun _ _ _ h => h) (Or.inl ⟨by rfl, fun w hSw => ?hy46c⟩) (by assumption) ?rest46c
                          case hy46c =>
                            (try dsimp only at hSw)
                            go_simp
                            try with_reducible rfl
                          try simp only [Act.put, List.setIfInBounds_toArray, List.set_cons_zero, List.set_cons_succ]
                          refine wpAnyH_ready (rs := [47]) (by kernel_rfl) (by simp) (readyL rfl (fun K hK => ?_) AllReadyH.nil)
                          go_simp
                          with_reducible refine (K36.out _ ‹_›).mono ?_
                          rintro e w' ⟨rfl, hb⟩
                          try dsimp only
                          refine hK.out _ _ (stay ‹_› ‹_›) (fun hHeld => ?_)
                          clear hK K
                          try simp only [Act.put, List.setIfInBounds_toArray, List.set_cons_zero, List.set_cons_succ]
                          refine takeL (i := 48) rfl (v := ?v48c) (by kernel_rfl) (by kernel_rfl) (by kernel_rfl) (fun _ _ _ h => h) (Or.inl ⟨by rfl, fun w hSw => ?hy48c⟩) (by assumption) ?rest48c
                          case hy48c =>
                            (try dsimp only at hSw)
                            go_simp
                            try with_reducible rfl
                          try simp only [Act.put, List.setIfInBounds_toArray, List.set_cons_zero, List.set_cons_succ]
                          refine takeL (i := 49) rfl (v := ?v49c) (by kernel_rfl) (by kernel_rfl) (by kernel_rfl) (fun _ _ _ h => h) (Or.inl ⟨by rfl, fun w hSw => ?hy49c⟩) (by assumption) ?rest49c
                          case hy49c =>
                            (try dsimp only at hSw)
                            go_simp
                            try with_reducible rfl
                          try simp only [Act.put, List.setIfInBounds_toArray, List.set_cons_zero, List.set_cons_succ]
                          refine takeL (i := 50) rfl (v := ?v50c) (by kernel_rfl) (by kernel_rfl) (by kernel_rfl) (fun _ _ _ h => h) (Or.inl ⟨by rfl, fun w hSw => ?hy50c⟩) (by assumption) ?rest50c
                          case hy50c =>
                            (try dsimp only at hSw)
                            go_simp
                            try with_reducible rfl
                          try simp only [Act.put, List.setIfInBounds_toArray, List.set_cons_zero, List.set_cons_succ]
                          refine takeL (i := 51) rfl (v := ?v51c) (by kernel_rfl) (by kernel_rfl) (by kernel_rfl) (fun _ _ _ h => h) (Or.inl ⟨by rfl, fun w hSw => ?hy51c⟩) (by assumption) ?rest51c
                          case hy51c =>
                            (try dsimp only at hSw)
                            go_simp
                            try with_reducible rfl
                          try simp only [Act.put, List.setIfInBounds_toArray, List.set_cons_zero, List.set_cons_succ]
                          refine takeL (i := 52) rfl (v := ?v52c) (by kernel_rfl) (by kernel_rfl) (by kernel_rfl) (fun _ _ _ h => h) (Or.inl ⟨by rfl, fun w hSw => ?hy52c⟩) (by assumption) ?rest52c
                          case hy52c =>
                            (try dsimp only at hSw)
                            go_simp
                            try with_reducible rfl
                          try simp only [Act.put, List.setIfInBounds_toArray, List.set_cons_zero, List.set_cons_succ]
                          refine wpAnyH_ready (rs := [53]) (by kernel_rfl) (by simp) (readyL rfl (fun K hK => ?_) AllReadyH.nil)
                          go_simp
                          with_reducible refine (K37.out _ ‹_›).mono ?_
                          rintro e w' ⟨rfl, hb⟩
                          try dsimp only
                          refine hK.out _ _ (stay ‹_› ‹_›) (fun hHeld => ?_)
                          clear hK K
                          try simp only [Act.put, List.setIfInBounds_toArray, List.set_cons_zero, List.set_cons_succ]
                          refine takeL (i := 54) rfl (v := ?v54c) (by kernel_rfl) (by kernel_rfl) (by kernel_rfl) (fun _ _ _ h => h) (Or.inl ⟨by rfl, fun w hSw => ?hy54c⟩) (by assumption) ?rest54c
                          case hy54c =>
                            (try dsimp only at hSw)
                            go_simp
                            try with_reducible rfl
                          try simp only [Act.put, List.setIfInBounds_toArray, List.set_cons_zero, List.set_cons_succ]
                          refine takeL (i := 55) rfl (v := ?v55c) (by kernel_rfl) (by kernel_rfl) (by kernel_rfl) (fun _ _ _ h => h) (Or.inl ⟨by rfl, fun w hSw => ?hy55c⟩) (by assumption) ?rest55c
                          case hy55c =>
                            (try dsimp only at hSw)
                            go_simp
                            try with_reducible rfl
                          try simp only [Act.put, List.setIfInBounds_toArray, List.set_cons_zero, List.set_cons_succ]
                          refine wpAnyH_done (by kernel_rfl) ?_ _
                          go_wp2_with fail
                          go_meet
                          case rel =>
                            have hst := stayEnd (Below.refl wc.heap.size wc) (Nat.le_refl _) ‹_›
                            first | exact ⟨rfl, hst⟩ | ((repeat apply Exists.intro); exact ⟨⟨rfl, hst⟩, rfl⟩)
            case rest =>
              clear M1 M2 U2
              obtain ⟨rfl, hbd⟩ := hcut
              have e0 := (hbd.cell (p := ⟨B1, 0, none⟩) cz).trans c0
              have e1 := (hbd.cell (p := ⟨B1, 1, none⟩) cz).trans c1
              have ez := Nat.lt_of_lt_of_le cz hbd.size
              have HN6 := Lib.hid (HN5.out.trans (hbd.mono HN5.out.size))
              clear c0 c1 cz hbd
              have hf := rosFind _ ls ps a1 x1 wc (HR.out.below HN6.out) (by omega)
              rw [HF.out] at hf
              go_wp2_with fail
              refine hf.mono ?_
              rintro e w7 ⟨rfl, hb7⟩
              clear hf
              go_wp2
              go_roundw
              case rel =>
                have h1 := HN6.out.trans (hb7.mono HN6.out.size)
                first | exact ⟨k + 1, by omega, by go_num, h1⟩ | ((repeat apply Exists.intro); exact ⟨⟨k + 1, by omega, by go_num, h1⟩, rfl⟩)
              case measure => simp [intOf] <;> omega
        · obtain rfl : ls.length = k := by omega
          go_wp2
          go_ret
          exact ⟨rfl, HB.out.trans (HN.out.mono HB.out.size)⟩
  · have hcb : (newC ls ps == 0) = false := by simpa using hc0
    generalize newC ls ps = c at hc0 hcb ⊢
    go_wp2_with fail
    refine (awake02 _).mono ?_
    rintro e w3 ⟨rfl, hb⟩
    go_wp2
    go_ret
    exact ⟨by simp, HB.out.trans (hb.mono HB.out.size)⟩

set_option maxRecDepth 100000 in
theorem rosterFlows_lifted (os : Os) (started : os.Started) (H : Type) (enc : TypeId × Value → H) :
    ReturnsInHanded {} Try.checked os 8 .any (Rows.rosterFlowsSpec.pre6 enc Try.prog Try.f8 Rows.rosterFlowsRow.domain false) (Rows.rosterFlowsSpec.post enc Try.prog Try.f8 false true false false) := by
  refine law_lift started Try.func8 (by kernel_rfl) (by kernel_rfl) rfl (by kernel_rfl) ?_
    (ChangeSpec.witness6 (enc := enc) (C := Try.checked) false ⟨#[], #[.slice none 0 0, .slice none 0 0, .int .i64 0, .int .i64 0, .int .i64 0], []⟩ 8 (by kernel_rfl) (by kernel_rfl) (by kernel_rfl) (by kernel_rfl)) ?_
  · intro ds hd
    rw [Try.params8] at hd
    match ds, hd with
    | [d0, d1, d2, d3, d4], _ => rfl
  · intro W base args ds ps hval hA
    rw [Try.params8] at hA hval
    obtain ⟨v0, vs0, d0, ds0, p0, q0, hargs, rfl, rfl, h0, r0⟩ := trodAll_cons hA
    obtain ⟨v1, vs1, d1, ds1, p1, q1, rfl, rfl, rfl, h1, r1⟩ := trodAll_cons r0
    obtain ⟨v2, vs2, d2, ds2, p2, q2, rfl, rfl, rfl, h2, r2⟩ := trodAll_cons r1
    obtain ⟨v3, vs3, d3, ds3, p3, q3, rfl, rfl, rfl, h3, r3⟩ := trodAll_cons r2
    obtain ⟨v4, vs4, d4, ds4, p4, q4, rfl, rfl, rfl, h4, r4⟩ := trodAll_cons r3
    obtain ⟨rfl, rfl, rfl⟩ := trodAll_nil r4
    obtain rfl : args = #[v0, v1, v2, v3, v4] := by cases args; simp_all
    obtain ⟨s0, n0, k0, rfl⟩ := okWide_slice Try.underlying44 (hval 0 44 v0 rfl rfl)
    obtain ⟨s1, n1, k1, rfl⟩ := okWide_slice Try.underlying45 (hval 1 45 v1 rfl rfl)
    obtain ⟨ls, hL, ho, hml⟩ := open_structs (encA := encL) (ok := fun l : Lbl => l.2 < 65536) (k := 2) (by decide) (fun _ => rfl) Try.underlying44 (by kernel_rfl) (fun n cs y h => lbl_of h) rfl h0
    obtain ⟨ps, hP, hop, hmp⟩ := open_structs (encA := encP) (ok := fun p : Psn => p.2.2 < 65536) (k := 3) (by decide) (fun _ => rfl) Try.underlying45 (by kernel_rfl) (fun n cs y h => psn_of h) rfl h1
    obtain ⟨a2, rfl, _, _, w2⟩ := open_int Try.underlying3 (hval 2 3 v2 rfl rfl) h2
    obtain ⟨a3, rfl, _, _, w3⟩ := open_int Try.underlying3 (hval 3 3 v3 rfl rfl) h3
    obtain ⟨a4, rfl, _, _, w4⟩ := open_int Try.underlying3 (hval 4 3 v4 rfl rfl) h4
    exact rosterFlows_walk _ _ ls ps _ _ _ _ hL hP hml hmp ho hop

theorem rosterFlows_holds : Rows.RosterFlowsSaid :=
  OpenClaim.holds_of_wide 8 Try.f8 rfl rfl rfl rfl rfl rfl rfl ⟨rfl, rfl, rfl, rfl, rfl⟩ rfl rfl rfl rfl rfl (by kernel_rfl) Try.func8 (by kernel_rfl)
    (of_decide_eq_true (by kernel_rfl)) (by unfold Func.isWrapper; first | (rw [if_pos (by decide +kernel)]; kernel_rfl) | (rw [if_neg (by decide +kernel)]; exact ⟨rfl, rfl⟩))
    (fun os started H enc _ => rosterFlows_lifted os started H enc)
end Go.Proofs.Ytpkmgdpnimecfaa

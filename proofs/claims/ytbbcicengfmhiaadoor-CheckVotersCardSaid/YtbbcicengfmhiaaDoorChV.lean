/- CheckVoters: the voters are the document's; for a label above there are no fewer. Every input. -/
import Derived.Test.YtbbcicengfmhiaaDoorRoz
import Derived.Test.YtbbcicengfmhiaaDoorAwk10
import Derived.Test.YtbbcicengfmhiaaDoorFrameE
import Derived.Test.YtbbcicengfmhiaaDoorRosO
namespace Go.Proofs.YtbbcicengfmhiaaDoor
set_option maxRecDepth 100000
open Go.ChangeShapes Go.WideShapes Go.ChangeAt Go.RowKit Go.Deep Go.Joins

/-- what lies about there -/
def VwAt (w : World) (vl vp : Value) (ls : List Lbl) (ps : List Psn) (a b : Int) (x y : Nat) (W : World) : Prop :=
  Below w.heap.size w W ∧ MetE W ∧ SlAt 2 encL W vl ls ∧ SlAt 3 encP W vp ps ∧ w.heap.size + 1 < W.heap.size ∧ (W.cell? ⟨w.heap.size, 0, none⟩ = some (.int .i64 a) ∧ W.cell? ⟨w.heap.size, 1, none⟩ = some (.int .u16 (x : Int))) ∧
  (W.cell? ⟨w.heap.size + 1, 0, none⟩ = some (.int .i64 b) ∧ W.cell? ⟨w.heap.size + 1, 1, none⟩ = some (.int .u16 (y : Int)))
theorem VwAt.next {w W W' : World} {vl vp : Value} {ls : List Lbl} {ps : List Psn} {a b : Int} {x y : Nat} (h : VwAt w vl vp ls ps a b x y W) (hb : Below W.heap.size W W') : VwAt w vl vp ls ps a b x y W' := by
  obtain ⟨h1, h2, h3, h4, hz, ⟨g0, g1⟩, g2, g3⟩ := h
  have hs := hb.size
  exact ⟨h1.trans (hb.mono h1.size), h2.below hb, h3.below hb, h4.below hb, by omega, ⟨(hb.cell (p := ⟨w.heap.size, 0, none⟩) (show w.heap.size < W.heap.size by omega)).trans g0, (hb.cell (p := ⟨w.heap.size, 1, none⟩) (show w.heap.size < W.heap.size by omega)).trans g1⟩,
    (hb.cell (p := ⟨w.heap.size + 1, 0, none⟩) (show w.heap.size + 1 < W.heap.size by omega)).trans g2, (hb.cell (p := ⟨w.heap.size + 1, 1, none⟩) (show w.heap.size + 1 < W.heap.size by omega)).trans g3⟩
theorem VwAt.mk {w : World} {vl vp : Value} {ls : List Lbl} {ps : List Psn} {a b : Int} {x y : Nat} (hL : SlAt 2 encL w vl ls) (hP : SlAt 3 encP w vp ps) (hM : MetE w) : VwAt w vl vp ls ps a b x y ((w.alloc (.cells #[.int .i64 a, .int .u16 (x : Int)] 41)).alloc (.cells #[.int .i64 b, .int .u16 (y : Int)] 41)) := by
  have hb0 := below2 w (.cells #[.int .i64 a, .int .u16 (x : Int)] 41) (.cells #[.int .i64 b, .int .u16 (y : Int)] 41)
  exact ⟨hb0, hM.below hb0, hL.below hb0, hP.below hb0, by simp, ⟨by go_simp, by go_simp⟩, by go_simp, by go_simp⟩

set_option maxHeartbeats 16000000 in
theorem checkVoters_walk (vl vp : Value) (ls : List Lbl) (ps : List Psn) (part a b : Int) (x y : Nat) (w : World) (hL : SlAt 2 encL w vl ls) (hP : SlAt 3 encP w vp ps) (hml : ls.length ≤ maxLen) (hmp : ps.length ≤ maxLen) (ho : okL ls) (hop : okP ps) (hx : x < 65536) (hy : y < 65536) (hM : MetE w) :
    Calls Tryd.prog 4 #[vl, vp, .int .i64 part, (.agg #[.int .i64 (a), .int .u16 ((x : Nat) : Int)]), (.agg #[.int .i64 (b), .int .u16 ((y : Nat) : Int)])] w fun e w' => e = .returned (.bool true) ∧ Below w.heap.size w w' := by
  unfold maxLen at hml hmp
  have HV := Lib.hid (VwAt.mk (a := a) (b := b) (x := x) (y := y) hL hP hM)
  obtain ⟨pl, cl, rfl, _⟩ := id hL
  have HXX := Lib.hid hx
  have HYY := Lib.hid hy
  have HOL := Lib.hid ho
  have HOP := Lib.hid hop
  have KN := Lib.hid (fun W (h1 : SlAt 2 encL W (.slice pl ls.length cl) ls) (h2 : SlAt 3 encP W vp ps) => refNew _ _ ls ps W h1 h2 (by omega) (by omega))
  have HBD := Lib.hid (new_bounds (ls := ls) (ps := ps))
  have HJ := Lib.hid (fun W => ref01Join a b x y hx hy W)
  obtain ⟨n, hn⟩ : ∃ n, n = newC ls ps := ⟨_, rfl⟩
  have HNC := Lib.hid hn
  rw [← hn] at KN
  clear hL hP hM ho hop hx hy hn
  go_enter Tryd.func4, Tryd.ntmps4
  go_wp2_with fail
  generalize ((w.alloc (.cells #[.int .i64 a, .int .u16 (x : Int)] 41)).alloc (.cells #[.int .i64 b, .int .u16 (y : Int)] 41)) = W0 at HV ⊢
  refine (awake10 W0 HV.out.2.1).mono ?_
  rintro e w1 ⟨rfl, hb1⟩
  have HV := Lib.hid (HV.out.next hb1)
  clear hb1
  go_wp2_with fail
  refine (KN.out w1 HV.out.2.2.1 HV.out.2.2.2.1).mono ?_
  rintro e w2 ⟨rfl, hb2⟩
  have HV := Lib.hid (HV.out.next hb2)
  clear hb2
  by_cases hn0 : n = 0
  · have HN0 := Lib.hid (show newC ls ps = 0 by rw [← HNC.out]; exact hn0)
    subst hn0
    obtain ⟨_, hl4, hp12⟩ := HBD.out HN0.out
    go_wp2_with fail
    refine (rosterNew _ _ ls ps w2 HV.out.2.2.1 HV.out.2.2.2.1 (by omega) (by omega)).mono ?_
    rintro e w3 ⟨pv, rfl, hb3, _, hr⟩
    obtain ⟨r, rfl, hr3⟩ := hr HN0.out
    rw [HN0.out]
    have HR := Lib.hid (show Ros w3 (.pointer (some ⟨r, 0, none⟩)) ls ps from .inr ⟨r, rfl, hr3⟩)
    have HV := Lib.hid (HV.out.next hb3)
    clear hb3 hr hr3
    obtain ⟨_, _, _, _, hz, ⟨g0, g1⟩, g2, g3⟩ := HV.out
    go_wp2_with fail
    refine (checkVoters _ ls ps part a x w3 HR.out (by omega) (by omega) HOL.out HOP.out HXX.out).mono ?_
    rintro e w4 ⟨v1, rfl, hs4, hb4⟩
    have HS4 := Lib.hid hs4
    have HR := Lib.hid (HR.out.below hb4)
    have HV := Lib.hid (HV.out.next hb4)
    obtain ⟨p4, c4, rfl, _⟩ := id hs4
    have hln := votL_len ls ps part a x ps.length
    clear hs4 hb4 g0 g1 g2 g3 hz
    cases hin : inR ls.length part with
    | false =>
      have hv0 : votL ls ps part a x ps.length = [] := votL_none HN0.out hin _ (Nat.le_refl _)
      have hlz : (votL ls ps part a x ps.length).length = 0 := by rw [hv0]; rfl
      rw [hlz]
      clear hv0 hln hlz
      by_cases hp0 : part < 0
      · clear hin
        go_wp2
        go_ret
        exact ⟨rfl, HV.out.1⟩
      · have hp1 : (ls.length : Int) ≤ part := by simp [inR] at hin; omega
        clear hin
        go_wp2
        go_ret
        exact ⟨rfl, HV.out.1⟩
    | true =>
      obtain ⟨k, rfl, hk⟩ := inR_mk hin
      have hkz : (k : Int) < (ls.length : Int) := by omega
      have hk0 : (0 : Int) ≤ (k : Int) := by omega
      obtain ⟨_, _, _, _, hz, ⟨g0, g1⟩, g2, g3⟩ := HV.out
      have hmon := votL_mono (ls := ls) (ps := ps) (part := (k : Int)) (a := a) (x := x) (a' := joinLv a b) (x' := mOr x y) (fun i h => may_join HOL.out HOP.out HN0.out HXX.out HYY.out h) ps.length
      have hln2 := votL_len ls ps (k : Int) (joinLv a b) (mOr x y) ps.length
      have HVL := Lib.hid (show votL ls ps (k : Int) a x ps.length = votL ls ps (k : Int) a x ps.length from rfl)
      have hin2 := Lib.hid (in_of_new HN0.out)
      clear hin
      go_wp2_with fail
      refine (HJ.out w4).mono ?_
      rintro e w5 ⟨rfl, hb5⟩
      have HS4 := Lib.hid (HS4.out.below hb5)
      have HR := Lib.hid (HR.out.below hb5)
      have HV := Lib.hid (HV.out.next hb5)
      clear hb5 g0 g1 g2 g3 hz
      go_wp2_with fail
      refine (checkVoters _ ls ps k (joinLv a b) (mOr x y) w5 HR.out (by omega) (by omega) HOL.out HOP.out (mOr_lt HXX.out HYY.out)).mono ?_
      rintro e w6 ⟨v2, rfl, hs6, hb6⟩
      have HS4 := Lib.hid (HS4.out.below hb6)
      have HV := Lib.hid (HV.out.next hb6)
      obtain ⟨p6, c6, rfl, _⟩ := id hs6
      clear hs6
      obtain ⟨_, _, _, _, hz, ⟨g0, g1⟩, g2, g3⟩ := HV.out
      go_wp2_with fail
      refine (refVoters _ _ ls ps k a x w6 HV.out.2.2.1 HV.out.2.2.2.1 (by omega) (by omega) HOL.out HOP.out HXX.out hin2.out).mono ?_
      rintro e w7 ⟨v3, rfl, hs7, hb7⟩
      have HS4 := Lib.hid (HS4.out.below hb7)
      have HS7 := Lib.hid hs7
      have HV := Lib.hid (HV.out.next hb7)
      clear hs7 hb7 hb6 g0 g1 g2 g3 hz
      go_wp2_with fail
      refine (same02 _ _ _ _ w7 HS4.out HS7.out (by omega) (by omega)).mono ?_
      rintro e w8 ⟨rfl, hb8⟩
      rw [show decide (votL ls ps (k : Int) a x ps.length = votL ls ps (k : Int) a x ps.length) = true by simp]
      have HV := Lib.hid (HV.out.next hb8)
      clear hb8 HS4 HS7
      generalize (votL ls ps (k : Int) a x ps.length).length = m1 at hmon hln ⊢
      generalize (votL ls ps (k : Int) (joinLv a b) (mOr x y) ps.length).length = m2 at hmon hln2 ⊢
      have hmz : (m1 : Int) ≤ (m2 : Int) := by omega
      obtain ⟨_, _, _, _, hz, ⟨g0, g1⟩, g2, g3⟩ := HV.out
      go_wp2_with fail
      refine (checkVoters (.pointer none) [] [] k a x w8 (.inl ⟨rfl, rfl, rfl⟩) (by decide) (by decide) (fun j hj => by simp at hj) (fun j hj => by simp at hj) HXX.out).mono ?_
      rintro e w9 ⟨v4, rfl, hs9, hb9⟩
      have HV := Lib.hid (HV.out.next hb9)
      obtain ⟨p9, c9, rfl, _⟩ := hs9
      have hl0 : (votL [] [] (k : Int) a x ([] : List Psn).length).length = 0 := rfl
      rw [hl0]
      clear hl0 hb9 g0 g1 g2 g3 hz
      go_wp2_with fail
      refine (checkCheck (.pointer none) [] [] k ⟨#[]⟩ (.slice none 0 0) [] w9 (.inl ⟨rfl, rfl, rfl⟩) ⟨SlAt.nil _ _ _, fun j hj => by simp at hj⟩ ⟨by simp, fun j hj => by simp at hj⟩ (by simp [ByteArray.size]) (by decide) (by decide) (fun j hj => by simp at hj) (fun j hj => by simp at hj)).mono ?_
      rintro e w10 ⟨ve, rfl, he, hb10⟩
      have hce : chkE ⟨#[]⟩ [] [] [] (k : Int) = some (-1, 1) := by
        unfold chkE
        rw [if_neg (by rintro ⟨h, _⟩; simp [inR] at h; omega)]
      rw [hce] at he
      obtain ⟨be, rfl, _⟩ := he
      have HV := Lib.hid (HV.out.next hb10)
      clear hb10
      go_wp2
      go_ret
      exact ⟨rfl, HV.out.1⟩
  · have hnb : (n == 0) = false := by simpa using hn0
    go_wp2_with fail
    refine (awake10 w2 HV.out.2.1).mono ?_
    rintro e w3 ⟨rfl, hb3⟩
    have HV := Lib.hid (HV.out.next hb3)
    clear hb3
    go_wp2
    go_ret
    exact ⟨rfl, HV.out.1⟩

end Go.Proofs.YtbbcicengfmhiaaDoor

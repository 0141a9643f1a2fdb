/- The document's voters. Conditions: the lists are of no more than a thousand; each one's partition is there. -/
import Derived.Test.YtbbcicengfmhiaaDoorChk1
import Derived.Deep.DeepCutAuto
namespace Go.Proofs.YtbbcicengfmhiaaDoor
open Go.RowKit

set_option maxRecDepth 100000 in
set_option maxHeartbeats 4000000 in
theorem refVoters (vl vp : Value) (ls : List Lbl) (ps : List Psn) (part : Int) (a : Int) (x : Nat) (w : World) (hL : SlAt 2 encL w vl ls) (hP : SlAt 3 encP w vp ps) (hbl : ls.length ≤ 1000) (hbp : ps.length ≤ 1000) (ho : okL ls) (hop : okP ps) (hx : x < 65536)
    (hin : ∀ k, k < ps.length → inR ls.length ps[k]!.1 = true) :
    Calls Tryd.prog 21 #[vl, vp, .int .i64 part, (.agg #[.int .i64 (a), .int .u16 ((x : Nat) : Int)])] w fun e w' => ∃ v', e = .returned v' ∧ SlAt 1 encI w' v' (votL ls ps part a x ps.length) ∧ Below w.heap.size w w' := by
  obtain ⟨i0, hi, hq0, hq1, hq2⟩ := info_int
  have HSL := Lib.hid (hL.below (below1 w (.cells #[.int .i64 a, .int .u16 (x : Int)] 41)))
  have HSP := Lib.hid (hP.below (below1 w (.cells #[.int .i64 a, .int .u16 (x : Int)] 41)))
  have KM := Lib.hid (fun (i : Int) (W : World) (h1 : SlAt 2 encL W vl ls) (h2 : SlAt 3 encP W vp ps) => refMay vl vp ls ps i a x W h1 h2 hbl hbp ho hop hx hin)
  have HPT := Lib.hid (fun (i : Nat) (hi : i < ps.length) => show partAt ps (i : Int) = ps[i]!.1 by unfold partAt; rw [if_pos (by simp [inR]; omega)]; simp)
  obtain ⟨pl, cl, rfl, _, _⟩ := id hL
  obtain ⟨pp, cp, rfl, _, _⟩ := id hP
  clear hL hP ho hx hop hbl hin
  generalize hn : ps.length = n at hbp HSP HPT KM ⊢
  have HN := Lib.hid hn
  clear hn
  go_enter Tryd.func21, Tryd.ntmps21
  have hb0 := below1 w (.cells #[.int .i64 a, .int .u16 (x : Int)] 41)
  have g0 : (w.alloc (.cells #[.int .i64 a, .int .u16 (x : Int)] 41)).cell? ⟨w.heap.size, 0, none⟩ = some (.int .i64 a) := by go_simp
  have g1 : (w.alloc (.cells #[.int .i64 a, .int .u16 (x : Int)] 41)).cell? ⟨w.heap.size, 1, none⟩ = some (.int .u16 (x : Int)) := by go_simp
  have hz : w.heap.size < (w.alloc (.cells #[.int .i64 a, .int .u16 (x : Int)] 41)).heap.size := by simp
  go_upto_region 1 with fail
  generalize w.alloc (.cells #[.int .i64 a, .int .u16 (x : Int)] 41) = W0 at HSL HSP hb0 g0 g1 hz ⊢
  have HB0 := Lib.hid hb0
  clear hb0
  go_wp2
  go_loopw [9, 10] (fun v4 i wr => ∃ j : Nat, j ≤ n ∧ i = .int .i64 j ∧ Below W0.heap.size W0 wr ∧ wr.ownsRow W0.heap.size 3 1 v4 (votL ls ps part a x j).length (flat encI (votL ls ps part a x j))) (fun _ i _ => n - (intOf i).toNat)
  case atStart => exact ⟨0, by omega, rfl, Below.refl _ _, by simp [votL, flat], .inl ⟨rfl, rfl⟩⟩
  case round =>
    obtain ⟨j, hj, rfl, hB, hown⟩ := hrel
    have HB := Lib.hid hB
    by_cases hlt : j < n
    · have hltz : (j : Int) < (n : Int) := by omega
      have hzz := hB.size
      have g0' := (hB.cell (p := ⟨w.heap.size, 0, none⟩) hz).trans g0
      have g1' := (hB.cell (p := ⟨w.heap.size, 1, none⟩) hz).trans g1
      have hz3 : w.heap.size < wr.heap.size := by omega
      have HE := Lib.hid (show votL ls ps part a x (j + 1) = votL ls ps part a x j ++ (if (partAt ps (j : Int) == part && mayB ls ps (j : Int) a x) = true then [(j : Int)] else []) from rfl)
      have HOW := Lib.hid hown
      have HL := Lib.hid (votL_len ls ps part a x j)
      have hs1 := HSL.out.below hB
      have hs2 := HSP.out.below hB
      have k2 := KM.out (j : Int) wr hs1 hs2
      obtain ⟨p', c', hv, _, hcc⟩ := id hs2
      simp only [Value.slice.injEq] at hv
      obtain ⟨rfl, hq1, rfl⟩ := hv
      have hln := HN.out
      obtain ⟨bk, off, rfl, hb, hcell⟩ := hcc (by omega)
      have d0 : wr.cell? ⟨bk, off + j * 3, none⟩ = some (.int .i64 ps[j]!.1) := hcell j (by omega) 0 _ rfl
      have hpt := HPT.out j (by omega)
      rw [hpt] at HE
      clear hB hown hs1 hs2 hcc hcell hpt hq1 hln
      generalize ps[j]!.1 = pj at d0 HE
      generalize mayB ls ps (j : Int) a x = mj at k2 HE
      have K2 := Lib.hid k2
      clear k2
      by_cases hpp : pj = part
      · subst hpp
        go_wp2_with fail
        refine K2.out.mono ?_
        rintro e w5 ⟨rfl, hb5⟩
        have H51 := Lib.hid (HB.out.trans (hb5.mono hzz))
        have H52 := Lib.hid (owns_below HOW.out hb5)
        clear hb5 g0' g1' d0
        cases mj with
        | false =>
          go_wp2
          go_roundw
          case rel =>
            have he : votL ls ps pj a x (j + 1) = votL ls ps pj a x j := by rw [HE.out]; simp
            first | exact ⟨j + 1, by omega, by go_num, H51.out, by rw [he]; exact H52.out⟩ | ((repeat apply Exists.intro); exact ⟨⟨j + 1, by omega, by go_num, H51.out, by rw [he]; exact H52.out⟩, rfl⟩)
          case measure => simp [intOf] <;> omega
        | true =>
          go_wp2_with (at_builtin; refine wpList_append_own _ rfl _ _ 37 rfl W0.heap.size 3 i0 (.int .i64 0) 1 8 Tryd.underlying37 hi hq0 hq1 hq2 rfl (by decide) _ _ _ rfl (owns_below H52.out (below1 _ _)) _ 1 1 [.int .i64 (j : Int)] rfl ?qc1 ?qc2 ?qc3 ?qc4 ?qc5 ?qc6 ?_)
          case qc1 => rfl
          case qc2 =>
            rintro jj u hj
            match jj, hj with
            | 0, hj => simp at hj; subst hj; go_simp
          case qc3 => simp [Value.oneCell']
          case qc4 => have := HL.out; unfold maxLen; omega
          case qc5 => have := HL.out; omega
          case qc6 => have := H51.out.size; simp; omega
          intro v' w7 hown7 hgrow hnil
          have HB7 := Lib.hid ((H51.out.alloc H51.out.size (.cells #[.int .i64 (j : Int)] 3)).grown hgrow (by have := H51.out.size; simp; omega) (owns_block H52.out))
          have HO7 := Lib.hid hown7
          clear hown7 hgrow hnil
          go_wp2
          go_roundw
          case rel =>
            have he : votL ls ps pj a x (j + 1) = votL ls ps pj a x j ++ [(j : Int)] := by rw [HE.out]; simp
            have ho7 : w7.ownsRow W0.heap.size 3 1 v' (votL ls ps pj a x (j + 1)).length (flat encI (votL ls ps pj a x (j + 1))) := by
              have := HO7.out
              rw [he, List.length_append]
              simpa [flat, encI] using this
            first | exact ⟨j + 1, by omega, by go_num, HB7.out, ho7⟩ | ((repeat apply Exists.intro); exact ⟨⟨j + 1, by omega, by go_num, HB7.out, ho7⟩, rfl⟩) | trace_state
          case measure => simp [intOf] <;> omega
      · have hpb : (pj == part) = false := by simpa using hpp
        have HPB := Lib.hid hpb
        clear hpb
        go_wp2
        go_roundw
        case rel =>
          have he : votL ls ps part a x (j + 1) = votL ls ps part a x j := by rw [HE.out, HPB.out]; simp
          first | exact ⟨j + 1, by omega, by go_num, HB.out, by rw [he]; exact HOW.out⟩ | ((repeat apply Exists.intro); exact ⟨⟨j + 1, by omega, by go_num, HB.out, by rw [he]; exact HOW.out⟩, rfl⟩)
        case measure => simp [intOf] <;> omega
    · obtain rfl : j = n := by omega
      go_wp2
      go_ret
      exact ⟨_, rfl, SlAt.of_owns (enc := encI) (fun _ => rfl) hown, HB0.out.trans (hB.mono HB0.out.size)⟩
end Go.Proofs.YtbbcicengfmhiaaDoor

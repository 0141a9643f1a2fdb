/- check.Targets. Conditions: the roster is of no more than a thousand; sizes. -/
import Derived.Test.YtbbcicengfmhiaaDoorChk4
namespace Go.Proofs.YtbbcicengfmhiaaDoor
open Go.RowKit

def targ1 (ls : List Lbl) (t : TaskV) : Int := if 0 < t.need then findL ls t.lv t.set else -1
def targL (ls : List Lbl) (ts : List TaskV) : Nat → List Int
  | 0 => []
  | k + 1 => targL ls ts k ++ [targ1 ls ts[k]!]
theorem targL_len (ls : List Lbl) (ts : List TaskV) (k : Nat) : (targL ls ts k).length = k := by
  induction k with
  | zero => rfl
  | succ k ih => simp [targL, ih]
def targetsL (nm : ByteArray) (ts : List TaskV) (ls : List Lbl) : List Int := if pipeB nm ts = true then targL ls ts ts.length else []
set_option maxRecDepth 100000 in
set_option maxHeartbeats 8000000 in
theorem checkTargets (v : Value) (ls : List Lbl) (ps : List Psn) (nm : ByteArray) (vt : Value) (ts : List TaskV) (w : World) (h : Ros w v ls ps) (hT : TasksAt w vt ts) (hok : okTs ts) (hnm : nm.size ≤ maxLen) (hbl : ls.length ≤ 1000) :
    Calls Tryd.prog 15 #[.agg #[.string nm, vt], v] w fun e w' => ∃ v', e = .returned v' ∧ SlAt 1 encI w' v' (targetsL nm ts ls) ∧ Below w.heap.size w w' := by
  obtain ⟨i0, hi, hq0, hq1, hq2⟩ := info_int
  have HP := Lib.hid (PipeAt.mk (nm := nm) hT)
  have HB0 := Lib.hid (below1 w (.cells #[.string nm, vt] 24))
  have K2 := Lib.hid (fun W (hW : TasksAt W vt ts) => manRight nm vt ts W hW hok hnm)
  have K4 := Lib.hid (fun (j : Nat) W (hb : Below w.heap.size w W) => show Calls Tryd.prog 73 #[v, .agg #[.int .i64 ts[j]!.lv, .int .u16 (ts[j]!.set : Int)]] W fun e w' => e = .returned (.int .i64 (findL ls ts[j]!.lv ts[j]!.set)) ∧ Below W.heap.size W w' from rosFind v ls ps ts[j]!.lv ts[j]!.set W (h.below hb) hbl)
  have HX1 := Lib.hid (fun (h1 : pipeB nm ts = false) => show targetsL nm ts ls = [] by unfold targetsL; rw [if_neg (by rw [h1]; simp)])
  have HX2 := Lib.hid (fun (h1 : pipeB nm ts = true) => show targetsL nm ts ls = targL ls ts ts.length by unfold targetsL; rw [if_pos h1])
  have HLN := Lib.hid (pipeB_len (nm := nm) (ts := ts))
  obtain ⟨p, c, rfl, hp⟩ := hT.val
  have HPP := Lib.hid hp
  have hl := hok.1
  unfold maxLen at hl
  clear h hok hnm hbl hT hp
  generalize targetsL nm ts ls = X at HX1 HX2 ⊢
  generalize pipeB nm ts = q2 at K2 HX1 HX2 HLN
  generalize hn : ts.length = n at *
  have HN := Lib.hid hn
  clear hn
  go_enter Tryd.func15, Tryd.ntmps15
  obtain ⟨_, c0, c1, ht0⟩ := id HP.out
  go_wp2_with fail
  generalize w.alloc (.cells #[.string nm, .slice p n c] 24) = W0 at HP HB0 c0 c1 ht0 ⊢
  refine (K2.out W0 ht0).mono ?_
  rintro e w1 ⟨rfl, hb1⟩
  have HP1 := Lib.hid (HP.out.below hb1)
  have HB1 := Lib.hid (HB0.out.trans (hb1.mono HB0.out.size))
  clear hb1 HP HB0 c0 c1 ht0
  obtain ⟨_, c0, c1, ht1⟩ := id HP1.out
  clear ht1
  cases q2 with
  | false =>
    go_wp2
    go_ret
    exact ⟨_, rfl, by rw [HX1.out (by simp)]; exact SlAt.nil _ _ _, HB1.out⟩
  | true =>
  obtain ⟨hn1, hn8⟩ := HLN.out (by simp)
  obtain ⟨b, off, rfl⟩ := HPP.out (by omega)
  have HXX := Lib.hid (HX2.out (by simp))
  go_wp2_with fail
  clear c0 c1
  go_loopw [4, 14] (fun v4 t wr => ∃ j : Nat, j ≤ n ∧ t = .int .i64 j ∧ Below w1.heap.size w1 wr ∧ wr.ownsRow w1.heap.size 3 1 v4 (targL ls ts j).length (flat encI (targL ls ts j))) (fun _ t _ => n - (intOf t).toNat)
  case atStart => exact ⟨0, by omega, rfl, Below.refl _ _, by simp [targL, flat], .inl ⟨rfl, rfl⟩⟩
  case round =>
    obtain ⟨j, hj, rfl, hb, hown⟩ := hrel
    have HB := Lib.hid hb
    have HP := Lib.hid (HP1.out.below hb)
    have HO := Lib.hid hown
    clear hb hown
    obtain ⟨_, c0, c1, hts⟩ := id HP.out
    by_cases hlt : j < n
    · have hltz : (j : Int) < (n : Int) := by omega
      have HTK := Lib.hid (hts.at (j := j) (by have := HN.out; omega))
      have K4j := Lib.hid (fun W (hb : Below w1.heap.size w1 W) => K4.out j W (HB1.out.trans (hb.mono HB1.out.size)))
      have HE := Lib.hid (show targL ls ts (j + 1) = targL ls ts j ++ [if 0 < ts[j]!.need then findL ls ts[j]!.lv ts[j]!.set else -1] from rfl)
      have HTL := Lib.hid (targL_len ls ts j)
      obtain ⟨d0, d1, d2, d3, d4, d5, d6⟩ := HTK.out.cells
      clear hts c0 c1
      generalize findL ls ts[j]!.lv ts[j]!.set = fi at K4j HE
      generalize ts[j]! = t at *
      obtain ⟨tn, tsl, taf, tr, tt, tnd, tl, tst⟩ := t
      dsimp only at *
      obtain ⟨pp, cc, hv, _⟩ := HTK.out.2.2
      dsimp only at hv
      subst hv
      have hbx := below1 wr (.cells #[.string tn, .slice pp taf.length cc, .int .i64 tr, .int .i64 tt, .int .i64 tnd, .int .i64 tl, .int .u16 (tst : Int)] 43)
      have HBX := Lib.hid (HB.out.trans (hbx.mono HB.out.size))
      have HOX := Lib.hid (owns_below HO.out hbx)
      clear hbx
      by_cases hnd : 0 < tnd
      · go_wp2_with fail
        refine (K4j.out _ HBX.out).mono ?_
        rintro e w5 ⟨rfl, hb5⟩
        have BEL := Lib.hid (HBX.out.trans (hb5.mono HBX.out.size))
        have OWN := Lib.hid (owns_below HOX.out hb5)
        clear hb5 d0 d1 d2 d3 d4 d5 d6
        go_wp2_with (at_builtin; refine wpList_append_own _ rfl _ _ 37 rfl w1.heap.size 3 i0 (.int .i64 0) 1 8 Tryd.underlying37 hi hq0 hq1 hq2 rfl (by decide) _ _ _ rfl (owns_below OWN.out (below1 _ _)) _ 1 1 [.int .i64 (fi)] rfl ?qc1a ?qc2a ?qc3a ?qc4a ?qc5a ?qc6a ?_)
        case qc1a => rfl
        case qc2a =>
          rintro jj u hj
          match jj, hj with
          | 0, hj => simp at hj; subst hj; go_simp
        case qc3a => simp [Value.oneCell']
        case qc4a => have := HTL.out; unfold maxLen; omega
        case qc5a => have := HTL.out; omega
        case qc6a => have := BEL.out.size; simp; omega
        intro v' w7 hown7 hgrow hnil
        have HB7 := Lib.hid ((BEL.out.alloc BEL.out.size (.cells #[.int .i64 (fi)] 3)).grown hgrow (by have := BEL.out.size; simp; omega) (owns_block OWN.out))
        have HO7 := Lib.hid hown7
        clear hown7 hgrow hnil
        go_wp2
        go_roundw
        case rel =>
          have he : targL ls ts (j + 1) = targL ls ts j ++ [fi] := by rw [HE.out]; simp [hnd]
          have ho7 : w7.ownsRow w1.heap.size 3 1 v' (targL ls ts (j + 1)).length (flat encI (targL ls ts (j + 1))) := by
            have := HO7.out
            rw [he, List.length_append]
            simpa [flat, encI] using this
          first | exact ⟨j + 1, by omega, by go_num, HB7.out, ho7⟩ | ((repeat apply Exists.intro); exact ⟨⟨j + 1, by omega, by go_num, HB7.out, ho7⟩, rfl⟩) | trace_state
        case measure => simp [intOf] <;> omega
      · go_upto_region 9 with fail
        generalize wr.alloc (.cells #[.string tn, .slice pp taf.length cc, .int .i64 tr, .int .i64 tt, .int .i64 tnd, .int .i64 tl, .int .u16 (tst : Int)] 43) = w5 at HBX HOX ⊢
        have BEL := Lib.hid HBX.out
        have OWN := Lib.hid HOX.out
        clear d0 d1 d2 d3 d4 d5 d6
        go_wp2_with (at_builtin; refine wpList_append_own _ rfl _ _ 37 rfl w1.heap.size 3 i0 (.int .i64 0) 1 8 Tryd.underlying37 hi hq0 hq1 hq2 rfl (by decide) _ _ _ rfl (owns_below OWN.out (below1 _ _)) _ 1 1 [.int .i64 ((-1))] rfl ?qc1b ?qc2b ?qc3b ?qc4b ?qc5b ?qc6b ?_)
        case qc3b => simp [Value.oneCell']
        case qc4b => have := HTL.out; unfold maxLen; omega
        case qc5b => have := HTL.out; omega
        case qc6b => have := BEL.out.size; simp; omega
        intro v' w7 hown7 hgrow hnil
        have HB7 := Lib.hid ((BEL.out.alloc BEL.out.size (.cells #[.int .i64 ((-1))] 3)).grown hgrow (by have := BEL.out.size; simp; omega) (owns_block OWN.out))
        have HO7 := Lib.hid hown7
        clear hown7 hgrow hnil
        go_wp2
        go_roundw
        case rel =>
          have he : targL ls ts (j + 1) = targL ls ts j ++ [(-1)] := by rw [HE.out, if_neg (by omega)]
          have ho7 : w7.ownsRow w1.heap.size 3 1 v' (targL ls ts (j + 1)).length (flat encI (targL ls ts (j + 1))) := by
            have := HO7.out
            rw [he, List.length_append]
            simpa [flat, encI] using this
          first | exact ⟨j + 1, by omega, by go_num, HB7.out, ho7⟩ | ((repeat apply Exists.intro); exact ⟨⟨j + 1, by omega, by go_num, HB7.out, ho7⟩, rfl⟩) | trace_state
        case measure => simp [intOf] <;> omega
    · obtain rfl : j = n := by omega
      go_wp2
      go_ret
      exact ⟨_, rfl, by rw [HXX.out]; exact SlAt.of_owns (enc := encI) (fun _ => rfl) HO.out, HB1.out.trans (HB.out.mono HB1.out.size)⟩
end Go.Proofs.YtbbcicengfmhiaaDoor

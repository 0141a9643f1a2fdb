/- order.Ready, places, Behind, Ahead. Conditions: sizes. -/
import Derived.Test.YtbbcicengfmhiaaOrB
namespace Go.Proofs.Ytbbcicengfmhiaa
set_option maxRecDepth 100000
open Go.RowKit

def readyP (nm : ByteArray) (ts : List TaskV) (done : List Bool) : List Int := if pipeB nm ts = true then rdyL (afters ts) done ts.length else []
set_option maxHeartbeats 4000000 in
theorem ordReadyP (nm : ByteArray) (vt v : Value) (ts : List TaskV) (done : List Bool) (w : World) (h : TasksAt w vt ts) (hd : SlAt 1 encB w v done) (hbig : done.length ≤ 1000000) (hok : okTs ts) (hnm : nm.size ≤ maxLen) :
    Calls Try.prog 9 #[.agg #[.string nm, vt], v] w fun e w' => ∃ v', e = .returned v' ∧ SlAt 1 encI w' v' (readyP nm ts done) ∧ Below w.heap.size w w' := by
  have HP := Lib.hid (PipeAt.mk (nm := nm) h)
  have HB0 := Lib.hid (below1 w (.cells #[.string nm, vt] 24))
  have K1 := Lib.hid (fun W (hW : TasksAt W vt ts) => manRight nm vt ts W hW hok hnm)
  have hl := hok.1
  unfold maxLen at hl
  have K2 := Lib.hid (fun W (hW : PipeAt W w.heap.size nm vt ts) (hD : SlAt 1 encB W v done) h1 h2 => ordReady nm vt v ts done w.heap.size W hW hD hbig h1 h2 (fun j hj => (hok.2 j hj).2.2.1))
  have HQ := Lib.hid (fun (hq : pipeB nm ts = false) => show readyP nm ts done = [] by unfold readyP; rw [hq]; rfl)
  have HY := Lib.hid (fun (hq : pipeB nm ts = true) => show readyP nm ts done = rdyL (afters ts) done ts.length by unfold readyP; rw [if_pos hq])
  have HRI := Lib.hid (aftIn_of (nm := nm) (ts := ts))
  have HRL := Lib.hid (pipeB_len (nm := nm) (ts := ts))
  have HD := Lib.hid (hd.below HB0.out)
  generalize readyP nm ts done = R at HQ HY ⊢
  generalize pipeB nm ts = q at HQ HY K1 HRI HRL
  obtain ⟨p, c, rfl, hp⟩ := h.val
  obtain ⟨pv, cv, rfl, _⟩ := id hd
  clear hp hok hnm h hd
  go_enter Try.func9, Try.ntmps9
  obtain ⟨_, c0, c1, hts⟩ := id HP.out
  have HT0 := Lib.hid hts
  clear hts
  go_wp2_with fail
  generalize w.alloc (.cells #[.string nm, .slice p ts.length c] 24) = W0 at HP HB0 HD HT0 c0 c1 ⊢
  refine (K1.out W0 HT0.out).mono ?_
  rintro e w1 ⟨rfl, hb⟩
  have HP1 := Lib.hid (HP.out.below hb)
  have HD1 := Lib.hid (HD.out.below hb)
  have HB1 := Lib.hid (HB0.out.trans (hb.mono HB0.out.size))
  clear hb c0 c1 HT0 HP HB0 HD
  cases q with
  | false =>
    go_wp2
    go_ret
    exact ⟨_, rfl, by rw [HQ.out (by simp)]; exact SlAt.nil _ _ _, HB1.out⟩
  | true =>
    have hl8 := (HRL.out (by simp)).2
    go_wp2_with fail
    refine (K2.out w1 HP1.out HD1.out (HRI.out (by simp)) (by omega)).mono ?_
    rintro e w2 ⟨v2, rfl, hs, hb2⟩
    have HS := Lib.hid hs
    have HB2 := Lib.hid (HB1.out.trans (hb2.mono HB1.out.size))
    obtain ⟨p2, c2, rfl, _⟩ := id hs
    clear hs hb2
    go_wp2
    go_ret
    exact ⟨_, rfl, by rw [HY.out (by simp)]; exact HS.out, HB2.out⟩

set_option maxHeartbeats 4000000 in
theorem ordPlaces (v : Value) (xs : List Bool) (w : World) (h : SlAt 1 encB w v xs) (hbig : xs.length ≤ 1000000) :
    Calls Try.prog 20 #[v] w fun e w' => ∃ v', e = .returned v' ∧ SlAt 1 encI w' v' (placesL xs xs.length) ∧ Below w.heap.size w w' := by
  obtain ⟨i0, hi, hq0, hq1, hq2⟩ := info_int
  have HS := Lib.hid h
  have HRL := Lib.hid (placesL_len xs)
  have HSU := Lib.hid (fun k => show placesL xs (k + 1) = placesL xs k ++ (if xs[k]! = true then [(k : Int)] else []) from rfl)
  obtain ⟨pv, cv, rfl, _⟩ := id h
  clear h
  generalize hn : xs.length = n at *
  have HN := Lib.hid hn
  clear hn
  go_enter Try.func20, Try.ntmps20
  go_wp2_with fail
  go_loopw [2, 7] (fun v4 t wr => ∃ j : Nat, j ≤ n ∧ t = .int .i64 j ∧ Below w.heap.size w wr ∧ wr.ownsRow w.heap.size 3 1 v4 (placesL xs j).length (flat encI (placesL xs j))) (fun _ t _ => n - (intOf t).toNat)
  case atStart => exact ⟨0, by omega, rfl, Below.refl _ _, by simp [placesL, flat], .inl ⟨rfl, rfl⟩⟩
  case round =>
    obtain ⟨j, hj, rfl, hb, hown⟩ := hrel
    have BEL := Lib.hid hb
    have OWN := Lib.hid hown
    clear hb hown
    by_cases hlt : j < n
    · have hltz : (j : Int) < (n : Int) := by omega
      obtain ⟨bb, oo, cc, hv, hc⟩ := (HS.out.below BEL.out).cellB HN.out hlt
      simp only [Value.slice.injEq] at hv
      obtain ⟨rfl, hq9, rfl⟩ := hv
      clear hq9
      have HE := Lib.hid (HSU.out j)
      have HTL := Lib.hid (HRL.out j)
      generalize xs[j]! = x at hc HE
      cases x with
      | false =>
        have he : placesL xs (j + 1) = placesL xs j := by rw [HE.out]; simp
        have HEE := Lib.hid he
        clear he
        go_wp2
        go_roundw
        case rel => first | exact ⟨j + 1, by omega, by go_num, BEL.out, by rw [HEE.out]; exact OWN.out⟩ | ((repeat apply Exists.intro); exact ⟨⟨j + 1, by omega, by go_num, BEL.out, by rw [HEE.out]; exact OWN.out⟩, rfl⟩)
        case measure => simp [intOf] <;> omega
      | true =>
        go_wp2_with (at_builtin; refine wpList_append_own _ rfl _ _ 29 rfl w.heap.size 3 i0 (.int .i64 0) 1 8 Try.underlying29 hi hq0 hq1 hq2 rfl (by decide) _ _ _ rfl (owns_below OWN.out (below1 _ _)) _ 1 1 [.int .i64 ((j : Int))] rfl ?qc1a ?qc2a ?qc3a ?qc4a ?qc5a ?qc6a ?_)
        try (case qc1a => rfl)
        try (case qc2a => (rintro jj u hj; match jj, hj with | 0, hj => simp at hj; subst hj; go_simp))
        case qc3a => simp [Value.oneCell']
        case qc4a => have := HTL.out; unfold maxLen; omega
        case qc5a => have := HTL.out; omega
        case qc6a => have := BEL.out.size; simp; omega
        intro v' w7 hown7 hgrow hnil
        have HB7 := Lib.hid ((BEL.out.alloc BEL.out.size (.cells #[.int .i64 ((j : Int))] 3)).grown hgrow (by have := BEL.out.size; simp; omega) (owns_block OWN.out))
        have HO7 := Lib.hid hown7
        clear hown7 hgrow hnil
        go_wp2
        go_roundw
        case rel =>
          have he : placesL xs (j + 1) = placesL xs j ++ [(j : Int)] := by rw [HE.out]; simp
          have ho7 : w7.ownsRow w.heap.size 3 1 v' (placesL xs (j + 1)).length (flat encI (placesL xs (j + 1))) := by
            have := HO7.out
            rw [he, List.length_append]
            simpa [flat, encI] using this
          first | exact ⟨j + 1, by omega, by go_num, HB7.out, ho7⟩ | ((repeat apply Exists.intro); exact ⟨⟨j + 1, by omega, by go_num, HB7.out, ho7⟩, rfl⟩) | trace_state
        case measure => simp [intOf] <;> omega
    · obtain rfl : j = n := by omega
      go_wp2
      go_ret
      exact ⟨_, rfl, SlAt.of_owns (enc := encI) (fun _ => rfl) OWN.out, BEL.out⟩

def behL (ts : List TaskV) (i : Int) : Nat → List Int
  | 0 => []
  | k + 1 => behL ts i k ++ (if (ts[k]!.after.any fun y => i == y) = true then [(k : Int)] else [])
theorem behL_len (ts : List TaskV) (i : Int) (k : Nat) : (behL ts i k).length ≤ k := by
  induction k with
  | zero => simp [behL]
  | succ k ih => simp only [behL]; split <;> simp <;> omega
def behindP (nm : ByteArray) (ts : List TaskV) (i : Int) : List Int := if pipeB nm ts = true then behL ts i ts.length else []
set_option maxHeartbeats 8000000 in
theorem ordBehind (nm : ByteArray) (vt : Value) (ts : List TaskV) (i : Int) (w : World) (h : TasksAt w vt ts) (hok : okTs ts) (hnm : nm.size ≤ maxLen) :
    Calls Try.prog 12 #[.agg #[.string nm, vt], .int .i64 i] w fun e w' => ∃ v', e = .returned v' ∧ SlAt 1 encI w' v' (behindP nm ts i) ∧ Below w.heap.size w w' := by
  obtain ⟨i0, hi, hq0, hq1, hq2⟩ := info_int
  have HP := Lib.hid (PipeAt.mk (nm := nm) h)
  have HB0 := Lib.hid (below1 w (.cells #[.string nm, vt] 24))
  have K1 := Lib.hid (fun W (hW : TasksAt W vt ts) => manRight nm vt ts W hW hok hnm)
  have hl := hok.1
  unfold maxLen at hl
  have HLA := Lib.hid (fun j (hj : j < ts.length) => (hok.2 j hj).2.2.1)
  have HQ := Lib.hid (fun (hq : pipeB nm ts = false) => show behindP nm ts i = [] by unfold behindP; rw [hq]; rfl)
  have HY := Lib.hid (fun (hq : pipeB nm ts = true) => show behindP nm ts i = behL ts i ts.length by unfold behindP; rw [if_pos hq])
  have HRL := Lib.hid (pipeB_len (nm := nm) (ts := ts))
  have HBL := Lib.hid (behL_len ts i)
  have HSU := Lib.hid (fun k => show behL ts i (k + 1) = behL ts i k ++ (if (ts[k]!.after.any fun y => i == y) = true then [(k : Int)] else []) from rfl)
  generalize behindP nm ts i = R at HQ HY ⊢
  generalize pipeB nm ts = q at HQ HY K1 HRL
  obtain ⟨p, c, rfl, hp⟩ := h.val
  have HPP := Lib.hid hp
  clear hp hok hnm h
  generalize hn : ts.length = n at *
  have HN := Lib.hid hn
  clear hn
  go_enter Try.func12, Try.ntmps12
  obtain ⟨_, c0, c1, hts⟩ := id HP.out
  have HT0 := Lib.hid hts
  clear hts
  go_wp2_with fail
  generalize w.alloc (.cells #[.string nm, .slice p n c] 24) = W0 at HP HB0 HT0 c0 c1 ⊢
  refine (K1.out W0 HT0.out).mono ?_
  rintro e w1 ⟨rfl, hb⟩
  have HP1 := Lib.hid (HP.out.below hb)
  have HB1 := Lib.hid (HB0.out.trans (hb.mono HB0.out.size))
  clear hb c0 c1 HT0 HP HB0
  obtain ⟨_, c0, c1, ht1⟩ := id HP1.out
  clear ht1
  cases q with
  | false =>
    go_wp2
    go_ret
    exact ⟨_, rfl, by rw [HQ.out (by simp)]; exact SlAt.nil _ _ _, HB1.out⟩
  | true =>
  obtain ⟨hn1, hn8⟩ := HRL.out (by simp)
  obtain ⟨b, off, rfl⟩ := HPP.out (by omega)
  have HXX := Lib.hid (HY.out (by simp))
  go_wp2_with fail
  clear c0 c1
  go_loopw [4, 13] (fun v4 t wr => ∃ j : Nat, j ≤ n ∧ t = .int .i64 j ∧ Below w1.heap.size w1 wr ∧ wr.ownsRow w1.heap.size 3 1 v4 (behL ts i j).length (flat encI (behL ts i j))) (fun _ t _ => n - (intOf t).toNat)
  case atStart => exact ⟨0, by omega, rfl, Below.refl _ _, by simp [behL, flat], .inl ⟨rfl, rfl⟩⟩
  case round =>
    obtain ⟨j, hj, rfl, hb, hown⟩ := hrel
    have HB := Lib.hid hb
    have HP := Lib.hid (HP1.out.below hb)
    have HO := Lib.hid hown
    clear hb hown
    by_cases hlt : j < n
    · have hltz : (j : Int) < (n : Int) := by omega
      have HTK := Lib.hid (HP.out.2.2.2.at (j := j) (by have := HN.out; omega))
      have HE := Lib.hid (HSU.out j)
      have HTL := Lib.hid (HBL.out j)
      have HLJ := Lib.hid (HLA.out j hlt)
      obtain ⟨d0, d1, d2, d3, d4, d5, d6⟩ := HTK.out.cells
      generalize ts[j]! = t at *
      obtain ⟨tn, tsl, taf, tr, tt, tnd, tl, tst⟩ := t
      dsimp only at *
      obtain ⟨pp, cc, hv, _⟩ := HTK.out.2.2
      dsimp only at hv
      subst hv
      have hbx := below1 wr (.cells #[.string tn, .slice pp taf.length cc, .int .i64 tr, .int .i64 tt, .int .i64 tnd, .int .i64 tl, .int .u16 (tst : Int)] 34)
      have BEL := Lib.hid (HB.out.trans (hbx.mono HB.out.size))
      have OWN := Lib.hid (owns_below HO.out hbx)
      have KC := Lib.hid (hasI i _ taf _ (HTK.out.2.2.below hbx) (by have := HLJ.out; unfold maxLen at this; omega))
      clear hbx
      go_wp2_with fail
      refine KC.out.mono ?_
      rintro e w5 ⟨rfl, rfl⟩
      clear KC d0 d1 d2 d3 d4 d5 d6
      generalize wr.alloc (.cells #[.string tn, .slice pp taf.length cc, .int .i64 tr, .int .i64 tt, .int .i64 tnd, .int .i64 tl, .int .u16 (tst : Int)] 34) = w5 at BEL OWN ⊢
      generalize (taf.any fun y => i == y) = q2 at HE ⊢
      cases q2 with
      | false =>
        have he : behL ts i (j + 1) = behL ts i j := by rw [HE.out]; simp
        have HEE := Lib.hid he
        clear he
        go_wp2
        go_roundw
        case rel => first | exact ⟨j + 1, by omega, by go_num, BEL.out, by rw [HEE.out]; exact OWN.out⟩ | ((repeat apply Exists.intro); exact ⟨⟨j + 1, by omega, by go_num, BEL.out, by rw [HEE.out]; exact OWN.out⟩, rfl⟩)
        case measure => simp [intOf] <;> omega
      | true =>
        go_wp2_with (at_builtin; refine wpList_append_own _ rfl _ _ 29 rfl w1.heap.size 3 i0 (.int .i64 0) 1 8 Try.underlying29 hi hq0 hq1 hq2 rfl (by decide) _ _ _ rfl (owns_below OWN.out (below1 _ _)) _ 1 1 [.int .i64 ((j : Int))] rfl ?qc1a ?qc2a ?qc3a ?qc4a ?qc5a ?qc6a ?_)
        try (case qc1a => rfl)
        try (case qc2a => (rintro jj u hj; match jj, hj with | 0, hj => simp at hj; subst hj; go_simp))
        case qc3a => simp [Value.oneCell']
        case qc4a => have := HTL.out; unfold maxLen; omega
        case qc5a => have := HTL.out; omega
        case qc6a => have := BEL.out.size; simp; omega
        intro v' w7 hown7 hgrow hnil
        have HB7 := Lib.hid ((BEL.out.alloc BEL.out.size (.cells #[.int .i64 ((j : Int))] 3)).grown hgrow (by have := BEL.out.size; simp; omega) (owns_block OWN.out))
        have HO7 := Lib.hid hown7
        clear hown7 hgrow hnil
        go_wp2
        go_roundw
        case rel =>
          have he : behL ts i (j + 1) = behL ts i j ++ [(j : Int)] := by rw [HE.out]; simp
          have ho7 : w7.ownsRow w1.heap.size 3 1 v' (behL ts i (j + 1)).length (flat encI (behL ts i (j + 1))) := by
            have := HO7.out
            rw [he, List.length_append]
            simpa [flat, encI] using this
          first | exact ⟨j + 1, by omega, by go_num, HB7.out, ho7⟩ | ((repeat apply Exists.intro); exact ⟨⟨j + 1, by omega, by go_num, HB7.out, ho7⟩, rfl⟩) | trace_state
        case measure => simp [intOf] <;> omega
    · obtain rfl : j = n := by omega
      go_wp2
      go_ret
      exact ⟨_, rfl, by rw [HXX.out]; exact SlAt.of_owns (enc := encI) (fun _ => rfl) HO.out, HB1.out.trans (HB.out.mono HB1.out.size)⟩

def aheadP (nm : ByteArray) (ts : List TaskV) (i : Int) : List Int := if pipeB nm ts = true ∧ (0 ≤ i ∧ i < ts.length) then placesL (allF (afters ts) i) ts.length else []
set_option maxHeartbeats 8000000 in
theorem ordAhead (nm : ByteArray) (vt : Value) (ts : List TaskV) (i : Nat) (w : World) (h : TasksAt w vt ts) (hok : okTs ts) (hnm : nm.size ≤ maxLen) (hq : pipeB nm ts = true) (hi : i < ts.length) :
    Calls Try.prog 13 #[.agg #[.string nm, vt], .int .i64 (i : Int)] w fun e w' => ∃ v', e = .returned v' ∧ SlAt 1 encI w' v' (placesL (allF (afters ts) i) ts.length) ∧ Below w.heap.size w w' := by
  have HP := Lib.hid (PipeAt.mk (nm := nm) h)
  have HB0 := Lib.hid (below1 w (.cells #[.string nm, vt] 24))
  have K1 := Lib.hid (fun W (hW : TasksAt W vt ts) => manRight nm vt ts W hW hok hnm)
  have hl := hok.1
  unfold maxLen at hl
  have K2 := Lib.hid (fun (W : World) (hW : PipeAt W w.heap.size nm vt ts) => orderAll nm vt ts w.heap.size i W hW (aftIn_of hq) (by have := (pipeB_len hq).2; omega) (fun j hj => (hok.2 j hj).2.2.1) hi)
  rw [hq] at K1
  have HLN := Lib.hid ((allF_len (afters ts) i).trans (afters_len ts))
  have hn8 := (pipeB_len hq).2
  obtain ⟨p, c, rfl, hp⟩ := h.val
  clear hp hok hnm h hq
  have hiz : (i : Int) < (ts.length : Int) := by omega
  have hi0 : (0 : Int) ≤ (i : Int) := by omega
  go_enter Try.func13, Try.ntmps13
  obtain ⟨_, c0, c1, hts⟩ := id HP.out
  have HT0 := Lib.hid hts
  clear hts
  go_wp2_with fail
  generalize w.alloc (.cells #[.string nm, .slice p ts.length c] 24) = W0 at HP HB0 HT0 c0 c1 ⊢
  refine (K1.out W0 HT0.out).mono ?_
  rintro e w1 ⟨rfl, hb⟩
  have HP1 := Lib.hid (HP.out.below hb)
  have HB1 := Lib.hid (HB0.out.trans (hb.mono HB0.out.size))
  clear hb c0 c1 HT0 HP HB0
  obtain ⟨_, c0, c1, ht1⟩ := id HP1.out
  clear ht1
  go_wp2_with fail
  refine (K2.out w1 HP1.out).mono ?_
  rintro e w2 ⟨v2, rfl, hs, hb2⟩
  have HS := Lib.hid hs
  have HB2 := Lib.hid (HB1.out.trans (hb2.mono HB1.out.size))
  obtain ⟨p2, c2, rfl, _⟩ := id hs
  clear hs hb2 c0 c1
  go_wp2_with fail
  refine (ordPlaces _ (allF (afters ts) i) w2 HS.out (by have := HLN.out; omega)).mono ?_
  rintro e w3 ⟨v3, rfl, hs3, hb3⟩
  rw [HLN.out] at hs3
  have HS3 := Lib.hid hs3
  have HB3 := Lib.hid (HB2.out.trans (hb3.mono HB2.out.size))
  obtain ⟨p3, c3, rfl, _⟩ := id hs3
  clear hs3 hb3
  go_wp2
  go_ret
  exact ⟨_, rfl, HS3.out, HB3.out⟩
end Go.Proofs.Ytbbcicengfmhiaa

/- inbox.Seen. Conditions: few releases. -/
import Derived.Test.YtbbcicengfmhiaaDoorInS
import Derived.Test.YtbbcicengfmhiaaDoorIn5
import Derived.Test.YtbbcicengfmhiaaDoorIn10
import Derived.Laws.AppendOwnNone
import Derived.Laws.EntriesVeiled
namespace Go.Proofs.YtbbcicengfmhiaaDoor
set_option maxRecDepth 100000
open Go.RowKit

abbrev Box := Option (Nat × Value × List Rel)
def encX (x : Box) : List Value := [.pointer (x.map fun y => ⟨y.1, 0, none⟩)]
def inX : Box → List Rel
  | none => []
  | some y => y.2.2
def XAt (x : Box) (w : World) : Prop := ∀ b cv l, x = some (b, cv, l) → IbAt b cv l w ∧ l.length ≤ 12
theorem XAt.below {x : Box} {w w' : World} (h : XAt x w) (hb : Below w.heap.size w w') : XAt x w' := fun b cv l e => ⟨(h b cv l e).1.below hb, (h b cv l e).2⟩
def AllPost (l : List Rel) (w : World) (e : Ending) (w' : World) : Prop := ∃ v', e = .returned v' ∧ SlAt 5 encR w' v' l ∧ Below w.heap.size w w'
theorem inbAllX (x : Box) (w : World) (h : XAt x w) : Calls Tryd.prog 43 #[.pointer (x.map fun y => ⟨y.1, 0, none⟩)] w (AllPost (inX x) w) := by
  cases x with
  | none =>
    have HQ := Lib.hid (show AllPost (inX none) w (.returned (.slice none 0 0)) w from ⟨_, rfl, SlAt.nil _ _ _, Below.refl _ _⟩)
    clear h
    show Calls Tryd.prog 43 #[.pointer none] w _
    go_enter Tryd.func43, Tryd.ntmps43
    go_wp2
    go_ret
    exact HQ.out
  | some y =>
    obtain ⟨b, cv, l⟩ := y
    obtain ⟨h1, h2⟩ := h b cv l rfl
    exact inbAll b cv l w h1 (by omega)
def allX (xs : List Box) : List Rel := xs.flatMap inX
def SeenPost (now : Int) (xs : List Box) (w : World) (e : Ending) (w' : World) : Prop := ∃ v', e = .returned v' ∧ SlAt 5 encR w' v' (seenR now (allX xs)) ∧ Below w.heap.size w w'
theorem late_not (now : Int) (l : List Rel) : (l.filter fun x => !decide (now ≤ x.1)) = l.filter fun r => decide (r.1 < now) := by
  congr 1
  funext x
  by_cases h : now ≤ x.1
  · simp [h]
  · simp [h]; omega
set_option maxHeartbeats 4000000 in
theorem inbSeen (now : Int) (v : Value) (xs : List Box) (w : World) (hS : SlAt 1 encX w v xs) (hx : ∀ k, k < xs.length → XAt xs[k]! w) (hl : (allX xs).length ≤ 12) (hn : xs.length ≤ 100) : Calls Tryd.prog 46 #[.int .i64 now, v] w (SeenPost now xs w) := by
  have hb0 := below1 w (.cells #[.int .i64 now] 3)
  have hq := (BlkIs.alloc w [.int .i64 now] 3).cell 0
  simp only [List.getElem?_cons_zero] at hq
  have hS1 := hS.below hb0
  have hx1 : ∀ k, k < xs.length → XAt xs[k]! (w.alloc (.cells #[.int .i64 now] 3)) := fun k hk => (hx k hk).below hb0
  have hz1 : w.heap.size < (w.alloc (.cells #[.int .i64 now] 3)).heap.size := by simp
  obtain ⟨i0, z, hi, hz0, hq1, hq2, hq3⟩ := info_cloneR
  have HI := Lib.hid hi
  have HZ := Lib.hid hz0
  have HFIN := Lib.hid (fun (v' : Value) (w' : World) (h1 : SlAt 5 encR w' v' (seenR now (allX xs))) (h2 : Below w.heap.size w w') => (show SeenPost now xs w (.returned v') w' from ⟨v', rfl, h1, h2⟩))
  clear hS
  obtain ⟨pp, c, rfl, _, hcell⟩ := hS1
  have HB0 := Lib.hid hb0
  have HC := Lib.hid hcell
  have HX := Lib.hid hx1
  have HQ := Lib.hid hq
  have HL := Lib.hid hl
  clear hi hz0 hb0 hcell hx hx1 hq hl
  generalize hlen : xs.length = n at *
  have HN := Lib.hid hlen
  clear hlen
  go_enter Tryd.func46, Tryd.ntmps46
  go_wp2_with fail
  generalize w.alloc (.cells #[.int .i64 now] 3) = W1 at *
  go_wp2
  go_loopw [4, 6, 9] (fun s4 _ s9 wr => ∃ k : Nat, s9 = .int .i64 k ∧ k ≤ n ∧ wr.ownsRow W1.heap.size 75 5 s4 (allX (xs.take k)).length ((allX (xs.take k)).flatMap encR) ∧ Below W1.heap.size W1 wr) (fun _ _ s9 _ => n - (intOf s9).toNat)
  case atStart => exact ⟨0, by go_num, by omega, ⟨rfl, .inl ⟨rfl, rfl⟩⟩, Below.refl _ _⟩
  case round =>
    obtain ⟨k, rfl, hk, hown, hB⟩ := hrel
    obtain ⟨pv, cvv, rfl⟩ := row_slice hown
    have HO := Lib.hid hown
    have HB := Lib.hid hB
    clear hown hB
    by_cases hlt : k < n
    · have hltz : (k : Int) < (n : Int) := by omega
      obtain ⟨b, off, rfl, hb, hc⟩ := HC.out (by have := HN.out; omega)
      have c0 := (HB.out.cell (p := ⟨b, off + k * 1 + 0, none⟩) hb).trans (hc k (by have := HN.out; omega) 0 _ rfl)
      rw [Nat.mul_one, Nat.add_zero] at c0
      have hxk := (HX.out k (by have := HN.out; omega)).below HB.out
      have HE := Lib.hid (show allX (xs.take (k + 1)) = allX (xs.take k) ++ inX xs[k]! by
        unfold allX
        rw [List.take_succ_eq_append_getElem (by have := HN.out; omega), List.flatMap_append, getElem!_pos xs k (by have := HN.out; omega)]
        simp)
      have HLE := Lib.hid (show (allX (xs.take k)).length + (inX xs[k]!).length ≤ 12 by
        have h1 : (allX (xs.take (k + 1))).length ≤ (allX xs).length := by
          unfold allX
          conv => rhs; rw [← List.take_append_drop (k + 1) xs, List.flatMap_append]
          rw [List.length_append]; omega
        rw [HE.out, List.length_append] at h1
        have := HL.out
        omega)
      clear hc hb
      generalize xs[k]! = x at *
      have KA := Lib.hid (inbAllX x wr hxk)
      clear hxk
      generalize hpx : Option.map (fun y : Nat × Value × List Rel => (⟨y.1, 0, none⟩ : Addr)) x = px at *
      clear hpx
      generalize inX x = lx at *
      go_wp2_with fail
      refine KA.out.mono ?_
      rintro e w1 hp
      unfold AllPost at hp
      obtain ⟨v', rfl, hs, hb1⟩ := hp
      have HO1 := Lib.hid (owns_below HO.out hb1)
      have HB1 := Lib.hid (HB.out.trans (hb1.mono HB.out.size))
      obtain ⟨p1, c1, rfl, ⟨hc1, hn1⟩, hcl1⟩ := hs
      have HCL := Lib.hid hcl1
      clear hb1 hcl1 c0
      cases p1 with
      | none =>
        obtain ⟨rfl, rfl⟩ := hn1 rfl
        clear hn1 hc1
        go_wp2_with (at_builtin; refine wpList_append_own_none rfl (.tmp 13) (.tmp 15) 71 rfl W1.heap.size 75 i0 5 Tryd.underlying71 HI.out _ _ _ rfl HO1.out rfl ?_)
        go_wp2
        go_roundw
        case rel => exact ⟨k + 1, by go_num, by omega, by rw [HE.out, List.append_nil]; exact HO1.out, HB1.out⟩
        case measure => simp [intOf] <;> omega
      | some ad =>
        have hfl : (lx.flatMap encR).length = lx.length * 5 := flat_length (enc := encR) encR_len lx
        go_wp2_with (at_builtin; refine wpList_append_own _ rfl (.tmp 13) (.tmp 15) 71 rfl W1.heap.size 75 i0 z 5 48 Tryd.underlying71 HI.out HZ.out hq1 hq2 hq3 (by decide) _ _ _ rfl HO1.out ad lx.length c1 (lx.flatMap encR) rfl hfl ?qc2 (one_encR lx) ?qc4 ?qc5 ?qc6 ?_)
        case qc2 =>
          intro j u hj
          have hpos : 0 < lx.length := by
            have := (List.getElem?_eq_some_iff.1 hj).1
            omega
          obtain ⟨b, off, hp, hb, hc⟩ := HCL.out hpos
          obtain rfl : ad = ⟨b, off, none⟩ := by simpa using hp
          rw [Go.WideShapes.add_plain]
          exact SlAt.flat_cells (enc := encR) (by decide) (fun _ => rfl) hc j u hj
        case qc4 => unfold maxLen; have := HLE.out; omega
        case qc5 => have := HLE.out; omega
        case qc6 => exact HB1.out.size
        intro v' w2 hown2 hgrow hnil
        have HB2 := Lib.hid (HB1.out.grown hgrow HB1.out.size (owns_block HO1.out))
        have HO2 := Lib.hid hown2
        clear hown2 hgrow hnil hfl
        go_wp2
        go_roundw
        case rel => exact ⟨k + 1, by go_num, by omega, by rw [HE.out, List.length_append, List.flatMap_append]; exact HO2.out, HB2.out⟩
        case measure => simp [intOf] <;> omega
    · obtain rfl : k = n := by omega
      have HXS := Lib.hid (show xs.take k = xs by rw [List.take_of_length_le (by have := HN.out; omega)])
      rw [HXS.out] at HO ⊢
      have HDEL := Lib.hid (delFuncR (fun r => decide (now ≤ r.1)) 94 #[.pointer (some ⟨w.heap.size, 0, none⟩)] eg94 W1.heap.size W1 _ (allX xs) wr (lateU w.heap.size now W1.heap.size W1 hz1 HQ.out) HB.out HB.out.size HO.out (by have := HL.out; omega))
      have HFL := Lib.hid (show (List.filter (fun r : Rel => decide (r.1 < now)) (allX xs)).length < 20 by have := List.length_filter_le (fun r : Rel => decide (r.1 < now)) (allX xs); have := HL.out; omega)
      generalize (allX xs).length = m at *
      go_wp2_with fail
      with_reducible refine HDEL.out.mono ?_
      rintro e w1 hp
      unfold DelPost at hp
      rw [late_not] at hp
      obtain ⟨v2, rfl, ho2, hb2⟩ := hp
      have HB2 := Lib.hid (HB.out.trans hb2)
      obtain ⟨p2, c2, rfl⟩ := row_slice ho2
      have HSORT := Lib.hid (sortR W1.heap.size _ _ w1 HB2.out.size ho2 HFL.out)
      have HSR := Lib.hid (seenR_of now (allX xs))
      clear ho2 hb2
      generalize (List.filter (fun r : Rel => decide (r.1 < now)) (allX xs)).length = m2 at *
      go_wp2_with fail
      with_reducible refine HSORT.out.mono ?_
      rintro e w3 ⟨rfl, ho3, hb3⟩
      have HO3 := Lib.hid ho3
      have HB3 := Lib.hid (HB2.out.trans hb3)
      clear ho3 hb3
      go_wp2
      go_ret
      refine HFIN.out _ _ ?_ (HB0.out.trans (HB3.out.mono HB0.out.size))
      rw [HSR.out]
      exact SlAt.of_owns (enc := encR) (k := 5) encR_len HO3.out
end Go.Proofs.YtbbcicengfmhiaaDoor

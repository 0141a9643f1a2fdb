/- run.Status, is, State, done. No condition but the run's own. run.find, held, open. No condition but the run's own. run.held, open; of none. No condition but the run's own. run.Best, run.Find. No condition but the run's own. run.Find. No condition but the run's own. -/
import Derived.Test.YtbbcicengfmhiaaGreatDoorM2
import Derived.Test.YtbbcicengfmhiaaGreatDoorLsT
import Derived.Test.YtbbcicengfmhiaaGreatDoorMan2
import Derived.Deep.QuietTactic
import Derived.BigQuiet
namespace Go.Proofs.YtbbcicengfmhiaaGreatDoor
set_option maxRecDepth 100000
open Go.RowKit

abbrev RAt := RunAt 96 109
def dI (d : Bool) : Int := if d = true then 1 else 0
theorem st_none {ps : List PartV} (h : ∀ m, m < ps.length → ¬ ps[m]!.try_.st = 4) (d : Bool) (hd : d = (ps.take ps.length).all fun p => p.try_.st == 3) : stPs ps = dI d := by
  unfold stPs
  have h1 : (ps.any fun p => p.try_.st == 4) = false := by
    rw [List.any_eq_false]
    intro p hp
    obtain ⟨m, hm, rfl⟩ := List.getElem_of_mem hp
    have := h m hm
    rw [getElem!_pos ps m hm] at this
    simpa using this
  rw [h1, hd, List.take_length, dI]
  rfl
theorem st_hit {ps : List PartV} {k : Nat} (hk : k < ps.length) (h : ps[k]!.try_.st = 4) : stPs ps = 2 := by
  unfold stPs
  rw [if_pos]
  rw [List.any_eq_true]
  exact ⟨ps[k], List.getElem_mem hk, by rw [← getElem!_pos ps k hk]; simpa using h⟩
theorem all_succ {ps : List PartV} {k : Nat} (hk : k < ps.length) (f : PartV → Bool) : (ps.take (k + 1)).all f = ((ps.take k).all f && f ps[k]!) := by
  rw [List.take_succ_eq_append_getElem hk, List.all_append, getElem!_pos ps k hk]
  simp
set_option maxHeartbeats 2000000 in
theorem runStatus (b g : Nat) (tv : Value) (c : Nat) (J : List Value) (R : RunM) (w : World) (h : RAt b g tv c J R w) (hn : R.ps.length ≤ 1000) :
    Calls Tryz.prog 26 #[.pointer (some ⟨b, 0, none⟩)] w fun e w' => e = .returned (.int .i64 (statusM R)) ∧ Below w.heap.size w w' := by
  have HR := Lib.hid h
  obtain ⟨h0, h1, h2, h3⟩ := h.head
  have hb := h.blk.lt
  have hg := h.row.lt
  clear h
  cases ho : R.over with
  | true =>
    rw [ho] at h3
    rw [show statusM R = 3 by simp [statusM, ho]]
    generalize R.ps.length = n at *
    go_enter Tryz.func26, Tryz.ntmps26
    go_wp2
    go_ret
    exact ⟨rfl, Below.refl _ _⟩
  | false =>
    rw [ho] at h3
    rw [show statusM R = stPs R.ps by simp [statusM, ho]]
    have HC := Lib.hid (fun (j : Nat) (hj : j < R.ps.length) (wr : World) (hb : Below w.heap.size w wr) => (HR.out.below hb).cells hj)
    have HV := Lib.hid (fun (j : Nat) (hj : j < R.ps.length) => HR.out.vsl hj)
    have HN := Lib.hid (fun (hh : ∀ m, m < R.ps.length → ¬ R.ps[m]!.try_.st = 4) (d : Bool) => st_none hh d)
    have HH := Lib.hid (fun (k : Nat) (hk : k < R.ps.length) => st_hit (ps := R.ps) hk)
    have HA := Lib.hid (fun (k : Nat) (hk : k < R.ps.length) => all_succ (ps := R.ps) hk fun p => p.try_.st == 3)
    generalize hps : R.ps = ps at *
    generalize hl : ps.length = n at *
    clear hps
    go_enter Tryz.func26, Tryz.ntmps26
    go_wp2
    go_loopw [3, 5, 19] (fun s3 _ s19 wr => ∃ (k : Nat) (d : Bool), s19 = .int .i64 k ∧ k ≤ n ∧ s3 = .int .i64 (dI d) ∧ d = ((ps.take k).all fun p => p.try_.st == 3) ∧ (∀ m, m < k → ¬ ps[m]!.try_.st = 4) ∧ Below w.heap.size w wr) (fun _ _ s19 _ => n - (intOf s19).toNat)
    case atStart => exact ⟨0, true, by go_num, by omega, rfl, rfl, fun m hm => by omega, Below.refl _ _⟩
    case round =>
      obtain ⟨k, d, rfl, hk, rfl, hd, hno, hB⟩ := hrel
      have HD := Lib.hid hd
      have HNO := Lib.hid hno
      have HB := Lib.hid hB
      clear hd hno hB
      by_cases hlt : k < n
      · have hltz : (k : Int) < (n : Int) := by omega
        obtain ⟨c0, c1, c2, c3, c4, c5, c6, c7, c8⟩ := HC.out k hlt wr HB.out
        obtain ⟨qv, mv, ccv, hvs⟩ := HV.out k hlt
        have HHk := Lib.hid (HH.out k hlt)
        have HAk := Lib.hid (HA.out k hlt)
        have HNk := Lib.hid (fun (hh : ¬ ps[k]!.try_.st = 4) m (hm : m < k + 1) => (show ¬ ps[m]!.try_.st = 4 by by_cases e : m = k; (rw [e]; exact hh); exact HNO.out m (by omega)))
        generalize ps[k]! = p at *
        obtain ⟨⟨s, si, mi, wk, ls, ti⟩, out, vs, yes, no⟩ := p
        obtain rfl : vs = .slice qv mv ccv := hvs
        have HBX := Lib.hid (HB.out.trans ((below1 wr (.cells #[.int .i64 s, .int .i64 si, .int .i64 mi, .int .i64 wk, .int .i64 ls, .int .i64 ti, .string out, (.slice qv mv ccv), .bool no] 109)).mono HB.out.size))
        by_cases h4 : s = 4
        · have HF := Lib.hid (HHk.out h4)
          have h4b : (s == 4) = true := by simpa using h4
          clear h4
          go_wp2
          go_ret
          exact ⟨by rw [HF.out]; rfl, HBX.out⟩
        · have h4b : (s == 4) = false := by simpa using h4
          have HNN := Lib.hid (HNk.out h4)
          by_cases h3' : s = 3
          · have h3b : (s == 3) = true := by simpa using h3'
            have HDD := Lib.hid (show d = (ps.take (k + 1)).all fun p => p.try_.st == 3 by rw [HAk.out, ← HD.out]; simp [h3'])
            clear h4 h3'
            go_wp2
            go_roundw
            case rel => exact ⟨k + 1, d, by go_num, by omega, rfl, HDD.out, HNN.out, HBX.out⟩
            case measure => simp [intOf] <;> omega
          · have h3b : (s == 3) = false := by simpa using h3'
            have HDD := Lib.hid (show false = (ps.take (k + 1)).all fun p => p.try_.st == 3 by rw [HAk.out]; simp [h3'])
            clear h4 h3'
            go_wp2
            go_roundw
            case rel => exact ⟨k + 1, false, by go_num, by omega, rfl, HDD.out, HNN.out, HBX.out⟩
            case measure => simp [intOf] <;> omega
      · obtain rfl : k = n := by omega
        have HF := Lib.hid (HN.out HNO.out d HD.out)
        go_wp2
        go_ret
        exact ⟨by rw [HF.out]; rfl, HB.out⟩
theorem runStatusNil (w : World) : Calls Tryz.prog 26 #[.pointer none] w fun e w' => e = .returned (.int .i64 2) ∧ w = w' := by
  go_enter Tryz.func26, Tryz.ntmps26
  go_wp2
  go_ret
  exact ⟨rfl, rfl⟩
/-- is there such a place -/
def isP (n : Nat) (i : Int) : Bool := decide (0 ≤ i) && decide (i < (n : Int))
theorem runIs (b g : Nat) (tv : Value) (c : Nat) (J : List Value) (R : RunM) (i : Int) (w : World) (h : RAt b g tv c J R w) :
    Calls Tryz.prog 71 #[.pointer (some ⟨b, 0, none⟩), .int .i64 i] w fun e w' => e = .returned (.bool (isP R.ps.length i)) ∧ w = w' := by
  obtain ⟨h0, h1, h2, h3⟩ := h.head
  clear h
  generalize R.ps.length = n at *
  by_cases h4 : 0 ≤ i
  · rw [show isP n i = decide (i < (n : Int)) by simp [isP, h4]]
    go_enter Tryz.func71, Tryz.ntmps71
    go_wp2
    go_ret
    exact ⟨rfl, rfl⟩
  · rw [show isP n i = false by simp [isP, h4]]
    go_enter Tryz.func71, Tryz.ntmps71
    go_wp2
    go_ret
    exact ⟨rfl, rfl⟩
theorem runIsNil (i : Int) (w : World) : Calls Tryz.prog 71 #[.pointer none, .int .i64 i] w fun e w' => e = .returned (.bool false) ∧ w = w' := by
  go_enter Tryz.func71, Tryz.ntmps71
  go_wp2
  go_ret
  exact ⟨rfl, rfl⟩
theorem runState (b g : Nat) (tv : Value) (c : Nat) (J : List Value) (R : RunM) (k : Nat) (w : World) (h : RAt b g tv c J R w) (hk : k < R.ps.length) :
    Calls Tryz.prog 34 #[.pointer (some ⟨b, 0, none⟩), .int .i64 k] w fun e w' => e = .returned (.int .i64 R.ps[k]!.try_.st) ∧ w = w' := by
  have K := runIs b g tv c J R k w h
  rw [show isP R.ps.length k = true by simp [isP]; omega] at K
  have K := Lib.hid K
  obtain ⟨h0, h1, h2, h3⟩ := h.head
  have c0 := (h.cells hk).1
  have hkz : (k : Int) < (R.ps.length : Int) := by omega
  clear h
  generalize R.ps.length = n at *
  generalize R.ps[k]!.try_.st = s at *
  go_enter Tryz.func34, Tryz.ntmps34
  go_wp2_with fail
  refine K.out.mono ?_
  rintro e w1 ⟨rfl, rfl⟩
  go_wp2
  go_ret
  exact ⟨rfl, rfl⟩
theorem runStateNil (i : Int) (w : World) : Calls Tryz.prog 34 #[.pointer none, .int .i64 i] w fun e w' => e = .returned (.int .i64 (-1)) ∧ w = w' := by
  go_enter Tryz.func34, Tryz.ntmps34
  go_wp2_with fail
  refine (runIsNil i w).mono ?_
  rintro e w1 ⟨rfl, rfl⟩
  go_wp2
  go_ret
  exact ⟨rfl, rfl⟩
theorem runDone (b g : Nat) (tv : Value) (c : Nat) (J : List Value) (R : RunM) (k : Nat) (w : World) (h : RAt b g tv c J R w) (hk : k < R.ps.length) :
    Calls Tryz.prog 103 #[.pointer (some ⟨b, 0, none⟩), .int .i64 k] w fun e w' => e = .returned (.bool (R.ps[k]!.try_.st == 3)) ∧ w = w' := by
  obtain ⟨h0, h1, h2, h3⟩ := h.head
  have c0 := (h.cells hk).1
  have hkz : (k : Int) < (R.ps.length : Int) := by omega
  clear h
  generalize R.ps.length = n at *
  generalize R.ps[k]!.try_.st = s at *
  go_enter Tryz.func103, Tryz.ntmps103
  go_wp2
  go_ret
  exact ⟨rfl, rfl⟩
end Go.Proofs.YtbbcicengfmhiaaGreatDoor

namespace Go.Proofs.YtbbcicengfmhiaaGreatDoor
set_option maxRecDepth 100000
open Go.RowKit

def tvOf (tb tf tc : Nat) (R : RunM) : Value := .slice (some ⟨tb, tf, none⟩) R.ts.length tc
/-- what is wrong with a task, or a gate -/
def findE (R : RunM) (i : Int) (gate : Bool) : Int :=
  if isP R.ps.length i = false then 2 else if decide (0 < R.ts[i.toNat]!.need) != gate then 2 else if statusM R ≠ 0 then 12 else 0
def FindPost (g tb tf : Nat) (i : Int) (en : Int) (w : World) (e : Ending) (w' : World) : Prop :=
  e = .returned (.tuple #[if en = 0 then .pointer (some ⟨g, i.toNat * 9, none⟩) else .pointer none, if en = 0 then .pointer (some ⟨tb, tf + i.toNat * 7, none⟩) else .pointer none, .int .i64 en]) ∧ Below w.heap.size w w'
theorem FindPost.no {g tb tf : Nat} {i en : Int} {w w' : World} (h : en ≠ 0) (hb : Below w.heap.size w w') : FindPost g tb tf i en w (.returned (.tuple #[.pointer none, .pointer none, .int .i64 en])) w' := by
  unfold FindPost
  rw [if_neg h, if_neg h]
  exact ⟨rfl, hb⟩
set_option maxHeartbeats 2000000 in
theorem runFind (b g tb tf tc c : Nat) (J : List Value) (R : RunM) (i : Int) (gate : Bool) (w : World) (h : RAt b g (tvOf tb tf tc R) c J R w) (hn : R.ps.length ≤ 1000) :
    Calls Tryz.prog 60 #[.pointer (some ⟨b, 0, none⟩), .int .i64 i, .bool gate] w (FindPost g tb tf i (findE R i gate) w) := by
  have KS := Lib.hid (runStatus b g _ c J R w h hn)
  have HR := Lib.hid h
  obtain ⟨h0, h1, h2, h3⟩ := h.head
  have hb := h.blk.lt
  have hlen := h.len
  unfold tvOf at h1
  by_cases hi0 : i < 0
  · have hE : findE R i gate = 2 := by
      unfold findE
      rw [if_pos (by simp [isP]; omega)]
    have HF := Lib.hid (fun w' (hb : Below w.heap.size w w') => FindPost.no (g := g) (tb := tb) (tf := tf) (i := i) (en := findE R i gate) (w := w) (w' := w') (by rw [hE]; decide) hb)
    rw [hE] at HF ⊢
    clear h hE
    generalize R.ps.length = n at *
    go_enter Tryz.func60, Tryz.ntmps60
    go_wp2
    go_ret3
    exact HF.out _ (Below.refl _ _)
  · obtain ⟨k, rfl⟩ := Int.eq_ofNat_of_zero_le (show 0 ≤ i by omega)
    have hk0 : (0 : Int) ≤ (k : Int) := by omega
    clear hi0
    by_cases hkn : k < R.ps.length
    · have hip : isP R.ps.length (k : Int) = true := by simp [isP]; omega
      have ht : TaskAt w tb (tf + k * 7) R.ts[k]! := (show TasksAt w (.slice (some ⟨tb, tf, none⟩) R.ts.length tc) R.ts from h.tasks).at (by omega)
      have htc := ht.cells
      have hkz : (k : Int) < (R.ps.length : Int) := by omega
      have hkt : (k : Int) < (R.ts.length : Int) := by omega
      have tneed := htc.2.2.2.2.1
      by_cases hgate : decide (0 < R.ts[k]!.need) = gate
      · subst hgate
        have hE : findE R (k : Int) (decide (0 < R.ts[k]!.need)) = if statusM R ≠ 0 then 12 else 0 := by
          unfold findE
          rw [hip, if_neg (by decide), Int.toNat_natCast]
          simp
        by_cases hst : statusM R = 0
        · rw [hE, if_neg (by simp [hst])]
          rw [hst] at KS
          have HT := Lib.hid ht
          clear h htc ht hE hst
          rw [hlen] at hkt h1
          generalize R.ts[k]!.need = nd at *
          generalize hnn : R.ps.length = n at *
          have HNN := Lib.hid hnn
          clear hnn
          have HF := Lib.hid (fun w' (hb : Below w.heap.size w w') => (show FindPost g tb tf (k : Int) 0 w (.returned (.tuple #[.pointer (some ⟨g, k * 9, none⟩), .pointer (some ⟨tb, tf + k * 7, none⟩), .int .i64 0])) w' from ⟨rfl, hb⟩))
          cases hnd : decide (0 < nd)
          all_goals
            go_enter Tryz.func60, Tryz.ntmps60
            go_wp2_with fail
            refine KS.out.mono ?_
            rintro e w1 ⟨rfl, hb1⟩
            have HB1 := Lib.hid hb1
            obtain ⟨d0, d1, d2, d3⟩ := (HR.out.below hb1).head
            unfold tvOf at d1
            rw [hlen] at d1
            rw [HNN.out] at d2
            clear h0 h1 h2 h3 hb1 tneed
            go_wp2_with fail
            go_quiet (fail)
            go_wp2
            go_ret3
            exact HF.out _ (belowN HB1.out _)
        · have HS := Lib.hid hst
          rw [hE, if_pos hst]
          have HF := Lib.hid (fun w' (hb : Below w.heap.size w w') => FindPost.no (g := g) (tb := tb) (tf := tf) (i := (k : Int)) (en := 12) (w := w) (w' := w') (by decide) hb)
          have hs1 : (statusM R != 0) = true := by simpa using hst
          clear h htc ht hE hst
          rw [hlen] at hkt h1
          generalize R.ts[k]!.need = nd at *
          generalize R.ps.length = n at *
          generalize statusM R = sm at *
          cases hnd : decide (0 < nd)
          all_goals
            go_enter Tryz.func60, Tryz.ntmps60
            go_wp2_with fail
            refine KS.out.mono ?_
            rintro e w1 ⟨rfl, hb1⟩
            have HB1 := Lib.hid hb1
            clear hb1
            go_wp2
            go_ret3
            exact HF.out _ HB1.out
      · have hE : findE R (k : Int) gate = 2 := by
          unfold findE
          rw [hip, if_neg (by decide), Int.toNat_natCast, if_pos (by simpa using hgate)]
        rw [hE]
        have HF := Lib.hid (fun w' (hb : Below w.heap.size w w') => FindPost.no (g := g) (tb := tb) (tf := tf) (i := (k : Int)) (en := 2) (w := w) (w' := w') (by decide) hb)
        have hg1 : (decide (0 < R.ts[k]!.need) != gate) = true := by simpa using hgate
        clear h htc ht hE hgate
        rw [hlen] at hkt h1
        generalize R.ts[k]!.need = nd at *
        generalize R.ps.length = n at *
        cases hnd : decide (0 < nd) <;> cases gate
        all_goals
          first
          | (rw [hnd] at hg1; exact absurd hg1 (by decide))
          | (clear hg1
             go_enter Tryz.func60, Tryz.ntmps60
             go_wp2
             go_ret3
             exact HF.out _ (Below.refl _ _))
    · have hE : findE R (k : Int) gate = 2 := by
        unfold findE
        rw [if_pos (by simp [isP]; omega)]
      rw [hE]
      have HF := Lib.hid (fun w' (hb : Below w.heap.size w w') => FindPost.no (g := g) (tb := tb) (tf := tf) (i := (k : Int)) (en := 2) (w := w) (w' := w') (by decide) hb)
      have hkz : ¬ ((k : Int) < (R.ps.length : Int)) := by omega
      clear h hE hkn
      generalize R.ps.length = n at *
      go_enter Tryz.func60, Tryz.ntmps60
      go_wp2
      go_ret3
      exact HF.out _ (Below.refl _ _)
end Go.Proofs.YtbbcicengfmhiaaGreatDoor

namespace Go.Proofs.YtbbcicengfmhiaaGreatDoor
set_option maxRecDepth 100000
open Go.RowKit

def stE (R : RunM) (i : Int) (gate : Bool) (want : Int) : Int := if findE R i gate = 0 then (if R.ps[i.toNat]!.try_.st = want then 0 else 12) else findE R i gate
def HeldPost (g tb tf : Nat) (i : Int) (e0 en : Int) (w : World) (e : Ending) (w' : World) : Prop :=
  e = .returned (.tuple #[if e0 = 0 then .pointer (some ⟨g, i.toNat * 9, none⟩) else .pointer none, if e0 = 0 then .pointer (some ⟨tb, tf + i.toNat * 7, none⟩) else .pointer none, .int .i64 en]) ∧ Below w.heap.size w w'
theorem findE_in {R : RunM} {i : Int} {gate : Bool} (h : findE R i gate = 0) : ∃ k : Nat, i = k ∧ k < R.ps.length ∧ decide (0 < R.ts[k]!.need) = gate ∧ statusM R = 0 := by
  unfold findE at h
  cases h1 : isP R.ps.length i with
  | false => rw [h1] at h; simp at h
  | true =>
    rw [h1] at h
    simp [isP] at h1
    refine ⟨i.toNat, by omega, by omega, ?_⟩
    rw [if_neg (by decide)] at h
    cases h2 : (decide (0 < R.ts[i.toNat]!.need) != gate) with
    | true => rw [h2] at h; simp at h
    | false =>
      rw [h2] at h
      refine ⟨by simpa using h2, ?_⟩
      rw [if_neg (by decide)] at h
      rcases Decidable.em (statusM R = 0) with h3 | h3
      · exact h3
      · rw [if_pos h3] at h; cases h
theorem runFindNil (i : Int) (gate : Bool) (w : World) : Calls Tryz.prog 60 #[.pointer none, .int .i64 i, .bool gate] w fun e w' => e = .returned (.tuple #[.pointer none, .pointer none, .int .i64 8]) ∧ w = w' := by
  go_enter Tryz.func60, Tryz.ntmps60
  go_wp2
  go_ret3
  exact ⟨rfl, rfl⟩
theorem runHeldNil (i : Int) (w : World) : Calls Tryz.prog 62 #[.pointer none, .int .i64 i] w fun e w' => e = .returned (.tuple #[.pointer none, .pointer none, .int .i64 8]) ∧ w = w' := by
  go_enter Tryz.func62, Tryz.ntmps62
  go_wp2_with fail
  refine (runFindNil i false w).mono ?_
  rintro e w1 ⟨rfl, rfl⟩
  go_wp2
  go_ret3
  exact ⟨rfl, rfl⟩
set_option maxHeartbeats 2000000 in
theorem runHeld (b g tb tf tc c : Nat) (J : List Value) (R : RunM) (i : Int) (w : World) (h : RAt b g (tvOf tb tf tc R) c J R w) (hn : R.ps.length ≤ 1000) :
    Calls Tryz.prog 62 #[.pointer (some ⟨b, 0, none⟩), .int .i64 i] w (HeldPost g tb tf i (findE R i false) (stE R i false 2) w) := by
  have KF := Lib.hid (runFind b g tb tf tc c J R i false w h hn)
  have HR := Lib.hid h
  clear h
  by_cases he : findE R i false = 0
  · obtain ⟨k, rfl, hk, _, _⟩ := findE_in he
    have hE : stE R (k : Int) false 2 = if R.ps[k]!.try_.st = 2 then 0 else 12 := by unfold stE; rw [if_pos he, Int.toNat_natCast]
    rw [hE, he]
    rw [he] at KF
    have HF := Lib.hid (fun (en : Int) w' (hb : Below w.heap.size w w') => (show HeldPost g tb tf (k : Int) 0 en w (.returned (.tuple #[.pointer (some ⟨g, k * 9, none⟩), .pointer (some ⟨tb, tf + k * 7, none⟩), .int .i64 en])) w' from ⟨rfl, hb⟩))
    clear hE he
    by_cases hs : R.ps[k]!.try_.st = 2
    all_goals
      first | rw [if_pos hs] | rw [if_neg hs]
      go_enter Tryz.func62, Tryz.ntmps62
      go_wp2_with fail
      refine KF.out.mono ?_
      rintro e w1 hp
      unfold FindPost at hp
      rw [if_pos rfl, if_pos rfl, Int.toNat_natCast] at hp
      obtain ⟨rfl, hb⟩ := hp
      have c0 := ((HR.out.below hb).cells hk).1
      have HB := Lib.hid hb
      clear hb hk
      generalize R.ps[k]!.try_.st = s at *
      have h1 : (s == 2) = decide (s = 2) := by rw [Bool.eq_iff_iff]; simp
      have h2 : (s != 2) = !decide (s = 2) := by rw [← h1]; rfl
      first | rw [decide_eq_true hs] at h1 h2 | rw [decide_eq_false hs] at h1 h2
      simp only [Bool.not_true, Bool.not_false] at h2
      clear hs
      go_wp2
      go_ret3
      exact HF.out _ _ HB.out
  · rw [show stE R i false 2 = findE R i false by unfold stE; rw [if_neg he]]
    have HF := Lib.hid (fun w' (hb : Below w.heap.size w w') => (show HeldPost g tb tf i (findE R i false) (findE R i false) w (.returned (.tuple #[.pointer none, .pointer none, .int .i64 (findE R i false)])) w' from by unfold HeldPost; rw [if_neg he, if_neg he]; exact ⟨rfl, hb⟩))
    have hz : (findE R i false == 0) = false := by simpa using he
    generalize findE R i false = en at *
    go_enter Tryz.func62, Tryz.ntmps62
    go_wp2_with fail
    refine KF.out.mono ?_
    rintro e w1 hp
    unfold FindPost at hp
    rw [if_neg he, if_neg he] at hp
    obtain ⟨rfl, hb⟩ := hp
    have HB := Lib.hid hb
    clear hb he
    go_wp2
    go_ret3
    exact HF.out _ HB.out
theorem runOpenNil (i : Int) (w : World) : Calls Tryz.prog 67 #[.pointer none, .int .i64 i] w fun e w' => e = .returned (.tuple #[.pointer none, .pointer none, .int .i64 8]) ∧ w = w' := by
  go_enter Tryz.func67, Tryz.ntmps67
  go_wp2_with fail
  refine (runFindNil i true w).mono ?_
  rintro e w1 ⟨rfl, rfl⟩
  go_wp2
  go_ret3
  exact ⟨rfl, rfl⟩
set_option maxHeartbeats 2000000 in
theorem runOpen (b g tb tf tc c : Nat) (J : List Value) (R : RunM) (i : Int) (w : World) (h : RAt b g (tvOf tb tf tc R) c J R w) (hn : R.ps.length ≤ 1000) :
    Calls Tryz.prog 67 #[.pointer (some ⟨b, 0, none⟩), .int .i64 i] w (HeldPost g tb tf i (findE R i true) (stE R i true 1) w) := by
  have KF := Lib.hid (runFind b g tb tf tc c J R i true w h hn)
  have HR := Lib.hid h
  clear h
  by_cases he : findE R i true = 0
  · obtain ⟨k, rfl, hk, _, _⟩ := findE_in he
    have hE : stE R (k : Int) true 1 = if R.ps[k]!.try_.st = 1 then 0 else 12 := by unfold stE; rw [if_pos he, Int.toNat_natCast]
    rw [hE, he]
    rw [he] at KF
    have HF := Lib.hid (fun (en : Int) w' (hb : Below w.heap.size w w') => (show HeldPost g tb tf (k : Int) 0 en w (.returned (.tuple #[.pointer (some ⟨g, k * 9, none⟩), .pointer (some ⟨tb, tf + k * 7, none⟩), .int .i64 en])) w' from ⟨rfl, hb⟩))
    clear hE he
    by_cases hs : R.ps[k]!.try_.st = 1
    all_goals
      first | rw [if_pos hs] | rw [if_neg hs]
      go_enter Tryz.func67, Tryz.ntmps67
      go_wp2_with fail
      refine KF.out.mono ?_
      rintro e w1 hp
      unfold FindPost at hp
      rw [if_pos rfl, if_pos rfl, Int.toNat_natCast] at hp
      obtain ⟨rfl, hb⟩ := hp
      have c0 := ((HR.out.below hb).cells hk).1
      have HB := Lib.hid hb
      clear hb hk
      generalize R.ps[k]!.try_.st = s at *
      have h1 : (s == 1) = decide (s = 1) := by rw [Bool.eq_iff_iff]; simp
      have h2 : (s != 1) = !decide (s = 1) := by rw [← h1]; rfl
      first | rw [decide_eq_true hs] at h1 h2 | rw [decide_eq_false hs] at h1 h2
      simp only [Bool.not_true, Bool.not_false] at h2
      clear hs
      go_wp2
      go_ret3
      exact HF.out _ _ HB.out
  · rw [show stE R i true 1 = findE R i true by unfold stE; rw [if_neg he]]
    have HF := Lib.hid (fun w' (hb : Below w.heap.size w w') => (show HeldPost g tb tf i (findE R i true) (findE R i true) w (.returned (.tuple #[.pointer none, .pointer none, .int .i64 (findE R i true)])) w' from by unfold HeldPost; rw [if_neg he, if_neg he]; exact ⟨rfl, hb⟩))
    have hz : (findE R i true == 0) = false := by simpa using he
    generalize findE R i true = en at *
    go_enter Tryz.func67, Tryz.ntmps67
    go_wp2_with fail
    refine KF.out.mono ?_
    rintro e w1 hp
    unfold FindPost at hp
    rw [if_neg he, if_neg he] at hp
    obtain ⟨rfl, hb⟩ := hp
    have HB := Lib.hid hb
    clear hb he
    go_wp2
    go_ret3
    exact HF.out _ HB.out
end Go.Proofs.YtbbcicengfmhiaaGreatDoor

namespace Go.Proofs.YtbbcicengfmhiaaGreatDoor
set_option maxRecDepth 100000
open Go.RowKit

def candB (R : RunM) (now : Int) (k : Nat) : Bool := !(decide (0 < R.ts[k]!.need) || ((R.ps[k]!.try_.st != 1) || decide (now < R.ps[k]!.try_.since)))
def bestP (R : RunM) (now : Int) : Nat → Int × Int
  | 0 => (-1, 0)
  | k + 1 => if candB R now k = true then (if (bestP R now k).1 < 0 ∨ R.ps[k]!.try_.since < (bestP R now k).2 then ((k : Int), R.ps[k]!.try_.since) else bestP R now k) else bestP R now k
def bestM (R : RunM) (now : Int) : Int × Int := if statusM R ≠ 0 then (-1, 0) else bestP R now R.ps.length
theorem bestP_pos (R : RunM) (now : Int) : ∀ k, -1 ≤ (bestP R now k).1
  | 0 => by simp [bestP]
  | k + 1 => by
    have := bestP_pos R now k
    unfold bestP
    split
    · split
      · show (-1 : Int) ≤ (k : Int); omega
      · exact this
    · exact this
def BestPost (x : Int × Int) (w : World) (e : Ending) (w' : World) : Prop := e = .returned (.tuple #[.int .i64 x.1, .int .i64 x.2, .bool (decide (0 ≤ x.1))]) ∧ Below w.heap.size w w'
theorem runBestNil (now : Int) (w : World) : Calls Tryz.prog 27 #[.pointer none, .int .i64 now] w (BestPost (-1, 0) w) := by
  have HF := Lib.hid (show BestPost (-1, 0) w (.returned (.tuple #[.int .i64 (-1), .int .i64 0, .bool false])) w from ⟨rfl, Below.refl _ _⟩)
  go_enter Tryz.func27, Tryz.ntmps27
  go_wp2_with fail
  refine (runStatusNil w).mono ?_
  rintro e w1 ⟨rfl, rfl⟩
  go_wp2
  go_ret3
  exact HF.out
set_option maxHeartbeats 4000000 in
theorem runBest (b g tb tf tc c : Nat) (J : List Value) (R : RunM) (now : Int) (w : World) (h : RAt b g (tvOf tb tf tc R) c J R w) (hn : R.ps.length ≤ 1000) :
    Calls Tryz.prog 27 #[.pointer (some ⟨b, 0, none⟩), .int .i64 now] w (BestPost (bestM R now) w) := by
  have KS := Lib.hid (runStatus b g _ c J R w h hn)
  by_cases hs : statusM R = 0
  · rw [show bestM R now = bestP R now R.ps.length by simp [bestM, hs]]
    rw [hs] at KS
    have HFIN := Lib.hid (fun (k : Nat) (w' : World) (hb : Below w.heap.size w w') => (show BestPost (bestP R now k) w (.returned (.tuple #[.int .i64 (bestP R now k).1, .int .i64 (bestP R now k).2, .bool (decide (0 ≤ (bestP R now k).1))])) w' from ⟨rfl, hb⟩))
    have HC := Lib.hid (fun (j : Nat) (hj : j < R.ps.length) (wr : World) (hb : Below w.heap.size w wr) => (h.below hb).cells hj)
    have HV := Lib.hid (fun (j : Nat) (hj : j < R.ps.length) => h.vsl hj)
    have HH := Lib.hid (fun (wr : World) (hb : Below w.heap.size w wr) => (h.below hb).head)
    have HT := Lib.hid (fun (j : Nat) (hj : j < R.ps.length) (wr : World) (hb : Below w.heap.size w wr) => ((show TasksAt wr (.slice (some ⟨tb, tf, none⟩) R.ts.length tc) R.ts from (h.below hb).tasks).at (by rw [h.len]; exact hj)).cells.2.2.2.2.1)
    have HLEN := Lib.hid h.len
    have hbz := h.blk.lt
    have hgz := h.row.lt
    have HTZ := Lib.hid (fun (j : Nat) (hj : j < R.ps.length) => ((show TasksAt w (.slice (some ⟨tb, tf, none⟩) R.ts.length tc) R.ts from h.tasks).at (j := j) (by rw [h.len]; exact hj)).1)
    have HST := Lib.hid (fun (k : Nat) => (show bestP R now (k + 1) = if candB R now k = true then (if (bestP R now k).1 < 0 ∨ R.ps[k]!.try_.since < (bestP R now k).2 then ((k : Int), R.ps[k]!.try_.since) else bestP R now k) else bestP R now k from rfl))
    have HPOS := Lib.hid (bestP_pos R now)
    clear h hs
    generalize hnn : R.ps.length = n at *
    have HNN := Lib.hid hnn
    clear hnn
    go_enter Tryz.func27, Tryz.ntmps27
    go_wp2_with fail
    refine KS.out.mono ?_
    rintro e w1 ⟨rfl, hb⟩
    have HB1 := Lib.hid hb
    obtain ⟨_, _, d2, _⟩ := HH.out _ hb
    clear hb
    go_wp2
    go_loopw [4, 5, 18] (fun s4 s5 s18 wr => ∃ k : Nat, s18 = .int .i64 k ∧ k ≤ n ∧ s4 = .int .i64 (bestP R now k).1 ∧ s5 = .int .i64 (bestP R now k).2 ∧ Below w.heap.size w wr) (fun _ _ s18 _ => n - (intOf s18).toNat)
    case atStart => exact ⟨0, by go_num, by omega, rfl, rfl, HB1.out⟩
    case round =>
      obtain ⟨k, rfl, hk, rfl, rfl, hB⟩ := hrel
      have HB := Lib.hid hB
      clear hB
      by_cases hlt : k < n
      · have hltz : (k : Int) < (n : Int) := by omega
        obtain ⟨c0, c1, c2, c3, c4, c5, c6, c7, c8⟩ := HC.out k hlt wr HB.out
        obtain ⟨qv, mv, ccv, hvs⟩ := HV.out k hlt
        obtain ⟨e0, e1, e2, e3⟩ := HH.out wr HB.out
        unfold tvOf at e1
        rw [HLEN.out] at e1
        have tn := HT.out k hlt wr HB.out
        have hbz2 : b < wr.heap.size := Nat.lt_of_lt_of_le hbz HB.out.size
        have hgz2 : g < wr.heap.size := Nat.lt_of_lt_of_le hgz HB.out.size
        have htz2 : tb < wr.heap.size := Nat.lt_of_lt_of_le (HTZ.out k hlt) HB.out.size
        have HSk := Lib.hid (HST.out k)
        have HPk := Lib.hid (HPOS.out k)
        have HCB := Lib.hid (show candB R now k = !(decide (0 < R.ts[k]!.need) || ((R.ps[k]!.try_.st != 1) || decide (now < R.ps[k]!.try_.since))) from rfl)
        generalize R.ts[k]!.need = nd at *
        generalize R.ps[k]! = p at *
        generalize candB R now k = cb at *
        obtain ⟨nx, hnx⟩ : ∃ nx, bestP R now (k + 1) = nx := ⟨_, rfl⟩
        have HNXE := Lib.hid hnx
        rw [hnx] at HSk
        clear hnx
        generalize bestP R now k = bp at *
        obtain ⟨bt, bs⟩ := bp
        obtain ⟨⟨s, si, mi, wk, ls, ti⟩, out, vs, yes, no⟩ := p
        obtain rfl : vs = .slice qv mv ccv := hvs
        have HBX := Lib.hid (HB.out.trans ((below1 wr (.cells #[.int .i64 s, .int .i64 si, .int .i64 mi, .int .i64 wk, .int .i64 ls, .int .i64 ti, .string out, (.slice qv mv ccv), .bool no] 109)).mono HB.out.size))
        have hskip : cb = false → nx = (bt, bs) := fun e => by rw [HSk.out, e]; rfl
        by_cases hnd : 0 < nd
        · have HNX := Lib.hid (hskip (by rw [HCB.out]; simp [hnd]))
          clear hskip
          go_wp2
          go_roundw
          case rel => exact ⟨k + 1, by go_num, by omega, by rw [HNXE.out, HNX.out], by rw [HNXE.out, HNX.out], HBX.out⟩
          case measure => simp [intOf] <;> omega
        · have hnd2 : nd ≤ 0 := by omega
          by_cases hs1 : s = 1
          · by_cases hnow : now < si
            · have HNX := Lib.hid (hskip (by rw [HCB.out]; simp [hnow]))
              have h1 : (s != 1) = false := by simpa using hs1
              clear hskip hnd hs1
              go_wp2
              go_roundw
              case rel => exact ⟨k + 1, by go_num, by omega, by rw [HNXE.out, HNX.out], by rw [HNXE.out, HNX.out], HBX.out⟩
              case measure => simp [intOf] <;> omega
            · have hcb : cb = true := by rw [HCB.out]; simp [hs1]; omega
              have hnow2 : si ≤ now := by omega
              have h1 : (s != 1) = false := by simpa using hs1
              by_cases hbt : bt < 0
              · have HNX := Lib.hid (show nx = ((k : Int), si) by rw [HSk.out, if_pos hcb, if_pos (.inl hbt)])
                clear hskip hnd hs1 hnow hcb
                go_wp2_with fail
                go_quiet (fail)
                go_wp2
                go_roundw
                case rel => exact ⟨k + 1, by go_num, by omega, by rw [HNXE.out, HNX.out], by rw [HNXE.out, HNX.out], belowN HBX.out _⟩
                case measure => simp [intOf] <;> omega
              · by_cases hlt2 : si < bs
                · have HNX := Lib.hid (show nx = ((k : Int), si) by rw [HSk.out, if_pos hcb, if_pos (.inr hlt2)])
                  have hbt2 : 0 ≤ bt := by omega
                  clear hskip hnd hs1 hnow hcb hbt
                  go_wp2_with fail
                  go_quiet (fail)
                  go_wp2
                  go_roundw
                  case rel => exact ⟨k + 1, by go_num, by omega, by rw [HNXE.out, HNX.out], by rw [HNXE.out, HNX.out], belowN HBX.out _⟩
                  case measure => simp [intOf] <;> omega
                · have HNX := Lib.hid (show nx = (bt, bs) by rw [HSk.out, if_pos hcb, if_neg (by simp; omega)])
                  have hbt2 : 0 ≤ bt := by omega
                  have hlt3 : bs ≤ si := by omega
                  clear hskip hnd hs1 hnow hcb hbt hlt2
                  go_wp2
                  go_roundw
                  case rel => exact ⟨k + 1, by go_num, by omega, by rw [HNXE.out, HNX.out], by rw [HNXE.out, HNX.out], HBX.out⟩
                  case measure => simp [intOf] <;> omega
          · have HNX := Lib.hid (hskip (by rw [HCB.out]; simp [hs1]))
            have h1 : (s != 1) = true := by simpa using hs1
            clear hskip hnd hs1
            go_wp2
            go_roundw
            case rel => exact ⟨k + 1, by go_num, by omega, by rw [HNXE.out, HNX.out], by rw [HNXE.out, HNX.out], HBX.out⟩
            case measure => simp [intOf] <;> omega
      · obtain rfl : k = n := by omega
        have HF := Lib.hid (HFIN.out k)
        generalize bestP R now k = x at *
        go_wp2
        go_ret3
        exact HF.out _ HB.out
  · rw [show bestM R now = (-1, 0) by simp [bestM, hs]]
    have HF := Lib.hid (fun w' (hb : Below w.heap.size w w') => (show BestPost (-1, 0) w (.returned (.tuple #[.int .i64 (-1), .int .i64 0, .bool false])) w' from ⟨rfl, hb⟩))
    have h1 : (statusM R != 0) = true := by simpa using hs
    clear hs h
    generalize statusM R = sm at *
    go_enter Tryz.func27, Tryz.ntmps27
    go_wp2_with fail
    refine KS.out.mono ?_
    rintro e w1 ⟨rfl, hb⟩
    have HB := Lib.hid hb
    clear hb
    go_wp2
    go_ret3
    exact HF.out _ HB.out
end Go.Proofs.YtbbcicengfmhiaaGreatDoor

namespace Go.Proofs.YtbbcicengfmhiaaGreatDoor
set_option maxRecDepth 100000
open Go.RowKit

def holdsAt (R : RunM) (now wk n : Int) (k : Nat) : Bool := decide (R.ts[k]!.need = 0) && holdsT R.ps[k]!.try_ now wk n
def hitM (R : RunM) (now wk n : Int) : Option Nat := if statusM R ≠ 0 then none else (List.range R.ps.length).find? fun k => holdsAt R now wk n k
def hitI : Option Nat → Int
  | none => -1
  | some k => (k : Int)
theorem hit_some {R : RunM} {now wk n : Int} (hs : statusM R = 0) {k : Nat} (hk : k < R.ps.length) (h : holdsAt R now wk n k = true) (hn : ∀ m, m < k → holdsAt R now wk n m = false) : hitM R now wk n = some k := by
  unfold hitM
  rw [if_neg (by simp [hs]), List.find?_range_eq_some]
  exact ⟨h, List.mem_range.2 hk, fun j hj => by simp [hn j hj]⟩
theorem hit_none {R : RunM} {now wk n : Int} (hn : ∀ m, m < R.ps.length → holdsAt R now wk n m = false) : hitM R now wk n = none := by
  unfold hitM
  split
  · rfl
  · rw [List.find?_eq_none]
    intro x hx
    simp [hn x (List.mem_range.1 hx)]
def HitPost (x : Option Nat) (w : World) (e : Ending) (w' : World) : Prop := e = .returned (.tuple #[.int .i64 (hitI x), .bool x.isSome]) ∧ Below w.heap.size w w'
theorem runFinNil (now wk n : Int) (w : World) : Calls Tryz.prog 28 #[.pointer none, .int .i64 now, .int .i64 wk, .int .i64 n] w (HitPost none w) := by
  have HF := Lib.hid (show HitPost none w (.returned (.tuple #[.int .i64 (-1), .bool false])) w from ⟨rfl, Below.refl _ _⟩)
  go_enter Tryz.func28, Tryz.ntmps28
  go_wp2_with fail
  refine (runStatusNil w).mono ?_
  rintro e w1 ⟨rfl, rfl⟩
  go_wp2
  go_ret2
  exact HF.out
set_option maxHeartbeats 4000000 in
theorem runFin (b g tb tf tc c : Nat) (J : List Value) (R : RunM) (now wk n : Int) (w : World) (h : RAt b g (tvOf tb tf tc R) c J R w) (hn : R.ps.length ≤ 1000) :
    Calls Tryz.prog 28 #[.pointer (some ⟨b, 0, none⟩), .int .i64 now, .int .i64 wk, .int .i64 n] w (HitPost (hitM R now wk n) w) := by
  have KS := Lib.hid (runStatus b g _ c J R w h hn)
  by_cases hs : statusM R = 0
  · rw [hs] at KS
    have HHIT := Lib.hid (fun (k : Nat) (hk : k < R.ps.length) (h1 : holdsAt R now wk n k = true) (h2 : ∀ m, m < k → holdsAt R now wk n m = false) (w' : World) (hb : Below w.heap.size w w') => (show HitPost (hitM R now wk n) w (.returned (.tuple #[.int .i64 (k : Int), .bool true])) w' from by rw [hit_some hs hk h1 h2]; exact ⟨rfl, hb⟩))
    have HMISS := Lib.hid (fun (h2 : ∀ m, m < R.ps.length → holdsAt R now wk n m = false) (w' : World) (hb : Below w.heap.size w w') => (show HitPost (hitM R now wk n) w (.returned (.tuple #[.int .i64 (-1), .bool false])) w' from by rw [hit_none h2]; exact ⟨rfl, hb⟩))
    have HC := Lib.hid (fun (j : Nat) (hj : j < R.ps.length) (wr : World) (hb : Below w.heap.size w wr) => (h.below hb).cells hj)
    have HV := Lib.hid (fun (j : Nat) (hj : j < R.ps.length) => h.vsl hj)
    have HH := Lib.hid (fun (wr : World) (hb : Below w.heap.size w wr) => (h.below hb).head)
    have HT := Lib.hid (fun (j : Nat) (hj : j < R.ps.length) (wr : World) (hb : Below w.heap.size w wr) => ((show TasksAt wr (.slice (some ⟨tb, tf, none⟩) R.ts.length tc) R.ts from (h.below hb).tasks).at (by rw [h.len]; exact hj)).cells.2.2.2.2.1)
    have HLEN := Lib.hid h.len
    have hbz := h.blk.lt
    have hgz := h.row.lt
    have HTZ := Lib.hid (fun (j : Nat) (hj : j < R.ps.length) => ((show TasksAt w (.slice (some ⟨tb, tf, none⟩) R.ts.length tc) R.ts from h.tasks).at (j := j) (by rw [h.len]; exact hj)).1)
    have HHA := Lib.hid (fun (k : Nat) => (show holdsAt R now wk n k = (decide (R.ts[k]!.need = 0) && holdsT R.ps[k]!.try_ now wk n) from rfl))
    clear h hs
    generalize R.ps.length = z at *
    go_enter Tryz.func28, Tryz.ntmps28
    go_wp2_with fail
    refine KS.out.mono ?_
    rintro e w1 ⟨rfl, hb⟩
    have HB1 := Lib.hid hb
    obtain ⟨_, _, d2, _⟩ := HH.out _ hb
    clear hb
    go_wp2
    go_loopw [10, 11, 20] (fun _ _ s20 wr => ∃ k : Nat, s20 = .int .i64 k ∧ k ≤ z ∧ (∀ m, m < k → holdsAt R now wk n m = false) ∧ Below w.heap.size w wr) (fun _ _ s20 _ => z - (intOf s20).toNat)
    case atStart => exact ⟨0, by go_num, by omega, fun m hm => by omega, HB1.out⟩
    case round =>
      obtain ⟨k, rfl, hk, hno, hB⟩ := hrel
      have HB := Lib.hid hB
      have HNO := Lib.hid hno
      clear hB hno
      by_cases hlt : k < z
      · have hltz : (k : Int) < (z : Int) := by omega
        obtain ⟨c0, c1, c2, c3, c4, c5, c6, c7, c8⟩ := HC.out k hlt wr HB.out
        obtain ⟨qv, mv, ccv, hvs⟩ := HV.out k hlt
        obtain ⟨e0, e1, e2, e3⟩ := HH.out wr HB.out
        unfold tvOf at e1
        rw [HLEN.out] at e1
        have tn := HT.out k hlt wr HB.out
        have hbz2 : b < wr.heap.size := Nat.lt_of_lt_of_le hbz HB.out.size
        have hgz2 : g < wr.heap.size := Nat.lt_of_lt_of_le hgz HB.out.size
        have htz2 : tb < wr.heap.size := Nat.lt_of_lt_of_le (HTZ.out k hlt) HB.out.size
        have HHIK := Lib.hid (HHIT.out k hlt)
        have HHK := Lib.hid (HHA.out k)
        have HNX := Lib.hid (fun (hh : holdsAt R now wk n k = false) m (hm : m < k + 1) => (show holdsAt R now wk n m = false by by_cases e : m = k; (rw [e]; exact hh); exact HNO.out m (by omega)))
        have K66 := Lib.hid (fun W => leaseHolds R.ps[k]!.try_ now wk n W)
        generalize R.ts[k]!.need = nd at *
        generalize R.ps[k]! = p at *
        generalize holdsAt R now wk n k = hb at *
        obtain ⟨⟨s, si, mi, wkk, ls, ti⟩, out, vs, yes, no⟩ := p
        obtain rfl : vs = .slice qv mv ccv := hvs
        have hbx := below1 wr (.cells #[.int .i64 s, .int .i64 si, .int .i64 mi, .int .i64 wkk, .int .i64 ls, .int .i64 ti, .string out, (.slice qv mv ccv), .bool no] 109)
        have HBX := Lib.hid (HB.out.trans (hbx.mono HB.out.size))
        clear hbx
        by_cases hnd : nd = 0
        · have h1 : (nd == 0) = true := by simpa using hnd
          have HHE := Lib.hid (show hb = holdsT ⟨s, si, mi, wkk, ls, ti⟩ now wk n by rw [HHK.out]; simp [hnd])
          clear hnd
          generalize holdsT ⟨s, si, mi, wkk, ls, ti⟩ now wk n = hh at *
          cases hh with
          | true =>
            go_wp2_with fail
            refine (K66.out _).mono ?_
            rintro e w3 ⟨rfl, hb3⟩
            have HB3 := Lib.hid (HBX.out.trans (hb3.mono HBX.out.size))
            clear hb3
            go_wp2
            go_ret2
            exact HHIK.out HHE.out HNO.out _ HB3.out
          | false =>
            go_wp2_with fail
            refine (K66.out _).mono ?_
            rintro e w3 ⟨rfl, hb3⟩
            have HB3 := Lib.hid (HBX.out.trans (hb3.mono HBX.out.size))
            clear hb3
            go_wp2
            go_roundw
            case rel => exact ⟨k + 1, by go_num, by omega, HNX.out HHE.out, HB3.out⟩
            case measure => simp [intOf] <;> omega
        · have h1 : (nd == 0) = false := by simpa using hnd
          have HHE := Lib.hid (show hb = false by rw [HHK.out]; simp [hnd])
          clear hnd
          go_wp2
          go_roundw
          case rel => exact ⟨k + 1, by go_num, by omega, HNX.out HHE.out, HBX.out⟩
          case measure => simp [intOf] <;> omega
      · obtain rfl : k = z := by omega
        go_wp2
        go_ret2
        exact HMISS.out HNO.out _ HB.out
  · have HF := Lib.hid (fun w' (hb : Below w.heap.size w w') => (show HitPost (hitM R now wk n) w (.returned (.tuple #[.int .i64 (-1), .bool false])) w' from by rw [show hitM R now wk n = none by simp [hitM, hs]]; exact ⟨rfl, hb⟩))
    have h1 : (statusM R != 0) = true := by simpa using hs
    clear hs h
    generalize statusM R = sm at *
    go_enter Tryz.func28, Tryz.ntmps28
    go_wp2_with fail
    refine KS.out.mono ?_
    rintro e w1 ⟨rfl, hb⟩
    have HB := Lib.hid hb
    clear hb
    go_wp2
    go_ret2
    exact HF.out _ HB.out
end Go.Proofs.YtbbcicengfmhiaaGreatDoor

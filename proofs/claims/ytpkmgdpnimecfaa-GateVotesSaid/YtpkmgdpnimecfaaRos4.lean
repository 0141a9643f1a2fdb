/- Two lists held against each other; the statements' own awake of layer 2. No condition. -/
import Derived.Test.YtpkmgdpnimecfaaRos3
namespace Go.Proofs.Ytpkmgdpnimecfaa
open Go.RowKit

set_option maxHeartbeats 2000000 in
theorem same02 (v1 v2 : Value) (xs ys : List Int) (w : World) (h1 : SlAt 1 encI w v1 xs) (h2 : SlAt 1 encI w v2 ys) (hb1 : xs.length ≤ 1000000) (hb2 : ys.length ≤ 1000000) :
    Calls Try.prog 40 #[v1, v2] w fun e w' => e = .returned (.bool (decide (xs = ys))) ∧ Below w.heap.size w w' := by
  obtain ⟨p1, c1, rfl, _, k1⟩ := h1
  obtain ⟨p2, c2, rfl, _, k2⟩ := h2
  by_cases hl : xs.length = ys.length
  · rw [← hl] at k2 ⊢
    have K1 := Lib.hid k1
    have K2 := Lib.hid k2
    have HL := Lib.hid hl
    clear k1 k2 hl hb2
    generalize hn : xs.length = n at hb1
    have HN := Lib.hid hn
    clear hn
    go_enter Try.func40, Try.ntmps40
    go_wp2
    go_loopw [5] (fun i wr => ∃ j : Nat, j ≤ n ∧ i = .int .i64 j ∧ Below w.heap.size w wr ∧ ∀ k, k < j → xs[k]! = ys[k]!) (fun i _ => n - (intOf i).toNat)
    case atStart => exact ⟨0, by omega, rfl, Below.refl _ _, fun k hk => absurd hk (by omega)⟩
    case round =>
      obtain ⟨j, hj, rfl, hB, hall⟩ := hrel
      have HA := Lib.hid hall
      clear hall
      by_cases hlt : j < n
      · have hltz : (j : Int) < (n : Int) := by omega
        obtain ⟨b1, o1, rfl, hb1, hc1⟩ := K1.out (by have := HN.out; omega)
        obtain ⟨b2, o2, rfl, hb2, hc2⟩ := K2.out (by have := HN.out; have := HL.out; omega)
        have d1 : wr.cell? ⟨b1, o1 + j, none⟩ = some (.int .i64 xs[j]!) := (hB.cell (p := ⟨b1, o1 + j, none⟩) hb1).trans (by have := hc1 j (by have := HN.out; omega) 0 _ rfl; simpa using this)
        have d2 : wr.cell? ⟨b2, o2 + j, none⟩ = some (.int .i64 ys[j]!) := (hB.cell (p := ⟨b2, o2 + j, none⟩) hb2).trans (by have := hc2 j (by have := HN.out; have := HL.out; omega) 0 _ rfl; simpa using this)
        clear hc1 hc2
        have HB := Lib.hid hB
        clear hB
        cases hq : (xs[j]! == ys[j]!) with
        | true =>
          have HQ := Lib.hid (show xs[j]! = ys[j]! by simpa using hq)
          generalize xs[j]! = x at d1 hq
          generalize ys[j]! = y at d2 hq
          obtain rfl : x = y := by simpa using hq
          clear hq
          go_wp2_with fail
          go_quiet (fail)
          go_wp2
          go_roundw
          case rel =>
            have hq' : ∀ k, k < j + 1 → xs[k]! = ys[k]! := fun k hk => by
              by_cases e : k = j
              · subst e; exact HQ.out
              · exact HA.out k (by omega)
            first | exact ⟨j + 1, by omega, by go_num, belowN HB.out _, hq'⟩ | ((repeat apply Exists.intro); exact ⟨⟨j + 1, by omega, by go_num, belowN HB.out _, hq'⟩, rfl⟩)
          case measure => simp [intOf] <;> omega
        | false =>
          have HQ := Lib.hid (show ¬ xs[j]! = ys[j]! by simpa using hq)
          generalize xs[j]! = x at d1 hq
          generalize ys[j]! = y at d2 hq
          go_wp2_with fail
          go_quiet (fail)
          go_wp2
          go_ret
          refine ⟨?_, belowN HB.out _⟩
          rw [show decide (xs = ys) = false by
            rw [decide_eq_false_iff_not]
            intro e
            exact HQ.out (by rw [e])]
          rfl
      · obtain rfl : j = n := by omega
        have he : xs = ys := by
          apply List.ext_getElem HL.out
          intro i h1 h2
          have := HA.out i (by have := HN.out; omega)
          rwa [getElem!_pos xs i h1, getElem!_pos ys i h2] at this
        have HE := Lib.hid he
        clear he
        go_wp2
        go_ret
        exact ⟨by rw [decide_eq_true HE.out]; rfl, hB⟩
  · have hne : decide (xs = ys) = false := by
      rw [decide_eq_false_iff_not]
      intro e
      exact hl (by rw [e])
    rw [hne]
    have hlz : ((xs.length : Int) == (ys.length : Int)) = false := by simp; omega
    have hlz2 : (xs.length == ys.length) = false := by simp; omega
    clear k1 k2
    generalize xs.length = n at hl hlz hb1 hlz2
    generalize ys.length = m at hl hlz hb2 hlz2
    go_enter Try.func40, Try.ntmps40
    go_wp2
    go_ret
    exact ⟨rfl, Below.refl _ _⟩

/-- a slice out of the cells that lie there -/
theorem slAt_of {α : Type} [Inhabited α] {k : Nat} {enc : α → List Value} (hk : ∀ x, (enc x).length = k) {w : World} {b n c : Nat} {xs : List α} (hn : n = xs.length) (hc : n ≤ c) (hb : b < w.heap.size)
    (h : ∀ j u, (flat enc xs)[j]? = some u → w.cell? ⟨b, j, none⟩ = some u) : SlAt k enc w (.slice (some ⟨b, 0, none⟩) n c) xs := by
  subst hn
  refine ⟨_, _, rfl, ⟨hc, fun h => nomatch h⟩, fun _ => ⟨b, 0, rfl, hb, fun j hj i u hu => ?_⟩⟩
  have hi : i < k := by rw [← hk xs[j]!]; exact (List.getElem?_eq_some_iff.1 hu).1
  rw [Nat.zero_add]
  exact h _ u (by rw [flat_get hk xs j hj i hi]; exact hu)

def lsA : List Lbl := [(0, 0), (3, 1)]
def psA : List Psn := [(1, 3, 1), (0, 0, 0), (1, 0, 0)]
theorem okLA : okL lsA := by unfold okL; decide
theorem okPA : okP psA := by unfold okP; decide
theorem newA : newC lsA psA = 0 := by decide
theorem newA1 : newC [] [] = 1 := by decide
theorem newA7 : newC [(0, 0), (0, 0)] [] = 7 := by decide
theorem newA2 : newC [(0, 0)] [(1, 0, 0)] = 2 := by decide

/-- what awake holds while it asks -/
def AwkAt (w w' : World) (r : Nat) : Prop :=
  (Below w.heap.size w w' ∧ w.heap.size + 1 < w'.heap.size ∧ Rost w' r lsA psA) ∧
  (w'.cell? ⟨w.heap.size, 0, none⟩ = some (.int .i64 0) ∧ w'.cell? ⟨w.heap.size, 1, none⟩ = some (.int .u16 0) ∧
   w'.cell? ⟨w.heap.size + 1, 0, none⟩ = some (.int .i64 3) ∧ w'.cell? ⟨w.heap.size + 1, 1, none⟩ = some (.int .u16 1))
theorem AwkAt.next {w w' w2 : World} {r : Nat} (h : AwkAt w w' r) (hb : Below w'.heap.size w' w2) : AwkAt w w2 r := by
  obtain ⟨⟨h1, h2, h3⟩, h4, h5, h6, h7⟩ := h
  exact ⟨⟨h1.trans (hb.mono h1.size), Nat.lt_of_lt_of_le h2 hb.size, h3.below hb⟩, (hb.cell (p := ⟨w.heap.size, 0, none⟩) (by show w.heap.size < _; omega)).trans h4, (hb.cell (p := ⟨w.heap.size, 1, none⟩) (by show w.heap.size < _; omega)).trans h5,
    (hb.cell (p := ⟨w.heap.size + 1, 0, none⟩) h2).trans h6, (hb.cell (p := ⟨w.heap.size + 1, 1, none⟩) h2).trans h7⟩
theorem AwkAt.nextA {w w' w2 : World} {r : Nat} {o : Obj} (h : AwkAt w w' r) (hb : Below (w'.alloc o).heap.size (w'.alloc o) w2) : AwkAt w w2 r := (h.next (below1 _ o)).next hb
theorem AwkAt.ros {w w' : World} {r : Nat} (h : AwkAt w w' r) : Ros w' (.pointer (some ⟨r, 0, none⟩)) lsA psA := .inr ⟨r, rfl, h.1.2.2⟩

set_option maxRecDepth 100000 in
set_option maxHeartbeats 4000000 in
theorem awake02 (w : World) :
    Calls Try.prog 27 #[] w fun e w' => e = .returned (.bool true) ∧ Below w.heap.size w w' := by
  go_enter Try.func27, Try.ntmps27
  go_wp2_with fail
  refine (rosterNew _ _ lsA psA _ (slAt_of (enc := encL) (fun _ => rfl) rfl (by decide) (by simp) ?c1) (slAt_of (enc := encP) (fun _ => rfl) rfl (by decide) (by simp) ?c2) (by decide) (by decide)).mono ?_
  case c1 =>
    rintro j u hj
    match j, hj with
    | 0, hj => simp [flat, lsA, encL] at hj; subst hj; go_simp
    | 1, hj => simp [flat, lsA, encL] at hj; subst hj; go_simp
    | 2, hj => simp [flat, lsA, encL] at hj; subst hj; go_simp
    | 3, hj => simp [flat, lsA, encL] at hj; subst hj; go_simp
  case c2 =>
    rintro j u hj
    match j, hj with
    | 0, hj => simp [flat, psA, encP] at hj; subst hj; go_simp
    | 1, hj => simp [flat, psA, encP] at hj; subst hj; go_simp
    | 2, hj => simp [flat, psA, encP] at hj; subst hj; go_simp
    | 3, hj => simp [flat, psA, encP] at hj; subst hj; go_simp
    | 4, hj => simp [flat, psA, encP] at hj; subst hj; go_simp
    | 5, hj => simp [flat, psA, encP] at hj; subst hj; go_simp
    | 6, hj => simp [flat, psA, encP] at hj; subst hj; go_simp
    | 7, hj => simp [flat, psA, encP] at hj; subst hj; go_simp
    | 8, hj => simp [flat, psA, encP] at hj; subst hj; go_simp
  rintro e w1 ⟨pv, rfl, hb1, _, hr1⟩
  rw [newA] at hr1 ⊢
  obtain ⟨r, rfl, hrA⟩ := hr1 rfl
  have HA1 := Lib.hid (show AwkAt w w1 r from ⟨⟨(below4 w _ _ _ _).trans (hb1.mono (by simp; omega)), by have := hb1.size; simp at this; omega, hrA⟩,
    by rw [hb1.cell (by simp <;> omega)]; go_simp, by rw [hb1.cell (by simp <;> omega)]; go_simp, by rw [hb1.cell (by simp <;> omega)]; go_simp, by rw [hb1.cell (by simp <;> omega)]; go_simp⟩)
  clear hb1 hr1 hrA
  obtain ⟨_, l0, l1, h0, h1⟩ := id HA1.out
  go_wp2_with fail
  refine (rosterNew _ _ [] [] _ (SlAt.nil _ _ _) (SlAt.nil _ _ _) (by decide) (by decide)).mono ?_
  rintro e w2 ⟨pv, rfl, hb2, hn2, _⟩
  rw [newA1] at hn2 ⊢
  obtain rfl := hn2 (by decide)
  have HA2 := Lib.hid (HA1.out.next hb2)
  clear hb2 hn2 l0 l1 h0 h1
  obtain ⟨_, l0, l1, h0, h1⟩ := id HA2.out
  go_wp2_with fail
  refine (rosterNew _ _ [(0, 0), (0, 0)] [] _ (slAt_of (enc := encL) (fun _ => rfl) rfl (by decide) (by simp) ?c3) (SlAt.nil _ _ _) (by decide) (by decide)).mono ?_
  case c3 =>
    rintro j u hj
    match j, hj with
    | 0, hj => simp [flat, encL] at hj; subst hj; go_simp
    | 1, hj => simp [flat, encL] at hj; subst hj; go_simp
    | 2, hj => simp [flat, encL] at hj; subst hj; go_simp
    | 3, hj => simp [flat, encL] at hj; subst hj; go_simp
  rintro e w3 ⟨pv, rfl, hb3, hn3, _⟩
  rw [newA7] at hn3 ⊢
  obtain rfl := hn3 (by decide)
  have HA3 := Lib.hid (HA2.out.nextA hb3)
  clear hb3 hn3 l0 l1 h0 h1
  obtain ⟨_, l0, l1, h0, h1⟩ := id HA3.out
  go_wp2_with fail
  refine (rosterNew _ _ [(0, 0)] [(1, 0, 0)] _ (slAt_of (enc := encL) (fun _ => rfl) rfl (by decide) (by simp; omega) ?c4) (slAt_of (enc := encP) (fun _ => rfl) rfl (by decide) (by simp) ?c5) (by decide) (by decide)).mono ?_
  case c4 =>
    rintro j u hj
    match j, hj with
    | 0, hj => simp [flat, encL] at hj; subst hj; go_simp
    | 1, hj => simp [flat, encL] at hj; subst hj; go_simp
  case c5 =>
    rintro j u hj
    match j, hj with
    | 0, hj => simp [flat, encP] at hj; subst hj; go_simp
    | 1, hj => simp [flat, encP] at hj; subst hj; go_simp
    | 2, hj => simp [flat, encP] at hj; subst hj; go_simp
  rintro e w4 ⟨pv, rfl, hb4, hn4, _⟩
  rw [newA2] at hn4 ⊢
  obtain rfl := hn4 (by decide)
  have HA4 := Lib.hid ((HA3.out.next (below1 _ _)).nextA hb4)
  clear hb4 hn4 l0 l1 h0 h1
  obtain ⟨_, l0, l1, h0, h1⟩ := id HA4.out
  go_wp2_with fail
  have q32 := rosLabel _ _ _ 1 _ HA4.out.ros (by decide)
  rw [show labAt lsA 1 = (3, 1) by decide, show inR lsA.length 1 = true by decide] at q32
  refine q32.mono ?_
  rintro e w5 ⟨rfl, hb5⟩
  have HA := Lib.hid (HA4.out.next hb5)
  clear hb5 l0 l1 h0 h1 q32
  obtain ⟨⟨_, hz, _⟩, l0, l1, h0, h1⟩ := id HA.out
  have eqL := run_eqL
  go_wp2_with fail
  have HA := Lib.hid (HA.out.next (below1 _ (.cells #[.int .i64 3, .int .u16 1] 48)))
  have g0 : (w5.alloc (.cells #[.int .i64 3, .int .u16 1] 48)).cell? ⟨w5.heap.size, 0, none⟩ = some (.int .i64 3) := by go_simp
  have g1 : (w5.alloc (.cells #[.int .i64 3, .int .u16 1] 48)).cell? ⟨w5.heap.size, 1, none⟩ = some (.int .u16 1) := by go_simp
  generalize w5.alloc (.cells #[.int .i64 3, .int .u16 1] 48) = W at HA g0 g1 ⊢
  clear l0 l1 h0 h1
  obtain ⟨⟨_, hz, _⟩, l0, l1, h0, h1⟩ := id HA.out
  have q := rosParts _ _ _ _ HA.out.ros
  rw [show ((lsA.length : Nat) : Int) = 2 from rfl] at q
  refine q.mono ?_
  rintro e w' ⟨rfl, rfl⟩
  clear q
  go_wp2_with fail
  have q := rosPeople _ _ _ _ HA.out.ros
  rw [show ((psA.length : Nat) : Int) = 3 from rfl] at q
  refine q.mono ?_
  rintro e w' ⟨rfl, rfl⟩
  clear q
  go_wp2_with fail
  clear g0 g1
  have q := rosPart _ _ _ 0 _ HA.out.ros (by decide)
  rw [show partAt psA 0 = 1 by decide] at q
  refine q.mono ?_
  rintro e w' ⟨rfl, rfl⟩
  clear q
  go_wp2_with fail
  have q := rosPart _ _ _ 3 _ HA.out.ros (by decide)
  rw [show partAt psA 3 = -1 by decide] at q
  refine q.mono ?_
  rintro e w' ⟨rfl, rfl⟩
  clear q
  go_wp2_with fail
  have q := rosSees _ _ _ 0 0 _ HA.out.ros (by decide) (by decide) okLA
  rw [show seesB lsA psA 0 0 = true by decide] at q
  refine q.mono ?_
  rintro e w' ⟨rfl, hb⟩
  have HA := Lib.hid (HA.out.next hb)
  clear hb q l0 l1 h0 h1 hz
  obtain ⟨⟨_, hz, _⟩, l0, l1, h0, h1⟩ := id HA.out
  go_wp2_with fail
  have q := rosSees _ _ _ 1 1 _ HA.out.ros (by decide) (by decide) okLA
  rw [show seesB lsA psA 1 1 = false by decide] at q
  refine q.mono ?_
  rintro e w' ⟨rfl, hb⟩
  have HA := Lib.hid (HA.out.next hb)
  clear hb q l0 l1 h0 h1 hz
  obtain ⟨⟨_, hz, _⟩, l0, l1, h0, h1⟩ := id HA.out
  go_wp2_with fail
  have q := rosMay _ _ _ 0 0 0 _ HA.out.ros (by decide) (by decide) okLA okPA (by decide)
  rw [show mayB lsA psA 0 0 0 = true by decide] at q
  refine q.mono ?_
  rintro e w' ⟨rfl, hb⟩
  have HA := Lib.hid (HA.out.next hb)
  clear hb q l0 l1 h0 h1 hz
  obtain ⟨⟨_, hz, _⟩, l0, l1, h0, h1⟩ := id HA.out
  go_wp2_with fail
  have q := rosMay _ _ _ 2 0 0 _ HA.out.ros (by decide) (by decide) okLA okPA (by decide)
  rw [show mayB lsA psA 2 0 0 = false by decide] at q
  refine q.mono ?_
  rintro e w' ⟨rfl, hb⟩
  have HA := Lib.hid (HA.out.next hb)
  clear hb q l0 l1 h0 h1 hz
  obtain ⟨⟨_, hz, _⟩, l0, l1, h0, h1⟩ := id HA.out
  go_wp2_with fail
  have q := rosMay _ _ _ 1 3 1 _ HA.out.ros (by decide) (by decide) okLA okPA (by decide)
  rw [show mayB lsA psA 1 3 1 = true by decide] at q
  refine q.mono ?_
  rintro e w' ⟨rfl, hb⟩
  have HA := Lib.hid (HA.out.next hb)
  clear hb q l0 l1 h0 h1 hz
  obtain ⟨⟨_, hz, _⟩, l0, l1, h0, h1⟩ := id HA.out
  go_wp2_with fail
  have q := rosFind _ _ _ 3 1 _ HA.out.ros (by decide)
  rw [show idxI (fun y : Int × Nat => (3 : Int) == y.1 && (1 : Nat) == y.2) lsA = 1 by decide] at q
  refine q.mono ?_
  rintro e w' ⟨rfl, hb⟩
  have HA := Lib.hid (HA.out.next hb)
  clear hb q l0 l1 h0 h1 hz
  obtain ⟨⟨_, hz, _⟩, l0, l1, h0, h1⟩ := id HA.out
  go_wp2_with fail
  have q := rosFind _ _ _ 1 0 _ HA.out.ros (by decide)
  rw [show idxI (fun y : Int × Nat => (1 : Int) == y.1 && (0 : Nat) == y.2) lsA = -1 by decide] at q
  refine q.mono ?_
  rintro e w' ⟨rfl, hb⟩
  have HA := Lib.hid (HA.out.next hb)
  clear hb q l0 l1 h0 h1 hz
  obtain ⟨⟨_, hz, _⟩, l0, l1, h0, h1⟩ := id HA.out
  go_wp2_with fail
  have q := rosBelow _ _ _ 3 1 _ HA.out.ros (by decide) okLA (by decide)
  rw [show belL lsA 3 1 lsA.length = [0, 1] by decide] at q
  refine q.mono ?_
  rintro e w' ⟨v', rfl, hS, hb⟩
  have HA := Lib.hid (HA.out.next hb)
  have HS := Lib.hid hS
  clear hS hb q l0 l1 h0 h1 hz
  go_wp2_with fail
  refine (same02 _ _ [0, 1] [0, 1] _ (HS.out.below (below1 _ _)) (slAt_of (enc := encI) (fun _ => rfl) rfl (by decide) (by simp) ?c9) (by decide) (by decide)).mono ?_
  case c9 =>
    rintro j u hj
    match j, hj with
    | 0, hj => simp [flat, encI] at hj; subst hj; go_simp
    | 1, hj => simp [flat, encI] at hj; subst hj; go_simp
  rintro e w' ⟨rfl, hb⟩
  have HB := Lib.hid (HA.out.nextA hb)
  clear hb
  go_wp2
  go_ret
  exact ⟨rfl, HB.out.1.1⟩
end Go.Proofs.Ytpkmgdpnimecfaa

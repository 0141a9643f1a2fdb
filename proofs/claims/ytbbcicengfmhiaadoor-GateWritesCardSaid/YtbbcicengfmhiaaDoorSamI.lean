/- Two lists of ints held against each other; a slice out of its cells. No condition. -/
import Derived.Test.YtbbcicengfmhiaaDoorRows
import Derived.Test.YtbbcicengfmhiaaDoorEnc
import Derived.OwnWalk
import Derived.Lib.Walk
import Derived.Deep.QuietTactic
import Derived.BigQuiet
namespace Go.Proofs.YtbbcicengfmhiaaDoor
set_option maxRecDepth 100000
open Go.RowKit

set_option maxHeartbeats 2000000 in
theorem same02 (v1 v2 : Value) (xs ys : List Int) (w : World) (h1 : SlAt 1 encI w v1 xs) (h2 : SlAt 1 encI w v2 ys) (hb1 : xs.length ≤ 1000000) (hb2 : ys.length ≤ 1000000) :
    Calls Tryd.prog 20 #[v1, v2] w fun e w' => e = .returned (.bool (decide (xs = ys))) ∧ Below w.heap.size w w' := by
  obtain ⟨p1, c1, rfl, _, k1⟩ := h1
  obtain ⟨p2, c2, rfl, _, k2⟩ := h2
  by_cases hl : xs.length = ys.length
  · rw [← hl] at k2 ⊢
    have K1 := Lib.hid k1
    have K2 := Lib.hid k2
    have HL := Lib.hid hl
    clear k1 k2 hl hb2
    generalize hn : xs.length = n at hb1
    have HN := Lib.hid hn
    clear hn
    go_enter Tryd.func20, Tryd.ntmps20
    go_wp2
    go_loopw [5] (fun i wr => ∃ j : Nat, j ≤ n ∧ i = .int .i64 j ∧ Below w.heap.size w wr ∧ ∀ k, k < j → xs[k]! = ys[k]!) (fun i _ => n - (intOf i).toNat)
    case atStart => exact ⟨0, by omega, rfl, Below.refl _ _, fun k hk => absurd hk (by omega)⟩
    case round =>
      obtain ⟨j, hj, rfl, hB, hall⟩ := hrel
      have HA := Lib.hid hall
      clear hall
      by_cases hlt : j < n
      · have hltz : (j : Int) < (n : Int) := by omega
        obtain ⟨b1, o1, rfl, hb1, hc1⟩ := K1.out (by have := HN.out; omega)
        obtain ⟨b2, o2, rfl, hb2, hc2⟩ := K2.out (by have := HN.out; have := HL.out; omega)
        have d1 : wr.cell? ⟨b1, o1 + j, none⟩ = some (.int .i64 xs[j]!) := (hB.cell (p := ⟨b1, o1 + j, none⟩) hb1).trans (by have := hc1 j (by have := HN.out; omega) 0 _ rfl; simpa using this)
        have d2 : wr.cell? ⟨b2, o2 + j, none⟩ = some (.int .i64 ys[j]!) := (hB.cell (p := ⟨b2, o2 + j, none⟩) hb2).trans (by have := hc2 j (by have := HN.out; have := HL.out; omega) 0 _ rfl; simpa using this)
        clear hc1 hc2
        have HB := Lib.hid hB
        clear hB
        cases hq : (xs[j]! == ys[j]!) with
        | true =>
          have HQ := Lib.hid (show xs[j]! = ys[j]! by simpa using hq)
          generalize xs[j]! = x at d1 hq
          generalize ys[j]! = y at d2 hq
          obtain rfl : x = y := by simpa using hq
          clear hq
          go_wp2_with fail
          go_quiet (fail)
          go_wp2
          go_roundw
          case rel =>
            have hq' : ∀ k, k < j + 1 → xs[k]! = ys[k]! := fun k hk => by
              by_cases e : k = j
              · subst e; exact HQ.out
              · exact HA.out k (by omega)
            first | exact ⟨j + 1, by omega, by go_num, belowN HB.out _, hq'⟩ | ((repeat apply Exists.intro); exact ⟨⟨j + 1, by omega, by go_num, belowN HB.out _, hq'⟩, rfl⟩)
          case measure => simp [intOf] <;> omega
        | false =>
          have HQ := Lib.hid (show ¬ xs[j]! = ys[j]! by simpa using hq)
          generalize xs[j]! = x at d1 hq
          generalize ys[j]! = y at d2 hq
          go_wp2_with fail
          go_quiet (fail)
          go_wp2
          go_ret
          refine ⟨?_, belowN HB.out _⟩
          rw [show decide (xs = ys) = false by
            rw [decide_eq_false_iff_not]
            intro e
            exact HQ.out (by rw [e])]
          rfl
      · obtain rfl : j = n := by omega
        have he : xs = ys := by
          apply List.ext_getElem HL.out
          intro i h1 h2
          have := HA.out i (by have := HN.out; omega)
          rwa [getElem!_pos xs i h1, getElem!_pos ys i h2] at this
        have HE := Lib.hid he
        clear he
        go_wp2
        go_ret
        exact ⟨by rw [decide_eq_true HE.out]; rfl, hB⟩
  · have hne : decide (xs = ys) = false := by
      rw [decide_eq_false_iff_not]
      intro e
      exact hl (by rw [e])
    rw [hne]
    have hlz : ((xs.length : Int) == (ys.length : Int)) = false := by simp; omega
    have hlz2 : (xs.length == ys.length) = false := by simp; omega
    clear k1 k2
    generalize xs.length = n at hl hlz hb1 hlz2
    generalize ys.length = m at hl hlz hb2 hlz2
    go_enter Tryd.func20, Tryd.ntmps20
    go_wp2
    go_ret
    exact ⟨rfl, Below.refl _ _⟩

/-- a slice out of the cells that lie there -/
theorem slAt_of {α : Type} [Inhabited α] {k : Nat} {enc : α → List Value} (hk : ∀ x, (enc x).length = k) {w : World} {b n c : Nat} {xs : List α} (hn : n = xs.length) (hc : n ≤ c) (hb : b < w.heap.size)
    (h : ∀ j u, (flat enc xs)[j]? = some u → w.cell? ⟨b, j, none⟩ = some u) : SlAt k enc w (.slice (some ⟨b, 0, none⟩) n c) xs := by
  subst hn
  refine ⟨_, _, rfl, ⟨hc, fun h => nomatch h⟩, fun _ => ⟨b, 0, rfl, hb, fun j hj i u hu => ?_⟩⟩
  have hi : i < k := by rw [← hk xs[j]!]; exact (List.getElem?_eq_some_iff.1 hu).1
  rw [Nat.zero_add]
  exact h _ u (by rw [flat_get hk xs j hj i hi]; exact hu)
end Go.Proofs.YtbbcicengfmhiaaDoor

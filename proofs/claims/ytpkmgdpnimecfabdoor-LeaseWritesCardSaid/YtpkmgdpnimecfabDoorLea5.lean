/- May a try be? The document's answer. Every try. -/
import Derived.Test.YtpkmgdpnimecfabDoorLea4
namespace Go.Proofs.YtpkmgdpnimecfabDoor
open Go.RowKit

theorem inB_no {n b : Int} (h : ¬ (0 ≤ n ∧ n ≤ b)) : inB n b = false := by
  unfold inB
  rw [← Bool.not_eq_true, Bool.and_eq_true]
  simpa using h
theorem inB_yes {n b : Int} (h : 0 ≤ n ∧ n ≤ b) : inB n b = true := by
  unfold inB
  simp [h.1, h.2]
set_option maxRecDepth 100000 in
set_option maxHeartbeats 16000000 in
theorem refRight (s si m k l u : Int) (w : World) : Calls Tryd.prog 58 #[(.agg #[.int .i64 (s), .int .i64 (si), .int .i64 (m), .int .i64 (k), .int .i64 (l), .int .i64 (u)])] w fun e w' => e = .returned (.bool (rightT s si m k l u)) ∧ Below w.heap.size w w' := by
  have F1 := Lib.hid (show ¬ (0 ≤ s ∧ s ≤ 4) → rightT s si m k l u = false from fun h => by unfold rightT; rw [inB_no h]; rfl)
  have F2 := Lib.hid (show ¬ (0 ≤ m ∧ m ≤ 6) → rightT s si m k l u = false from fun h => by unfold rightT; rw [inB_no h]; simp)
  have F3 := Lib.hid (show ¬ (0 ≤ si ∧ si ≤ 1000000) → rightT s si m k l u = false from fun h => by unfold rightT; rw [inB_no h]; simp)
  have F4 := Lib.hid (show ¬ (0 ≤ k ∧ k ≤ 1000000) → rightT s si m k l u = false from fun h => by unfold rightT; rw [inB_no h]; simp)
  have F5 := Lib.hid (show ¬ (0 ≤ l ∧ l ≤ 1000000) → rightT s si m k l u = false from fun h => by unfold rightT; rw [inB_no h]; simp)
  have F6 := Lib.hid (show ¬ (0 ≤ u ∧ u ≤ 1000000) → rightT s si m k l u = false from fun h => by unfold rightT; rw [inB_no h]; simp)
  have F7 := Lib.hid (show (0 ≤ s ∧ s ≤ 4) → (0 ≤ m ∧ m ≤ 6) → (0 ≤ si ∧ si ≤ 1000000) → (0 ≤ k ∧ k ≤ 1000000) → (0 ≤ l ∧ l ≤ 1000000) → (0 ≤ u ∧ u ≤ 1000000) → rightT s si m k l u = ((s == 2 || !((k != 0) || ((l != 0) || (u != 0)))) && (s == 1 || si == 0)) from fun h1 h2 h3 h4 h5 h6 => by
    unfold rightT
    rw [inB_yes h1, inB_yes h2, inB_yes h3, inB_yes h4, inB_yes h5, inB_yes h6, heldEnd]
    simp only [Bool.true_and])
  generalize rightT s si m k l u = R at F1 F2 F3 F4 F5 F6 F7 ⊢
  have HB := Lib.hid (below2 w (.cells #[.int .i64 s, .int .i64 si, .int .i64 m, .int .i64 k, .int .i64 l, .int .i64 u] 88) (.cells #[.int .i64 si, .int .i64 k, .int .i64 l, .int .i64 u] 3))
  go_enter Tryd.func58, Tryd.ntmps58
  go_wp2
  go_loop [4] (fun v => ∃ j : Nat, j ≤ 4 ∧ v = .int .i64 j ∧ (0 < j → 0 ≤ si ∧ si ≤ 1000000) ∧ (1 < j → 0 ≤ k ∧ k ≤ 1000000) ∧ (2 < j → 0 ≤ l ∧ l ≤ 1000000) ∧ (3 < j → 0 ≤ u ∧ u ≤ 1000000)) (fun v => 4 - (intOf v).toNat)
  case atStart => exact ⟨0, by omega, rfl, fun h => by omega, fun h => by omega, fun h => by omega, fun h => by omega⟩
  case round =>
    obtain ⟨j, hj, rfl, p1, p2, p3, p4⟩ := hrel
    have P1 := Lib.hid p1
    have P2 := Lib.hid p2
    have P3 := Lib.hid p3
    have P4 := Lib.hid p4
    clear p1 p2 p3 p4
    match j, hj, P1, P2, P3, P4 with
    | 0, _, P1, P2, P3, P4 =>
      by_cases n0 : si < 0
      · have HR := Lib.hid (F3.out (by omega))
        go_wp2
        go_ret
        exact ⟨by rw [HR.out]; rfl, HB.out⟩
      · by_cases n1 : 1000000 < si
        · have HR := Lib.hid (F3.out (by omega))
          go_wp2
          go_ret
          exact ⟨by rw [HR.out]; rfl, HB.out⟩
        · go_wp2
          go_round
          case rel => exact ⟨0 + 1, by omega, by go_num, fun _ => ⟨by omega, by omega⟩, fun h => by omega, fun h => by omega, fun h => by omega⟩
          case measure => simp [intOf]
    | 1, _, P1, P2, P3, P4 =>
      by_cases n0 : k < 0
      · have HR := Lib.hid (F4.out (by omega))
        go_wp2
        go_ret
        exact ⟨by rw [HR.out]; rfl, HB.out⟩
      · by_cases n1 : 1000000 < k
        · have HR := Lib.hid (F4.out (by omega))
          go_wp2
          go_ret
          exact ⟨by rw [HR.out]; rfl, HB.out⟩
        · go_wp2
          go_round
          case rel => exact ⟨1 + 1, by omega, by go_num, fun _ => P1.out (by omega), fun _ => ⟨by omega, by omega⟩, fun h => by omega, fun h => by omega⟩
          case measure => simp [intOf]
    | 2, _, P1, P2, P3, P4 =>
      by_cases n0 : l < 0
      · have HR := Lib.hid (F5.out (by omega))
        go_wp2
        go_ret
        exact ⟨by rw [HR.out]; rfl, HB.out⟩
      · by_cases n1 : 1000000 < l
        · have HR := Lib.hid (F5.out (by omega))
          go_wp2
          go_ret
          exact ⟨by rw [HR.out]; rfl, HB.out⟩
        · go_wp2
          go_round
          case rel => exact ⟨2 + 1, by omega, by go_num, fun _ => P1.out (by omega), fun _ => P2.out (by omega), fun _ => ⟨by omega, by omega⟩, fun h => by omega⟩
          case measure => simp [intOf]
    | 3, _, P1, P2, P3, P4 =>
      by_cases n0 : u < 0
      · have HR := Lib.hid (F6.out (by omega))
        go_wp2
        go_ret
        exact ⟨by rw [HR.out]; rfl, HB.out⟩
      · by_cases n1 : 1000000 < u
        · have HR := Lib.hid (F6.out (by omega))
          go_wp2
          go_ret
          exact ⟨by rw [HR.out]; rfl, HB.out⟩
        · go_wp2
          go_round
          case rel => exact ⟨3 + 1, by omega, by go_num, fun _ => P1.out (by omega), fun _ => P2.out (by omega), fun _ => P3.out (by omega), fun _ => ⟨by omega, by omega⟩⟩
          case measure => simp [intOf]
    | 4, _, P1, P2, P3, P4 =>
      have H7 := fun h1 h2 => F7.out h1 h2 (P1.out (by omega)) (P2.out (by omega)) (P3.out (by omega)) (P4.out (by omega))
      have H7 := Lib.hid H7
      clear F3 F4 F5 F6 F7 P1 P2 P3 P4
      by_cases g1 : s < 0
      · have HR := Lib.hid (F1.out (by omega))
        go_wp2
        go_ret
        exact ⟨by rw [HR.out]; rfl, HB.out⟩
      by_cases g2 : 4 < s
      · have HR := Lib.hid (F1.out (by omega))
        go_wp2
        go_ret
        exact ⟨by rw [HR.out]; rfl, HB.out⟩
      by_cases g3 : m < 0
      · have HR := Lib.hid (F2.out (by omega))
        go_wp2
        go_ret
        exact ⟨by rw [HR.out]; rfl, HB.out⟩
      by_cases g4 : 6 < m
      · have HR := Lib.hid (F2.out (by omega))
        go_wp2
        go_ret
        exact ⟨by rw [HR.out]; rfl, HB.out⟩
      have HR := Lib.hid (H7.out ⟨by omega, by omega⟩ ⟨by omega, by omega⟩)
      clear H7 F1 F2
      by_cases a1 : s = 2
      · by_cases a6 : si = 0
        · have HR2 := Lib.hid (show R = true by rw [HR.out]; simp [a1, a6])
          clear HR HB
          go_wp2
          go_ret
          exact ⟨by first | rfl | (rw [HR2.out]; rfl), below2 _ _ _⟩
        · have HR2 := Lib.hid (show R = false by rw [HR.out]; simp [a1, a6])
          have c6 : (si == 0) = false := by simp [a6]
          clear HR HB
          go_wp2
          go_ret
          exact ⟨by first | rfl | (rw [HR2.out]; rfl), below2 _ _ _⟩
      · have c1 : (s != 2) = true := by simp [a1]
        have c1' : (s == 2) = false := by simp [a1]
        by_cases a2 : k = 0
        · by_cases a3 : l = 0
          · by_cases a4 : u = 0
            · by_cases a5 : s = 1
              · have HR2 := Lib.hid (show R = true by rw [HR.out]; simp [a2, a3, a4, a5])
                clear HR HB
                go_wp2
                go_ret
                exact ⟨by first | rfl | (rw [HR2.out]; rfl), below2 _ _ _⟩
              · by_cases a6 : si = 0
                · have HR2 := Lib.hid (show R = true by rw [HR.out]; simp [a1, a2, a3, a4, a5, a6])
                  have c5 : (s == 1) = false := by simp [a5]
                  clear HR HB
                  go_wp2
                  go_ret
                  exact ⟨by first | rfl | (rw [HR2.out]; rfl), below2 _ _ _⟩
                · have HR2 := Lib.hid (show R = false by rw [HR.out]; simp [a1, a2, a3, a4, a5, a6])
                  have c5 : (s == 1) = false := by simp [a5]
                  have c6 : (si == 0) = false := by simp [a6]
                  clear HR HB
                  go_wp2
                  go_ret
                  exact ⟨by first | rfl | (rw [HR2.out]; rfl), below2 _ _ _⟩
            · have HR2 := Lib.hid (show R = false by rw [HR.out]; simp [a1, a2, a3, a4])
              have c4 : (u != 0) = true := by simp [a4]
              clear HR HB
              go_wp2
              go_ret
              exact ⟨by first | rfl | (rw [HR2.out]; rfl), below2 _ _ _⟩
          · have HR2 := Lib.hid (show R = false by rw [HR.out]; simp [a1, a2, a3])
            have c3 : (l != 0) = true := by simp [a3]
            clear HR HB
            go_wp2
            go_ret
            exact ⟨by first | rfl | (rw [HR2.out]; rfl), below2 _ _ _⟩
        · have HR2 := Lib.hid (show R = false by rw [HR.out]; simp [a1, a2])
          have c2 : (k != 0) = true := by simp [a2]
          clear HR HB
          go_wp2
          go_ret
          exact ⟨by first | rfl | (rw [HR2.out]; rfl), below2 _ _ _⟩
end Go.Proofs.YtpkmgdpnimecfabDoor

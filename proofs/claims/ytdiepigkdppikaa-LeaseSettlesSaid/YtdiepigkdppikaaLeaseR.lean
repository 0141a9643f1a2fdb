/- The document's Right of layer 11 gives back a bool. No condition. -/
import Derived.Test.YtdiepigkdppikaaLease3
import Derived.Test.YtdiepigkdppikaaLease4
namespace Go.Proofs.Ytdiepigkdppikaa
open Go.RowKit

/-- the document's Right of layer 11 -/
def rightL (si k l u : Int) : List Int := [si, k, l, u]
def inM (n : Int) : Bool := decide (0 ≤ n ∧ n ≤ 1000000)
def rightB (s si m k l u : Int) : Bool :=
  (rightL si k l u).all inM && (decide (0 ≤ s ∧ s ≤ 4) && decide (0 ≤ m ∧ m ≤ 6) && (s == 2 || (k == 0 && l == 0 && u == 0)) && (s == 1 || si == 0))

theorem inM_step {l : List Int} {k : Nat} (hk : k < l.length) (h : (l.take k).all inM = true) (h2 : inM (l.getD k 0) = true) : (l.take (k + 1)).all inM = true := by
  rw [List.take_succ_eq_append_getElem hk, List.all_append]
  simp [h]
  simpa [List.getD_eq_getElem?_getD, hk] using h2
theorem inM_no {l : List Int} {k : Nat} (hk : k < l.length) (h2 : inM (l.getD k 0) = false) : l.all inM = false := by
  rw [List.all_eq_false]
  exact ⟨l.getD k 0, by rw [List.getD_eq_getElem?_getD, List.getElem?_eq_getElem hk]; simp, by rw [h2]; decide⟩

set_option maxRecDepth 100000 in
set_option maxHeartbeats 2000000 in
theorem refRight_any (s si m k l u : Int) (w : World) :
    Calls Try.prog 20 #[(.agg #[.int .i64 (s), .int .i64 (si), .int .i64 (m), .int .i64 (k), .int .i64 (l), .int .i64 (u)])] w fun e w' => e = .returned (.bool (rightB s si m k l u)) ∧ Below w.heap.size w w' := by
  go_enter Try.func20, Try.ntmps20
  go_wp2
  go_loop [4] (fun i => ∃ j : Nat, j ≤ 4 ∧ i = .int .i64 j ∧ ((rightL si k l u).take j).all inM = true) (fun i => 4 - (intOf i).toNat)
  case atStart => exact ⟨0, by omega, rfl, rfl⟩
  case round =>
    obtain ⟨j, hj, rfl, hall⟩ := hrel
    have hbw := below2 w (.cells #[.int .i64 s, .int .i64 si, .int .i64 m, .int .i64 k, .int .i64 l, .int .i64 u] 36) (.cells #[.int .i64 si, .int .i64 k, .int .i64 l, .int .i64 u] 3)
    have HA := Lib.hid hall
    clear hall
    by_cases hlt : j < 4
    · have hc : ((w.alloc (.cells #[.int .i64 s, .int .i64 si, .int .i64 m, .int .i64 k, .int .i64 l, .int .i64 u] 36)).alloc (.cells #[.int .i64 si, .int .i64 k, .int .i64 l, .int .i64 u] 3)).cell? ⟨w.heap.size + 1, j, none⟩ = some (.int .i64 ((rightL si k l u).getD j 0)) := by
        match j, hlt with
        | 0, _ => go_simp; rfl
        | 1, _ => go_simp; rfl
        | 2, _ => go_simp; rfl
        | 3, _ => go_simp; rfl
      have hlen : j < (rightL si k l u).length := hlt
      generalize hx : (rightL si k l u).getD j 0 = x at hc
      have HX := Lib.hid hx
      clear hx
      by_cases p1 : x < 0
      · have HP := Lib.hid (show inM x = false by simp [inM]; omega)
        go_wp2
        go_ret
        refine ⟨?_, hbw⟩
        rw [rightB, inM_no hlen (by rw [HX.out]; exact HP.out)]
        rfl
      · by_cases p2 : 1000000 < x
        · have HP := Lib.hid (show inM x = false by simp [inM]; omega)
          go_wp2
          go_ret
          refine ⟨?_, hbw⟩
          rw [rightB, inM_no hlen (by rw [HX.out]; exact HP.out)]
          rfl
        · have HP := Lib.hid (show inM x = true by simp [inM]; omega)
          go_wp2
          go_round
          case rel => exact ⟨j + 1, by omega, by go_num, inM_step hlen HA.out (by rw [HX.out]; exact HP.out)⟩
          case measure => simp [intOf] <;> omega
    · obtain rfl : j = 4 := by omega
      have h4 : (rightL si k l u).all inM = true := HA.out
      have HB := Lib.hid (show rightB s si m k l u = (decide (0 ≤ s ∧ s ≤ 4) && decide (0 ≤ m ∧ m ≤ 6) && (s == 2 || (k == 0 && l == 0 && u == 0)) && (s == 1 || si == 0)) by rw [rightB, h4]; simp)
      clear h4
      go_wp2
      all_goals (go_ret; refine ⟨?_, below2 _ _ _⟩; have hb := HB.out; clear HA HB hbw; first | (simp_all; done) | (simp_all; omega) | trace_state)
end Go.Proofs.Ytdiepigkdppikaa

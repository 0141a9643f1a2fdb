/- May a try be? The program's and the document's answer. Every try. -/
import Derived.Test.YtpkmgdpnimecfabDoorLea3
import Derived.Test.YtpkmgdpnimecfabDoorCod4
import Derived.Test.YtpkmgdpnimecfabDoorCbk4
namespace Go.Proofs.YtpkmgdpnimecfabDoor
open Go.RowKit

def inB (n b : Int) : Bool := decide (0 ≤ n) && decide (n ≤ b)
def rightT (s si m k l u : Int) : Bool :=
  inB s 4 && (inB m 6 && (inB si 1000000 && (inB k 1000000 && (inB l 1000000 && (inB u 1000000 && ((decide (s = 2) || (decide (k = 0) && (decide (l = 0) && decide (u = 0)))) && (decide (s = 1) || decide (si = 0))))))))
theorem within_any (n b : Int) (w : World) : Calls Tryd.prog 120 #[.int .i64 n, .int .i64 b] w fun e w' => e = .returned (.bool (inB n b)) ∧ w = w' := by
  unfold inB
  go_enter Tryd.func120, Tryd.ntmps120
  cases h1 : decide (0 ≤ n) <;> cases h2 : decide (n ≤ b)
  all_goals
    go_wp2
    go_ret
    first | (refine ⟨?_, rfl⟩; first | rfl | (simp_all; done)) | trace_state
theorem heldEnd (s si k l u : Int) : ((decide (s = 2) || (decide (k = 0) && (decide (l = 0) && decide (u = 0)))) && (decide (s = 1) || decide (si = 0))) = ((s == 2 || !((k != 0) || ((l != 0) || (u != 0)))) && (s == 1 || si == 0)) := by
  by_cases a1 : s = 2 <;> by_cases a2 : k = 0 <;> by_cases a3 : l = 0 <;> by_cases a4 : u = 0 <;> by_cases a5 : s = 1 <;> by_cases a6 : si = 0 <;> simp_all
set_option maxRecDepth 100000 in
set_option maxHeartbeats 8000000 in
theorem leaseRight (s si m k l u : Int) (w : World) : Calls Tryd.prog 97 #[(.agg #[.int .i64 (s), .int .i64 (si), .int .i64 (m), .int .i64 (k), .int .i64 (l), .int .i64 (u)])] w fun e w' => e = .returned (.bool (rightT s si m k l u)) ∧ Below w.heap.size w w' := by
  have k1 := Lib.hid (within_any s 4)
  have k2 := Lib.hid (within_any m 6)
  have k3 := Lib.hid (within_any si 1000000)
  have k4 := Lib.hid (within_any k 1000000)
  have k5 := Lib.hid (within_any l 1000000)
  have k6 := Lib.hid (within_any u 1000000)
  unfold rightT
  generalize inB s 4 = b1 at k1 ⊢
  generalize inB m 6 = b2 at k2 ⊢
  generalize inB si 1000000 = b3 at k3 ⊢
  generalize inB k 1000000 = b4 at k4 ⊢
  generalize inB l 1000000 = b5 at k5 ⊢
  generalize inB u 1000000 = b6 at k6 ⊢
  generalize hX : ((decide (s = 2) || (decide (k = 0) && (decide (l = 0) && decide (u = 0)))) && (decide (s = 1) || decide (si = 0))) = X
  rw [heldEnd] at hX
  have HX := Lib.hid hX
  clear hX
  have HB := Lib.hid (below1 w (.cells #[.int .i64 s, .int .i64 si, .int .i64 m, .int .i64 k, .int .i64 l, .int .i64 u] 84))
  go_enter Tryd.func97, Tryd.ntmps97
  go_wp2_with fail
  refine (k1.out _).mono ?_
  rintro e w' ⟨rfl, rfl⟩
  cases b1 with
  | false => go_wp2; go_ret; exact ⟨rfl, HB.out⟩
  | true =>
  go_wp2_with fail
  refine (k2.out _).mono ?_
  rintro e w' ⟨rfl, rfl⟩
  cases b2 with
  | false => go_wp2; go_ret; exact ⟨rfl, HB.out⟩
  | true =>
  go_wp2_with fail
  refine (k3.out _).mono ?_
  rintro e w' ⟨rfl, rfl⟩
  cases b3 with
  | false => go_wp2; go_ret; exact ⟨rfl, HB.out⟩
  | true =>
  go_wp2_with fail
  refine (k4.out _).mono ?_
  rintro e w' ⟨rfl, rfl⟩
  cases b4 with
  | false => go_wp2; go_ret; exact ⟨rfl, HB.out⟩
  | true =>
  go_wp2_with fail
  refine (k5.out _).mono ?_
  rintro e w' ⟨rfl, rfl⟩
  cases b5 with
  | false => go_wp2; go_ret; exact ⟨rfl, HB.out⟩
  | true =>
  go_wp2_with fail
  refine (k6.out _).mono ?_
  rintro e w' ⟨rfl, rfl⟩
  cases b6 with
  | false => go_wp2; go_ret; exact ⟨rfl, HB.out⟩
  | true =>
  cases a1 : (s == 2) <;> cases a2 : (k != 0) <;> cases a3 : (l != 0) <;> cases a4 : (u != 0) <;> cases a5 : (s == 1) <;> cases a6 : (si == 0)
  all_goals
    go_wp2
    go_ret
    refine ⟨?_, HB.out⟩
    rw [← HX.out, a1, a2, a3, a4, a5, a6]
    rfl
end Go.Proofs.YtpkmgdpnimecfabDoor

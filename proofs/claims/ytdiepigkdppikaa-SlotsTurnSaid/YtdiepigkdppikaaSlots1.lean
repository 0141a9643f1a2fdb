/- What the functions of package slots give back. Conditions: from 1 to 4 partitions, times from 0 to 200000. -/
import Derived.Test.YtdiepigkdppikaaRows
import Derived.Test.YtdiepigkdppikaaBase
import Derived.Deep.QuietTactic
import Derived.BigQuiet
namespace Go.Proofs.Ytdiepigkdppikaa
open Go.RowKit

set_option maxHeartbeats 400000 in
theorem slotsNew_ok (n : Int) (h1 : 1 ≤ n) (h2 : n ≤ 4) (w : World) :
    Calls Try.prog 14 #[.int .i64 n] w fun e w' => e = .returned (.tuple #[.pointer (some ⟨w.heap.size, 0, none⟩), .int .i64 0]) ∧ w.alloc (.cells #[.int .i64 n] 97) = w' := by
  go_enter Try.func14, Try.ntmps14
  go_wp2
  go_ret2
  exact ⟨rfl, rfl⟩

set_option maxHeartbeats 400000 in
theorem slotsNew_no (w : World) :
    Calls Try.prog 14 #[.int .i64 5] w fun e w' => e = .returned (.tuple #[.pointer none, .int .i64 1]) ∧ w = w' := by
  go_enter Try.func14, Try.ntmps14
  go_wp2
  go_ret2
  exact ⟨rfl, rfl⟩

set_option maxHeartbeats 400000 in
theorem slotsAt (b : Nat) (n now : Int) (hn : 1 ≤ n) (hn2 : n ≤ 4) (h0 : 0 ≤ now) (h1 : now ≤ 300000) (w : World) (hc : w.cell? ⟨b, 0, none⟩ = some (.int .i64 n)) :
    Calls Try.prog 16 #[.pointer (some ⟨b, 0, none⟩), .int .i64 now] w fun e w' => e = .returned (.int .i64 (now % n)) ∧ w = w' := by
  go_enter Try.func16, Try.ntmps16
  go_wp2
  go_ret
  exact ⟨rfl, rfl⟩

set_option maxHeartbeats 400000 in
theorem slotsAt_neg (b : Nat) (now : Int) (h0 : now < 0) (w : World) :
    Calls Try.prog 16 #[.pointer (some ⟨b, 0, none⟩), .int .i64 now] w fun e w' => e = .returned (.int .i64 (-1)) ∧ w = w' := by
  go_enter Try.func16, Try.ntmps16
  go_wp2
  go_ret
  exact ⟨rfl, rfl⟩

set_option maxHeartbeats 400000 in
theorem slotsLen (b : Nat) (n : Int) (w : World) (hc : w.cell? ⟨b, 0, none⟩ = some (.int .i64 n)) :
    Calls Try.prog 56 #[.pointer (some ⟨b, 0, none⟩)] w fun e w' => e = .returned (.int .i64 n) ∧ w = w' := by
  go_enter Try.func56, Try.ntmps56
  go_wp2
  go_ret
  exact ⟨rfl, rfl⟩

set_option maxHeartbeats 400000 in
theorem slotsNext_no (b : Nat) (n now part : Int) (hp : n ≤ part) (hp0 : 0 ≤ part) (w : World) (hc : w.cell? ⟨b, 0, none⟩ = some (.int .i64 n)) :
    Calls Try.prog 17 #[.pointer (some ⟨b, 0, none⟩), .int .i64 now, .int .i64 part] w fun e w' => e = .returned (.int .i64 (-1)) ∧ w = w' := by
  go_enter Try.func17, Try.ntmps17
  go_wp2_with (go_at_call 56; refine (slotsLen b n _ hc).mono ?_; rintro e w' ⟨rfl, rfl⟩)
  go_ret
  exact ⟨rfl, rfl⟩

set_option maxHeartbeats 1000000 in
theorem slotsNext (b : Nat) (n now part : Int) (hn : 1 ≤ n) (hn2 : n ≤ 4) (h0 : 0 ≤ now) (h1 : now ≤ 300000) (hp : part < n) (hp0 : 0 ≤ part) (w : World) (hc : w.cell? ⟨b, 0, none⟩ = some (.int .i64 n)) :
    Calls Try.prog 17 #[.pointer (some ⟨b, 0, none⟩), .int .i64 now, .int .i64 part] w fun e w' => e = .returned (.int .i64 (now + (part - now) % n)) ∧ ∃ q, w.drewN q = w' := by
  have m0 : 0 ≤ now % n := Int.emod_nonneg _ (by omega)
  have m1 : now % n < n := Int.emod_lt_of_pos _ (by omega)
  go_enter Try.func17, Try.ntmps17
  go_wp2_with (go_at_call 56; refine (slotsLen b n _ hc).mono ?_; rintro e w' ⟨rfl, rfl⟩)
  have g0 : 0 ≤ (part - now) % n := Int.emod_nonneg _ (by omega)
  have g1 : (part - now) % n < n := Int.emod_lt_of_pos _ (by omega)
  have q0 : now.tmod n = now % n := Int.tmod_eq_emod_of_nonneg h0
  have q1 : (part - now % n + n).tmod n = (part - now) % n := by rw [Int.tmod_eq_emod_of_nonneg (by omega)]; simp
  have q2 : IntKind.i64.wrap (part - now % n) = part - now % n := IntWalk.i64_in _ (by omega)
  have q3 : IntKind.i64.wrap (part - now % n + n) = part - now % n + n := IntWalk.i64_in _ (by omega)
  have q4 : IntKind.i64.wrap (now + (part - now) % n) = now + (part - now) % n := IntWalk.i64_in _ (by omega)
  have q5 : IntKind.i64.wrap (now % n) = now % n := IntWalk.i64_in _ (by omega)
  have q6 : IntKind.i64.wrap ((part - now) % n) = (part - now) % n := IntWalk.i64_in _ (by omega)
  have q7 : (n == 0) = false := by simp; omega
  go_quiet (fail)
  go_wp2
  go_ret
  exact ⟨rfl, _, rfl⟩
end Go.Proofs.Ytdiepigkdppikaa

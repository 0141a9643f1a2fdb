/- strings.Repeat of one zero, up to three times. -/
import Derived.Test.YtefnkoofgpmmmaaGreatDoorLRt
import Derived.Deep.DeepCutAuto
namespace Go.Proofs.YtefnkoofgpmmmaaGreatDoor
set_option maxRecDepth 100000
open Go.RowKit

theorem mul64c (n : Nat) (hn : n ≤ 3) (w : World) : Calls Tryz.prog 247 #[.int .u64 1, .int .u64 n] w fun e w' => e = .returned (.tuple #[.int .u64 0, .int .u64 n]) ∧ w = w' := by
  match n, hn with
  | 0, _ | 1, _ | 2, _ | 3, _ =>
    go_enter Tryz.func247, Tryz.ntmps247
    go_wp2
    go_ret2
    exact ⟨rfl, rfl⟩
theorem mulC (n : Nat) (hn : n ≤ 3) (w : World) : Calls Tryz.prog 210 #[.int .u64 1, .int .u64 n] w fun e w' => e = .returned (.tuple #[.int .u64 0, .int .u64 n]) ∧ w = w' := by
  go_enter Tryz.func210, Tryz.ntmps210
  go_wp2_with (go_at_call 247; refine (mul64c n hn _).mono ?_; rintro e w' ⟨rfl, rfl⟩)
  go_ret2
  exact ⟨rfl, rfl⟩

theorem pref134 (z : ByteArray) (R : Bool) (h1 : 1 ≤ z.size) (h2 : ((z.extract 0 1).toList == [48]) = R) (w : World) : Calls Tryz.prog 248 #[.string z, .string ⟨#[48]⟩] w fun e w' => e = .returned (.bool R) ∧ w = w' := by
  have hz : (1 : Int) ≤ (z.size : Int) := by omega
  cases R with
  | true =>
    have h3 : (z.extract 0 1).toList = [48] := by simpa using h2
    clear h2
    go_enter Tryz.func248, Tryz.ntmps248
    go_wp2
    go_ret
    exact ⟨rfl, rfl⟩
  | false =>
    have h3 : ¬ (z.extract 0 1).toList = [48] := by simpa using h2
    clear h2
    go_enter Tryz.func248, Tryz.ntmps248
    go_wp2
    go_ret
    exact ⟨by simp [h3], rfl⟩
theorem pref112 (z : ByteArray) (R : Bool) (h1 : 1 ≤ z.size) (h2 : ((z.extract 0 1).toList == [48]) = R) (w : World) : Calls Tryz.prog 211 #[.string z, .string ⟨#[48]⟩] w fun e w' => e = .returned (.bool R) ∧ w = w' := by
  go_enter Tryz.func211, Tryz.ntmps211
  go_wp2_with (go_at_call 248; refine (pref134 z R h1 h2 _).mono ?_; rintro e w' ⟨rfl, rfl⟩)
  go_ret
  exact ⟨rfl, rfl⟩
set_option maxRecDepth 100000 in
set_option maxHeartbeats 2000000 in
theorem rep0 (w : World) : Calls Tryz.prog 162 #[.string ⟨#[48]⟩, .int .i64 0] w fun e w' => e = .returned (.string ⟨#[]⟩) ∧ w = w' := by
  go_enter Tryz.func162, Tryz.ntmps162
  go_wp2
  go_ret
  exact ⟨rfl, rfl⟩
set_option maxRecDepth 100000 in
set_option maxHeartbeats 2000000 in
theorem rep1 (w : World) : Calls Tryz.prog 162 #[.string ⟨#[48]⟩, .int .i64 1] w fun e w' => e = .returned (.string ⟨#[48]⟩) ∧ w = w' := by
  go_enter Tryz.func162, Tryz.ntmps162
  go_wp2
  go_ret
  exact ⟨rfl, rfl⟩
set_option maxRecDepth 100000 in
set_option maxHeartbeats 2000000 in
theorem rep2 (w : World) : Calls Tryz.prog 162 #[.string ⟨#[48]⟩, .int .i64 2] w fun e w' => e = .returned (.string ⟨#[48, 48]⟩) ∧ w = w' := by
  go_enter Tryz.func162, Tryz.ntmps162
  go_wp2_with fail
  refine (mulC 2 (by decide) _).mono ?_
  rintro e w' ⟨rfl, rfl⟩
  go_wp2_with fail
  refine (pref112 _ false (by decide +kernel) (by decide +kernel) _).mono ?_
  rintro e w' ⟨rfl, rfl⟩
  go_wp2_with fail
  refine (pref112 _ false (by decide +kernel) (by decide +kernel) _).mono ?_
  rintro e w' ⟨rfl, rfl⟩
  go_wp2_with fail
  refine (pref112 _ true (by decide +kernel) (by decide +kernel) _).mono ?_
  rintro e w' ⟨rfl, rfl⟩
  go_wp2
  go_ret
  exact ⟨by kernel_rfl, rfl⟩
set_option maxRecDepth 100000 in
set_option maxHeartbeats 2000000 in
theorem rep3 (w : World) : Calls Tryz.prog 162 #[.string ⟨#[48]⟩, .int .i64 3] w fun e w' => e = .returned (.string ⟨#[48, 48, 48]⟩) ∧ w = w' := by
  go_enter Tryz.func162, Tryz.ntmps162
  go_wp2_with fail
  refine (mulC 3 (by decide) _).mono ?_
  rintro e w' ⟨rfl, rfl⟩
  go_wp2_with fail
  refine (pref112 _ false (by decide +kernel) (by decide +kernel) _).mono ?_
  rintro e w' ⟨rfl, rfl⟩
  go_wp2_with fail
  refine (pref112 _ false (by decide +kernel) (by decide +kernel) _).mono ?_
  rintro e w' ⟨rfl, rfl⟩
  go_wp2_with fail
  refine (pref112 _ true (by decide +kernel) (by decide +kernel) _).mono ?_
  rintro e w' ⟨rfl, rfl⟩
  go_wp2
  go_ret
  exact ⟨by kernel_rfl, rfl⟩
theorem repL (n : Nat) (hn : n ≤ 3) (w : World) : Calls Tryz.prog 162 #[.string ⟨#[48]⟩, .int .i64 (n : Int)] w fun e w' => e = .returned (.string ⟨(List.replicate n 48).toArray⟩) ∧ w = w' := by
  match n, hn with
  | 0, _ => exact rep0 w
  | 1, _ => exact rep1 w
  | 2, _ => exact rep2 w
  | 3, _ => exact rep3 w
end Go.Proofs.YtefnkoofgpmmmaaGreatDoor

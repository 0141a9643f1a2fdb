/- The statements' own awake of layer 11 says true. -/
import Derived.Test.YtpkmgdpnimecfabDoorLea2
import Derived.Deep.RegionHeld3
namespace Go.Proofs.YtpkmgdpnimecfabDoor
open Go.RowKit

theorem holds_yes (si m k l u now : Int) (h : now < u) (w : World) :
    Calls Tryd.prog 94 #[(.agg #[.int .i64 (2), .int .i64 (si), .int .i64 (m), .int .i64 (k), .int .i64 (l), .int .i64 (u)]), .int .i64 now, .int .i64 k, .int .i64 l] w fun e w' => e = .returned (.bool true) ∧ Below w.heap.size w w' := by
  have := holds_any 2 si m k l u now k l w
  rwa [show holdsB 2 k l u now k l = true by simp [holdsB]; omega] at this
theorem holds_late (si m k l u now : Int) (h : u ≤ now) (w : World) :
    Calls Tryd.prog 94 #[(.agg #[.int .i64 (2), .int .i64 (si), .int .i64 (m), .int .i64 (k), .int .i64 (l), .int .i64 (u)]), .int .i64 now, .int .i64 k, .int .i64 l] w fun e w' => e = .returned (.bool false) ∧ Below w.heap.size w w' := by
  have := holds_any 2 si m k l u now k l w
  rwa [show holdsB 2 k l u now k l = false by simp [holdsB]; omega] at this
theorem holds_wk (si m k l u now wk n : Int) (h : wk ≠ k) (w : World) :
    Calls Tryd.prog 94 #[(.agg #[.int .i64 (2), .int .i64 (si), .int .i64 (m), .int .i64 (k), .int .i64 (l), .int .i64 (u)]), .int .i64 now, .int .i64 wk, .int .i64 n] w fun e w' => e = .returned (.bool false) ∧ Below w.heap.size w w' := by
  have := holds_any 2 si m k l u now wk n w
  rwa [show holdsB 2 k l u now wk n = false by simp [holdsB]; omega] at this
theorem holds_n (si m k l u now wk n : Int) (h : n ≠ l) (w : World) :
    Calls Tryd.prog 94 #[(.agg #[.int .i64 (2), .int .i64 (si), .int .i64 (m), .int .i64 (k), .int .i64 (l), .int .i64 (u)]), .int .i64 now, .int .i64 wk, .int .i64 n] w fun e w' => e = .returned (.bool false) ∧ Below w.heap.size w w' := by
  have := holds_any 2 si m k l u now wk n w
  rwa [show holdsB 2 k l u now wk n = false by simp [holdsB]; omega] at this
theorem run_fieldT0 (a b c d e f : Int) (w : World) : (Instr.field 84 (.agg #[.int .i64 (a), .int .i64 (b), .int .i64 (c), .int .i64 (d), .int .i64 (e), .int .i64 (f)]) 0).run Tryd.prog w = .ok (.int .i64 a) w := by kernel_rfl
theorem run_fieldT5 (a b c d e f : Int) (w : World) : (Instr.field 84 (.agg #[.int .i64 (a), .int .i64 (b), .int .i64 (c), .int .i64 (d), .int .i64 (e), .int .i64 (f)]) 5).run Tryd.prog w = .ok (.int .i64 f) w := by kernel_rfl

set_option maxRecDepth 100000 in
set_option maxHeartbeats 4000000 in
theorem awake11 (w : World) : Calls Tryd.prog 55 #[] w fun e w' => e = .returned (.bool true) ∧ Below w.heap.size w w' := by
  have e1 := fun (a b c d e f a' b' c' d' e' f' : Int) (w : World) => run_eqT a b c d e f a' b' c' d' e' f' w
  have e2 := run_fieldT0
  have e3 := run_fieldT5
  go_enter Tryd.func55, Tryd.ntmps55
  go_wp2_with fail
  refine (open_0 0 0 0 0 0 3 _).mono ?_
  rintro e w1 ⟨rfl, hb1⟩
  have hz1 : w.heap.size ≤ w1.heap.size := hb1.size
  go_wp2_with fail
  refine (take_ok 3 0 0 0 0 3 1 7 5 (by omega) _ (by omega) (by omega) (by omega) (by omega)).mono ?_
  rintro e w2 ⟨rfl, hb2⟩
  obtain ⟨hc2, hf2⟩ := bcell hb2
  have hz2 : w1.heap.size < w2.heap.size := sizeA hb2
  go_wp2_with fail
  refine (take_no 3 0 0 0 0 2 1 7 5 (by omega) _).mono ?_
  rintro e w3 ⟨rfl, hb3⟩
  obtain ⟨hc3, hf3⟩ := bcell hb3
  have hz3 : w2.heap.size < w3.heap.size := sizeA hb3
  go_wp2_with fail
  refine (settle_ready 0 0 1 7 8 8 1 (by omega) (by omega) (by omega) (by omega) (by omega) (by omega) _).mono ?_
  rintro e w4 ⟨rfl, hb4⟩
  obtain ⟨hc4, hf4⟩ := bcell hb4
  have hz4 : w3.heap.size < w4.heap.size := sizeA hb4
  have hz31 : w1.heap.size < w3.heap.size := by omega
  have hz41 : w1.heap.size < w4.heap.size := by omega
  have hz42 : w2.heap.size < w4.heap.size := by omega
  go_wp2_with fail
  generalize hW : w4.alloc (.cells #[.int .i64 1, .int .i64 9, .int .i64 1, .int .i64 0, .int .i64 0, .int .i64 0] 84) = W
  have f1 : W.cell? ⟨w1.heap.size, 0, none⟩ = some (.int .i64 1) ∧ W.cell? ⟨w1.heap.size, 1, none⟩ = some (.int .i64 3) ∧ W.cell? ⟨w1.heap.size, 2, none⟩ = some (.int .i64 0) ∧ W.cell? ⟨w1.heap.size, 3, none⟩ = some (.int .i64 0) ∧ W.cell? ⟨w1.heap.size, 4, none⟩ = some (.int .i64 0) ∧ W.cell? ⟨w1.heap.size, 5, none⟩ = some (.int .i64 0) := by
    subst hW; go_simp
  have f2 : W.cell? ⟨w2.heap.size, 0, none⟩ = some (.int .i64 2) ∧ W.cell? ⟨w2.heap.size, 1, none⟩ = some (.int .i64 0) ∧ W.cell? ⟨w2.heap.size, 2, none⟩ = some (.int .i64 0) ∧ W.cell? ⟨w2.heap.size, 3, none⟩ = some (.int .i64 1) ∧ W.cell? ⟨w2.heap.size, 4, none⟩ = some (.int .i64 7) ∧ W.cell? ⟨w2.heap.size, 5, none⟩ = some (.int .i64 8) := by
    subst hW; go_simp
  have f6 : W.cell? ⟨w4.heap.size, 0, none⟩ = some (.int .i64 1) ∧ W.cell? ⟨w4.heap.size, 1, none⟩ = some (.int .i64 9) ∧ W.cell? ⟨w4.heap.size, 2, none⟩ = some (.int .i64 1) ∧ W.cell? ⟨w4.heap.size, 3, none⟩ = some (.int .i64 0) ∧ W.cell? ⟨w4.heap.size, 4, none⟩ = some (.int .i64 0) ∧ W.cell? ⟨w4.heap.size, 5, none⟩ = some (.int .i64 0) := by
    subst hW; go_simp
  have hbW : Below w.heap.size w W := by
    subst hW
    exact (belowA (belowA (belowA hb1 hz1 hb2) (by omega) hb3) (by omega) hb4).alloc (by omega) _
  have z1 : w1.heap.size < W.heap.size := by subst hW; simp; omega
  have z2 : w2.heap.size < W.heap.size := by subst hW; simp; omega
  have z4 : w4.heap.size < W.heap.size := by subst hW; simp
  clear hW hc2 hf2 hc3 hf3 hc4 hf4 hb1 hb2 hb3 hb4 hz1 hz2 hz3 hz4 hz31 hz41 hz42
  generalize w1.heap.size = B1 at *
  generalize w2.heap.size = B2 at *
  generalize w4.heap.size = B4 at *
  obtain ⟨f10, f11, f12, f13, f14, f15⟩ := f1
  obtain ⟨f20, f21, f22, f23, f24, f25⟩ := f2
  obtain ⟨f60, f61, f62, f63, f64, f65⟩ := f6
  go_region_held3 (fun w' => (∀ b o, b < (W).heap.size → w'.cell? ⟨b, o, none⟩ = (W).cell? ⟨b, o, none⟩) ∧ Below (W).heap.size (W) w') (first | exact stay0 _ | exact stay ‹_› ‹_›)
    (first
      | (go_at_call 92; (with_reducible refine (settle_held 0 0 1 7 8 7 1 (by omega) _).mono ?_); rintro e w' ⟨rfl, hb⟩)
      | (go_at_call 93; (with_reducible refine (miss_fail 0 0 1 7 8 4 0 (by omega) (by omega) (by omega) _).mono ?_); rintro e w' ⟨rfl, hb⟩)
      | (go_at_call 94; (with_reducible refine (holds_yes 0 0 1 7 8 7 (by omega) _).mono ?_); rintro e w' ⟨rfl, hb⟩)
      | (go_at_call 94; (with_reducible refine (holds_late 0 0 1 7 8 8 (by omega) _).mono ?_); rintro e w' ⟨rfl, hb⟩)
      | (go_at_call 95; (with_reducible refine (beat_held 0 0 1 7 8 6 5 (by omega) (by omega) (by omega) (by omega) _).mono ?_); rintro e w' ⟨rfl, hb⟩)
      | (go_at_call 96; (with_reducible refine (done_held 0 0 1 7 8 _).mono ?_); rintro e w' ⟨rfl, hb⟩)
      | (go_at_call 97; (with_reducible refine (right_2 _).mono ?_); rintro e w' ⟨rfl, hb⟩))
  go_wp2
  go_ret
  exact ⟨rfl, stayEnd hbW hbW.size ‹_›⟩
end Go.Proofs.YtpkmgdpnimecfabDoor

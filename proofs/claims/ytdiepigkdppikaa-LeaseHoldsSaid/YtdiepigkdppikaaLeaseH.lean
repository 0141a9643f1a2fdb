/- LeaseHolds: who holds a try holds it till its time; with a beat longer; nobody else does. Every input. -/
import Derived.Test.YtdiepigkdppikaaFrame
import Derived.Test.YtdiepigkdppikaaBase
import Derived.Test.YtdiepigkdppikaaLease3
import Derived.IntWalk
namespace Go.Proofs.Ytdiepigkdppikaa
open Go.ChangeShapes Go.WideShapes Go.ChangeAt Go.RowKit

set_option maxRecDepth 100000 in
set_option maxHeartbeats 2000000 in
theorem leaseHolds_walk (a0 a1 a2 a3 a4 : Int) (w : World) :
    Calls Try.prog 6 #[.int .i64 a0, .int .i64 a1, .int .i64 a2, .int .i64 a3, .int .i64 a4] w fun e w' => e = .returned (.bool true) ∧ Below w.heap.size w w' := by
  obtain ⟨n, ⟨n0, n1⟩, e0⟩ := umod a0 1000 (by omega)
  obtain ⟨k, ⟨k0, k1⟩, e1⟩ := umod a1 100 (by omega)
  obtain ⟨l, ⟨l0, l1⟩, e2⟩ := umod a2 100 (by omega)
  obtain ⟨m, ⟨m0, m1⟩, e3⟩ := umod a3 100 (by omega)
  obtain ⟨b, ⟨b0, b1⟩, e4⟩ := umod a4 (1 + m) (by omega)
  have eqT := run_eqT
  go_enter Try.func6, Try.ntmps6
  go_wp2_with fail
  clear e0 e1 e2 e3 e4
  refine (open_0 0 0 0 0 0 n _).mono ?_
  rintro e w1 ⟨rfl, hb1⟩
  go_wp2_with fail
  refine (take_ok n 0 0 0 0 n k l (1 + m) (by omega) _ (by omega) (by omega) (by omega) (by omega)).mono ?_
  rintro e w2 ⟨rfl, hb2⟩
  go_wp2_with fail
  refine (awake11 _).mono ?_
  rintro e w3 ⟨rfl, hb3⟩
  obtain ⟨hc3, hf3⟩ := bcell hb3
  have hz3 := sizeA hb3
  go_wp2_with fail
  refine (beat_held 0 0 k l (n + (1 + m)) (n + b) (1 + m) (by omega) (by omega) (by omega) (by omega) _).mono ?_
  rintro e w4 ⟨rfl, hb4⟩
  obtain ⟨hc4, hf4⟩ := bcell hb4
  have hz4 := hb4.size
  go_wp2_with fail
  generalize hW : w4.alloc (.cells #[.int .i64 2, .int .i64 0, .int .i64 0, .int .i64 k, .int .i64 l, .int .i64 (n + b + (1 + m))] 33) = W
  have hz43 : w2.heap.size < w4.heap.size := by omega
  have f1 : W.cell? ⟨w2.heap.size, 0, none⟩ = some (.int .i64 (2)) ∧ W.cell? ⟨w2.heap.size, 1, none⟩ = some (.int .i64 (0)) ∧ W.cell? ⟨w2.heap.size, 2, none⟩ = some (.int .i64 (0)) ∧ W.cell? ⟨w2.heap.size, 3, none⟩ = some (.int .i64 (k)) ∧ W.cell? ⟨w2.heap.size, 4, none⟩ = some (.int .i64 (l)) ∧ W.cell? ⟨w2.heap.size, 5, none⟩ = some (.int .i64 (n + (1 + m))) := by
    subst hW; go_simp
  have f2 : W.cell? ⟨w4.heap.size, 0, none⟩ = some (.int .i64 (2)) ∧ W.cell? ⟨w4.heap.size, 1, none⟩ = some (.int .i64 (0)) ∧ W.cell? ⟨w4.heap.size, 2, none⟩ = some (.int .i64 (0)) ∧ W.cell? ⟨w4.heap.size, 3, none⟩ = some (.int .i64 (k)) ∧ W.cell? ⟨w4.heap.size, 4, none⟩ = some (.int .i64 (l)) ∧ W.cell? ⟨w4.heap.size, 5, none⟩ = some (.int .i64 (n + b + (1 + m))) := by
    subst hW; go_simp
  have hbW : Below w.heap.size w W := by
    subst hW
    exact ((belowA (hb1.trans (hb2.mono hb1.size)) (Nat.le_trans hb1.size hb2.size) hb3).trans (hb4.mono (by have := hb1.size; have := hb2.size; omega))).alloc (by have := hb1.size; have := hb2.size; omega) _
  have z1 : w2.heap.size < W.heap.size := by subst hW; simp; omega
  have z2 : w4.heap.size < W.heap.size := by subst hW; simp
  clear hW hc3 hf3 hc4 hf4 hb1 hb2 hb3 hb4 hz3 hz4 hz43
  generalize w2.heap.size = B1 at *
  generalize w4.heap.size = B2 at *
  obtain ⟨f10, f11, f12, f13, f14, f15⟩ := f1
  obtain ⟨f20, f21, f22, f23, f24, f25⟩ := f2
  have e3 := run_fieldT0
  have p1 : n + (1 + m) - 1 < n + (1 + m) := by omega
  have p2 : n + (1 + m) ≤ n + (1 + m) := by omega
  have p3 : n + b + (1 + m) - 1 < n + b + (1 + m) := by omega
  have p4 : k + 1 ≠ k := by omega
  have p5 : l + 1 ≠ l := by omega
  have q1 : IntKind.i64.wrap (n + (1 + m)) = n + (1 + m) := IntWalk.i64_in _ (by omega)
  have q2 : IntKind.i64.wrap (n + (1 + m) - 1) = n + (1 + m) - 1 := IntWalk.i64_in _ (by omega)
  have q3 : IntKind.i64.wrap (n + b) = n + b := IntWalk.i64_in _ (by omega)
  have q4 : IntKind.i64.wrap (n + b + (1 + m)) = n + b + (1 + m) := IntWalk.i64_in _ (by omega)
  have q5 : IntKind.i64.wrap (n + b + (1 + m) - 1) = n + b + (1 + m) - 1 := IntWalk.i64_in _ (by omega)
  have q6 : IntKind.i64.wrap (k + 1) = k + 1 := IntWalk.i64_in _ (by omega)
  have q7 : IntKind.i64.wrap (l + 1) = l + 1 := IntWalk.i64_in _ (by omega)
  simp only [List.append_eq, List.cons_append, List.nil_append]
  go_region_held3 (fun w' => (∀ b o, b < (W).heap.size → w'.cell? ⟨b, o, none⟩ = (W).cell? ⟨b, o, none⟩) ∧ Below (W).heap.size (W) w') (first | exact stay0 _ | exact stay ‹_› ‹_›)
    (first
      | (go_at_call 23; (with_reducible refine (holds_yes 0 0 k l (n + (1 + m)) (n + (1 + m) - 1) p1 _).mono ?_); rintro e w' ⟨rfl, hb⟩)
      | (go_at_call 23; (with_reducible refine (holds_late 0 0 k l (n + (1 + m)) (n + (1 + m)) p2 _).mono ?_); rintro e w' ⟨rfl, hb⟩)
      | (go_at_call 23; (with_reducible refine (holds_yes 0 0 k l (n + b + (1 + m)) (n + b + (1 + m) - 1) p3 _).mono ?_); rintro e w' ⟨rfl, hb⟩)
      | (go_at_call 23; (with_reducible refine (holds_wk 0 0 k l (n + (1 + m)) n (k + 1) l p4 _).mono ?_); rintro e w' ⟨rfl, hb⟩)
      | (go_at_call 23; (with_reducible refine (holds_n 0 0 k l (n + (1 + m)) n k (l + 1) p5 _).mono ?_); rintro e w' ⟨rfl, hb⟩)
      | (go_at_call 22; (with_reducible refine (settle_held 0 0 k l (n + (1 + m)) (n + (1 + m) - 1) 0 p1 _).mono ?_); rintro e w' ⟨rfl, hb⟩)
      | (go_at_call 22; (with_reducible refine (settle_fail 0 0 k l (n + (1 + m)) (n + (1 + m)) 0 p2 (by decide) (by decide) (by decide) _).mono ?_); rintro e w' ⟨rfl, hb⟩))
  go_wp2
  go_ret
  exact ⟨rfl, stayEnd hbW hbW.size ‹_›⟩

set_option maxRecDepth 100000 in
theorem leaseHolds_lifted (os : Os) (started : os.Started) (H : Type) (enc : TypeId × Value → H) :
    ReturnsInHanded {} Try.checked os 6 .any (Rows.leaseHoldsSpec.pre6 enc Try.prog Try.f6 Rows.leaseHoldsRow.domain false) (Rows.leaseHoldsSpec.post enc Try.prog Try.f6 false true false false) := by
  refine law_lift started Try.func6 (by kernel_rfl) (by kernel_rfl) rfl (by kernel_rfl) ?_
    (ChangeSpec.witness6 (enc := enc) (C := Try.checked) false ⟨#[], #[.int .i64 0, .int .i64 0, .int .i64 0, .int .i64 0, .int .i64 0], []⟩ 8 (by kernel_rfl) (by kernel_rfl) (by kernel_rfl) (by kernel_rfl)) ?_
  · intro ds hd
    rw [Try.params6] at hd
    match ds, hd with
    | [d0, d1, d2, d3, d4], _ => rfl
  · intro W base args ds ps hval hA
    rw [Try.params6] at hA hval
    obtain ⟨v0, vs0, d0, ds0, p0, q0, hargs, rfl, rfl, h0, r0⟩ := trodAll_cons hA
    obtain ⟨v1, vs1, d1, ds1, p1, q1, rfl, rfl, rfl, h1, r1⟩ := trodAll_cons r0
    obtain ⟨v2, vs2, d2, ds2, p2, q2, rfl, rfl, rfl, h2, r2⟩ := trodAll_cons r1
    obtain ⟨v3, vs3, d3, ds3, p3, q3, rfl, rfl, rfl, h3, r3⟩ := trodAll_cons r2
    obtain ⟨v4, vs4, d4, ds4, p4, q4, rfl, rfl, rfl, h4, r4⟩ := trodAll_cons r3
    obtain ⟨rfl, rfl, rfl⟩ := trodAll_nil r4
    obtain rfl : args = #[v0, v1, v2, v3, v4] := by cases args; simp_all
    obtain ⟨a0, rfl, _, _, w0⟩ := open_int Try.underlying3 (hval 0 3 v0 rfl rfl) h0
    obtain ⟨a1, rfl, _, _, w1⟩ := open_int Try.underlying3 (hval 1 3 v1 rfl rfl) h1
    obtain ⟨a2, rfl, _, _, w2⟩ := open_int Try.underlying3 (hval 2 3 v2 rfl rfl) h2
    obtain ⟨a3, rfl, _, _, w3⟩ := open_int Try.underlying3 (hval 3 3 v3 rfl rfl) h3
    obtain ⟨a4, rfl, _, _, w4⟩ := open_int Try.underlying3 (hval 4 3 v4 rfl rfl) h4
    exact leaseHolds_walk _ _ _ _ _ _

theorem leaseHolds_holds : Rows.LeaseHoldsSaid :=
  OpenClaim.holds_of_wide 6 Try.f6 rfl rfl rfl rfl rfl rfl rfl ⟨rfl, rfl, rfl, rfl, rfl⟩ rfl rfl rfl rfl rfl (by kernel_rfl) Try.func6 (by kernel_rfl)
    (of_decide_eq_true (by kernel_rfl)) (by unfold Func.isWrapper; first | (rw [if_pos (by decide +kernel)]; kernel_rfl) | (rw [if_neg (by decide +kernel)]; exact ⟨rfl, rfl⟩))
    (fun os started H enc _ => leaseHolds_lifted os started H enc)
end Go.Proofs.Ytdiepigkdppikaa

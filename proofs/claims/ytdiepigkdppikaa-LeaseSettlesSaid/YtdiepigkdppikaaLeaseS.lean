/- LeaseSettles: settled at one time, and then at a later one, a try is as settled at the later one at once; twice is once; nobody who holds it loses it ahead of his time. Every input. -/
import Derived.Test.YtdiepigkdppikaaFrame
import Derived.Test.YtdiepigkdppikaaLeaseR
import Derived.Test.YtdiepigkdppikaaLease3
import Derived.Deep.Fields
namespace Go.Proofs.Ytdiepigkdppikaa
open Go.ChangeShapes Go.WideShapes Go.ChangeAt Go.RowKit

theorem small_yes {s si m k l u a b c : Int} (h : allR (row9 s si m k l u a b c) = true) (q o : Nat) (w : World) (h0 : w.cell? ⟨q, o, none⟩ = some (.int .i64 a)) (h1 : w.cell? ⟨q, o + 1, none⟩ = some (.int .i64 b)) (h2 : w.cell? ⟨q, o + 2, none⟩ = some (.int .i64 c)) :
    Calls Try.prog 19 #[(.agg #[.int .i64 (s), .int .i64 (si), .int .i64 (m), .int .i64 (k), .int .i64 (l), .int .i64 (u)]), .slice (some ⟨q, o, none⟩) 3 3] w fun e w' => e = .returned (.bool true) ∧ Below w.heap.size w w' := by
  have := small_any s si m k l u a b c q o w h0 h1 h2
  rwa [h] at this
theorem small_not {s si m k l u a b c : Int} (h : allR (row9 s si m k l u a b c) = false) (q o : Nat) (w : World) (h0 : w.cell? ⟨q, o, none⟩ = some (.int .i64 a)) (h1 : w.cell? ⟨q, o + 1, none⟩ = some (.int .i64 b)) (h2 : w.cell? ⟨q, o + 2, none⟩ = some (.int .i64 c)) :
    Calls Try.prog 19 #[(.agg #[.int .i64 (s), .int .i64 (si), .int .i64 (m), .int .i64 (k), .int .i64 (l), .int .i64 (u)]), .slice (some ⟨q, o, none⟩) 3 3] w fun e w' => e = .returned (.bool false) ∧ Below w.heap.size w w' := by
  have := small_any s si m k l u a b c q o w h0 h1 h2
  rwa [h] at this
theorem refRight_yes {s si m k l u : Int} (h : rightB s si m k l u = true) (w : World) :
    Calls Try.prog 20 #[(.agg #[.int .i64 (s), .int .i64 (si), .int .i64 (m), .int .i64 (k), .int .i64 (l), .int .i64 (u)])] w fun e w' => e = .returned (.bool true) ∧ Below w.heap.size w w' := by
  have := refRight_any s si m k l u w
  rwa [h] at this
theorem refRight_not {s si m k l u : Int} (h : rightB s si m k l u = false) (w : World) :
    Calls Try.prog 20 #[(.agg #[.int .i64 (s), .int .i64 (si), .int .i64 (m), .int .i64 (k), .int .i64 (l), .int .i64 (u)])] w fun e w' => e = .returned (.bool false) ∧ Below w.heap.size w w' := by
  have := refRight_any s si m k l u w
  rwa [h] at this

set_option maxRecDepth 100000 in
set_option maxHeartbeats 2000000 in
/-- where an input is let go -/
theorem settles_out_small (s si m k l u a b r : Int) (h : allR (row9 s si m k l u a b r) = false) (w : World) :
    Calls Try.prog 4 #[(.agg #[.int .i64 (s), .int .i64 (si), .int .i64 (m), .int .i64 (k), .int .i64 (l), .int .i64 (u)]), .int .i64 a, .int .i64 b, .int .i64 r] w fun e w' => e = .returned (.bool true) ∧ Below w.heap.size w w' := by
  have H := Lib.hid h
  clear h
  go_enter Try.func4, Try.ntmps4
  go_wp2_with fail
  refine (awake11 _).mono ?_
  rintro e w1 ⟨rfl, hb1⟩
  obtain ⟨hc1, hf1⟩ := bcell hb1
  have hz1 : w.heap.size < w1.heap.size := by have := hb1.size; simp at this; omega
  go_wp2_with fail
  with_reducible refine (small_not H.out w1.heap.size 0 _ (by go_simp) (by go_simp) (by go_simp)).mono ?_
  rintro e w2 ⟨rfl, hb2⟩
  go_wp2_with fail
  refine (awake11 _).mono ?_
  rintro e w3 ⟨rfl, hb3⟩
  go_wp2
  go_ret
  refine ⟨rfl, ?_⟩
  have h1 : Below w.heap.size w w1 := (below1 w _).trans (hb1.mono (by simp))
  exact (belowA h1 (Nat.le_of_lt hz1) hb2).trans (hb3.mono (by have := sizeA hb2; omega))

set_option maxRecDepth 100000 in
set_option maxHeartbeats 2000000 in
theorem settles_out_late (s si m k l u a b r : Int) (h : allR (row9 s si m k l u a b r) = true) (hab : b < a) (w : World) :
    Calls Try.prog 4 #[(.agg #[.int .i64 (s), .int .i64 (si), .int .i64 (m), .int .i64 (k), .int .i64 (l), .int .i64 (u)]), .int .i64 a, .int .i64 b, .int .i64 r] w fun e w' => e = .returned (.bool true) ∧ Below w.heap.size w w' := by
  have H := Lib.hid h
  clear h
  go_enter Try.func4, Try.ntmps4
  go_wp2_with fail
  refine (awake11 _).mono ?_
  rintro e w1 ⟨rfl, hb1⟩
  obtain ⟨hc1, hf1⟩ := bcell hb1
  have hz1 : w.heap.size < w1.heap.size := by have := hb1.size; simp at this; omega
  go_wp2_with fail
  with_reducible refine (small_yes H.out w1.heap.size 0 _ (by go_simp) (by go_simp) (by go_simp)).mono ?_
  rintro e w2 ⟨rfl, hb2⟩
  go_wp2_with fail
  refine (awake11 _).mono ?_
  rintro e w3 ⟨rfl, hb3⟩
  go_wp2
  go_ret
  refine ⟨rfl, ?_⟩
  have h1 : Below w.heap.size w w1 := (below1 w _).trans (hb1.mono (by simp))
  exact (belowA h1 (Nat.le_of_lt hz1) hb2).trans (hb3.mono (by have := sizeA hb2; omega))

set_option maxRecDepth 100000 in
set_option maxHeartbeats 2000000 in
theorem settles_out_right (s si m k l u a b r : Int) (h : allR (row9 s si m k l u a b r) = true) (hab : a ≤ b) (hr : rightB s si m k l u = false) (w : World) :
    Calls Try.prog 4 #[(.agg #[.int .i64 (s), .int .i64 (si), .int .i64 (m), .int .i64 (k), .int .i64 (l), .int .i64 (u)]), .int .i64 a, .int .i64 b, .int .i64 r] w fun e w' => e = .returned (.bool true) ∧ Below w.heap.size w w' := by
  have HR := Lib.hid hr
  clear hr
  have H := Lib.hid h
  clear h
  go_enter Try.func4, Try.ntmps4
  go_wp2_with fail
  refine (awake11 _).mono ?_
  rintro e w1 ⟨rfl, hb1⟩
  obtain ⟨hc1, hf1⟩ := bcell hb1
  have hz1 : w.heap.size < w1.heap.size := by have := hb1.size; simp at this; omega
  go_wp2_with fail
  with_reducible refine (small_yes H.out w1.heap.size 0 _ (by go_simp) (by go_simp) (by go_simp)).mono ?_
  rintro e w2 ⟨rfl, hb2⟩
  obtain ⟨hc2, hf2⟩ := bcell hb2
  have hz2 := sizeA hb2
  have hz20 : w.heap.size < w2.heap.size := by omega
  go_wp2_with fail
  with_reducible refine (like_any s si m k l u _).mono ?_
  rintro e w3 ⟨rfl, hb3⟩
  go_wp2_with fail
  with_reducible refine (refRight_not HR.out _).mono ?_
  rintro e w4 ⟨rfl, hb4⟩
  go_wp2_with fail
  refine (awake11 _).mono ?_
  rintro e w5 ⟨rfl, hb5⟩
  go_wp2
  go_ret
  refine ⟨rfl, ?_⟩
  have h1 : Below w.heap.size w w1 := (below1 w _).trans (hb1.mono (by simp))
  have h2 := belowA h1 (Nat.le_of_lt hz1) hb2
  exact ((h2.trans (hb3.mono (by omega))).trans (hb4.mono (by have := hb3.size; omega))).trans (hb5.mono (by have := hb3.size; have := hb4.size; omega))

set_option maxRecDepth 100000 in
set_option maxHeartbeats 4000000 in
theorem settles_core (s si m k l u a b r : Int) (h : allR (row9 s si m k l u a b r) = true) (hab : a ≤ b) (hr : rightB s si m k l u = true)
    (x0 x1 x2 x3 x4 x5 y0 y1 y2 y3 y4 y5 : Int) (hold : Bool)
    (cA : ∀ W, Calls Try.prog 22 #[(.agg #[.int .i64 (s), .int .i64 (si), .int .i64 (m), .int .i64 (k), .int .i64 (l), .int .i64 (u)]), .int .i64 a, .int .i64 r] W fun e w' => e = .returned (.agg #[.int .i64 (x0), .int .i64 (x1), .int .i64 (x2), .int .i64 (x3), .int .i64 (x4), .int .i64 (x5)]) ∧ Below W.heap.size W w')
    (cB : ∀ W, Calls Try.prog 22 #[(.agg #[.int .i64 (s), .int .i64 (si), .int .i64 (m), .int .i64 (k), .int .i64 (l), .int .i64 (u)]), .int .i64 b, .int .i64 r] W fun e w' => e = .returned (.agg #[.int .i64 (y0), .int .i64 (y1), .int .i64 (y2), .int .i64 (y3), .int .i64 (y4), .int .i64 (y5)]) ∧ Below W.heap.size W w')
    (cXB : ∀ W, Calls Try.prog 22 #[(.agg #[.int .i64 (x0), .int .i64 (x1), .int .i64 (x2), .int .i64 (x3), .int .i64 (x4), .int .i64 (x5)]), .int .i64 b, .int .i64 r] W fun e w' => e = .returned (.agg #[.int .i64 (y0), .int .i64 (y1), .int .i64 (y2), .int .i64 (y3), .int .i64 (y4), .int .i64 (y5)]) ∧ Below W.heap.size W w')
    (cXA : ∀ W, Calls Try.prog 22 #[(.agg #[.int .i64 (x0), .int .i64 (x1), .int .i64 (x2), .int .i64 (x3), .int .i64 (x4), .int .i64 (x5)]), .int .i64 a, .int .i64 r] W fun e w' => e = .returned (.agg #[.int .i64 (x0), .int .i64 (x1), .int .i64 (x2), .int .i64 (x3), .int .i64 (x4), .int .i64 (x5)]) ∧ Below W.heap.size W w')
    (cH : ∀ W, Calls Try.prog 23 #[(.agg #[.int .i64 (s), .int .i64 (si), .int .i64 (m), .int .i64 (k), .int .i64 (l), .int .i64 (u)]), .int .i64 a, .int .i64 k, .int .i64 l] W fun e w' => e = .returned (.bool hold) ∧ Below W.heap.size W w')
    (hH : hold = true → (x0 == s && x1 == si && x2 == m && x3 == k && x4 == l && x5 == u) = true) (hm1 : 0 ≤ m) (hm2 : m ≤ 6)
    (hM : (x2 == m) = true ∨ ((x2 == m) = false ∧ (x2 == m + 1) = true ∧ (x0 != 2) = true)) (w : World) :
    Calls Try.prog 4 #[(.agg #[.int .i64 (s), .int .i64 (si), .int .i64 (m), .int .i64 (k), .int .i64 (l), .int .i64 (u)]), .int .i64 a, .int .i64 b, .int .i64 r] w fun e w' => e = .returned (.bool true) ∧ Below w.heap.size w w' := by
  have HR := Lib.hid hr
  have HA := Lib.hid cA
  have HB := Lib.hid cB
  have HXB := Lib.hid cXB
  have HXA := Lib.hid cXA
  have HH := Lib.hid cH
  have HHH := Lib.hid hH
  have HM := Lib.hid hM
  clear hr cA cB cXB cXA cH hH hM
  have H := Lib.hid h
  clear h
  go_enter Try.func4, Try.ntmps4
  go_wp2_with fail
  refine (awake11 _).mono ?_
  rintro e w1 ⟨rfl, hb1⟩
  obtain ⟨hc1, hf1⟩ := bcell hb1
  have hz1 : w.heap.size < w1.heap.size := by have := hb1.size; simp at this; omega
  go_wp2_with fail
  with_reducible refine (small_yes H.out w1.heap.size 0 _ (by go_simp) (by go_simp) (by go_simp)).mono ?_
  rintro e w2 ⟨rfl, hb2⟩
  obtain ⟨hc2, hf2⟩ := bcell hb2
  have hz2 := sizeA hb2
  have hz20 : w.heap.size < w2.heap.size := by omega
  go_wp2_with fail
  with_reducible refine (like_any s si m k l u _).mono ?_
  rintro e w3 ⟨rfl, hb3⟩
  go_wp2_with fail
  with_reducible refine (refRight_yes HR.out _).mono ?_
  rintro e w4 ⟨rfl, hb4⟩
  have h1 : Below w.heap.size w w1 := (below1 w _).trans (hb1.mono (by simp))
  have h2 := belowA h1 (Nat.le_of_lt hz1) hb2
  have h4 := (h2.trans (hb3.mono (by omega))).trans (hb4.mono (by have := hb3.size; omega))
  have hz4 : w.heap.size < w4.heap.size := by have := hb3.size; have := hb4.size; omega
  have hrow : ∀ j, w4.cell? ⟨w.heap.size, j, none⟩ = (w.alloc (.cells #[.int .i64 s, .int .i64 si, .int .i64 m, .int .i64 k, .int .i64 l, .int .i64 u] 33)).cell? ⟨w.heap.size, j, none⟩ := by
    intro j
    rw [hb4.cell (by have := hb3.size; simp; omega), hb3.cell (by simp; omega), hc2 _ _ (by simp; omega), ← hc1 _ _ (by simp)]
    exact Below.cell (w := w1) (below1 w1 _) (p := ⟨w.heap.size, j, none⟩) hz1
  have g0 : w4.cell? ⟨w.heap.size, 0, none⟩ = some (.int .i64 s) := by rw [hrow]; go_simp
  have g1 : w4.cell? ⟨w.heap.size, 1, none⟩ = some (.int .i64 si) := by rw [hrow]; go_simp
  have g2 : w4.cell? ⟨w.heap.size, 2, none⟩ = some (.int .i64 m) := by rw [hrow]; go_simp
  have g3 : w4.cell? ⟨w.heap.size, 3, none⟩ = some (.int .i64 k) := by rw [hrow]; go_simp
  have g4 : w4.cell? ⟨w.heap.size, 4, none⟩ = some (.int .i64 l) := by rw [hrow]; go_simp
  have g5 : w4.cell? ⟨w.heap.size, 5, none⟩ = some (.int .i64 u) := by rw [hrow]; go_simp
  clear hrow hc1 hf1 hc2 hf2 hb1 hb2 hb3 hb4 h1 h2 hz1 hz2 hz20
  go_wp2_with fail
  with_reducible refine (HA.out _).mono ?_
  rintro e w5 ⟨rfl, hb5⟩
  go_wp2_with fail
  have hz5 : w.heap.size < w5.heap.size := Nat.lt_of_lt_of_le hz4 hb5.size
  obtain ⟨hc5, hf5⟩ := bcell hb5
  generalize hW : w5.alloc (.cells #[.int .i64 x0, .int .i64 x1, .int .i64 x2, .int .i64 x3, .int .i64 x4, .int .i64 x5] 33) = W
  have f1 : W.cell? ⟨w.heap.size, 0, none⟩ = some (.int .i64 (s)) ∧ W.cell? ⟨w.heap.size, 1, none⟩ = some (.int .i64 (si)) ∧ W.cell? ⟨w.heap.size, 2, none⟩ = some (.int .i64 (m)) ∧ W.cell? ⟨w.heap.size, 3, none⟩ = some (.int .i64 (k)) ∧ W.cell? ⟨w.heap.size, 4, none⟩ = some (.int .i64 (l)) ∧ W.cell? ⟨w.heap.size, 5, none⟩ = some (.int .i64 (u)) := by
    subst hW; go_simp
  have f2 : W.cell? ⟨w5.heap.size, 0, none⟩ = some (.int .i64 (x0)) ∧ W.cell? ⟨w5.heap.size, 1, none⟩ = some (.int .i64 (x1)) ∧ W.cell? ⟨w5.heap.size, 2, none⟩ = some (.int .i64 (x2)) ∧ W.cell? ⟨w5.heap.size, 3, none⟩ = some (.int .i64 (x3)) ∧ W.cell? ⟨w5.heap.size, 4, none⟩ = some (.int .i64 (x4)) ∧ W.cell? ⟨w5.heap.size, 5, none⟩ = some (.int .i64 (x5)) := by
    subst hW; go_simp
  have hbW : Below w.heap.size w W := by
    subst hW
    exact (h4.trans (hb5.mono (Nat.le_of_lt hz4))).alloc (by omega) _
  have z1 : w.heap.size < W.heap.size := by subst hW; simp; omega
  have z2 : w5.heap.size < W.heap.size := by subst hW; simp
  clear hW hc5 hf5 hb5 hz5 hz4 h4 g0 g1 g2 g3 g4 g5
  generalize w5.heap.size = B2 at *
  obtain ⟨f10, f11, f12, f13, f14, f15⟩ := f1
  obtain ⟨f20, f21, f22, f23, f24, f25⟩ := f2
  have neqT := run_neqT
  go_region_held3 (fun w' => (∀ b o, b < (W).heap.size → w'.cell? ⟨b, o, none⟩ = (W).cell? ⟨b, o, none⟩) ∧ Below (W).heap.size (W) w') (first | exact stay0 _ | exact stay ‹_› ‹_›)
    (first
      | (go_at_call 22; (with_reducible refine (HXB.out _).mono ?_); rintro e w' ⟨rfl, hb⟩)
      | (go_at_call 22; (with_reducible refine (HB.out _).mono ?_); rintro e w' ⟨rfl, hb⟩)
      | (go_at_call 22; (with_reducible refine (HXA.out _).mono ?_); rintro e w' ⟨rfl, hb⟩))
  rename_i hS
  have hfin := hbW.trans (hS.2.mono hbW.size)
  have hw' : W.heap.size ≤ w'.heap.size := hS.2.size
  have g := hS.1
  clear hS
  cases hold
  · go_wp2_with fail
    with_reducible refine (HH.out _).mono ?_
    rintro e w9 ⟨rfl, hb9⟩
    have gg : ∀ b o, b < W.heap.size → w9.cell? ⟨b, o, none⟩ = W.cell? ⟨b, o, none⟩ := fun b o hl => (hb9.cell (p := ⟨b, o, none⟩) (Nat.lt_of_lt_of_le hl hw')).trans (g b o hl)
    have hfin9 := hfin.trans (hb9.mono hfin.size)
    clear g hb9
    rcases HM.out with hm | ⟨hm, hm', hm''⟩
    · go_wp2
      go_ret
      exact ⟨by simp, hfin9⟩
    · have e1 : IntKind.i64.wrap (m + 1) = m + 1 := IntWalk.i64_in _ (by omega)
      go_wp2
      go_ret
      exact ⟨by simp, hfin9⟩
  · have hh := HHH.out rfl
    simp only [Bool.and_eq_true, beq_iff_eq] at hh
    obtain ⟨⟨⟨⟨⟨rfl, rfl⟩, rfl⟩, rfl⟩, rfl⟩, rfl⟩ := hh
    clear HHH
    go_wp2_with fail
    with_reducible refine (HH.out _).mono ?_
    rintro e w9 ⟨rfl, hb9⟩
    have gg : ∀ b o, b < W.heap.size → w9.cell? ⟨b, o, none⟩ = W.cell? ⟨b, o, none⟩ := fun b o hl => (hb9.cell (p := ⟨b, o, none⟩) (Nat.lt_of_lt_of_le hl hw')).trans (g b o hl)
    have hfin9 := hfin.trans (hb9.mono hfin.size)
    clear g hb9
    rcases HM.out with hm | ⟨hm, _, _⟩
    · go_wp2
      go_ret
      exact ⟨by simp, hfin9⟩
    · simp at hm

theorem right_bounds {s si m k l u : Int} (h : rightB s si m k l u = true) : (0 ≤ m ∧ m ≤ 6) ∧ (0 ≤ u ∧ u ≤ 1000000) ∧ (s ≠ 2 → k = 0 ∧ l = 0 ∧ u = 0) ∧ (s ≠ 1 → si = 0) := by
  unfold rightB rightL at h
  simp [inM] at h
  obtain ⟨⟨_, _, _, hu⟩, ⟨⟨_, hm⟩, h2⟩, h1⟩ := h
  refine ⟨hm, hu, fun hs => ?_, fun hs => ?_⟩
  · rcases h2 with h2 | ⟨⟨a, b⟩, c⟩
    · exact absurd h2 hs
    · exact ⟨a, b, c⟩
  · rcases h1 with h1 | h1
    · exact absurd h1 hs
    · exact h1

theorem leaseSettles_walk (s si m k l u a b r : Int) (w : World) :
    Calls Try.prog 4 #[(.agg #[.int .i64 (s), .int .i64 (si), .int .i64 (m), .int .i64 (k), .int .i64 (l), .int .i64 (u)]), .int .i64 a, .int .i64 b, .int .i64 r] w fun e w' => e = .returned (.bool true) ∧ Below w.heap.size w w' := by
  by_cases h : allR (row9 s si m k l u a b r) = true
  case neg => exact settles_out_small s si m k l u a b r (by simpa using h) w
  by_cases hab : a ≤ b
  case neg => exact settles_out_late s si m k l u a b r h (by omega) w
  by_cases hr : rightB s si m k l u = true
  case neg => exact settles_out_right s si m k l u a b r h hab (by simpa using hr) w
  obtain ⟨⟨m0, m1⟩, ⟨u0, u1⟩, _, h1⟩ := right_bounds hr
  by_cases hs : s = 2
  · subst hs
    obtain rfl := h1 (by decide)
    by_cases hua : u ≤ a
    · have hh : ∀ W, Calls Try.prog 23 #[(.agg #[.int .i64 (2), .int .i64 (0), .int .i64 (m), .int .i64 (k), .int .i64 (l), .int .i64 (u)]), .int .i64 a, .int .i64 k, .int .i64 l] W fun e w' => e = .returned (.bool false) ∧ Below W.heap.size W w' := fun W => holds_late 0 m k l u a hua W
      by_cases hm : r < m + 1
      · exact settles_core 2 0 m k l u a b r h hab hr 4 0 (m + 1) 0 0 0 4 0 (m + 1) 0 0 0 false (fun W => settle_fail 0 m k l u a r hua hm (by omega) (by omega) W)
          (fun W => settle_fail 0 m k l u b r (by omega) hm (by omega) (by omega) W) (fun W => settle_not 4 0 (m + 1) 0 0 0 b r (by decide) W) (fun W => settle_not 4 0 (m + 1) 0 0 0 a r (by decide) W) hh
          (fun e => by cases e) m0 m1 (.inr ⟨by simp; omega, by simp, by decide⟩) w
      · exact settles_core 2 0 m k l u a b r h hab hr 1 (u + (m + 1)) (m + 1) 0 0 0 1 (u + (m + 1)) (m + 1) 0 0 0 false (fun W => settle_ready 0 m k l u a r hua (by omega) (by omega) (by omega) (by omega) (by omega) W)
          (fun W => settle_ready 0 m k l u b r (by omega) (by omega) (by omega) (by omega) (by omega) (by omega) W) (fun W => settle_not 1 (u + (m + 1)) (m + 1) 0 0 0 b r (by decide) W) (fun W => settle_not 1 (u + (m + 1)) (m + 1) 0 0 0 a r (by decide) W) hh
          (fun e => by cases e) m0 m1 (.inr ⟨by simp; omega, by simp, by decide⟩) w
    · have hh : ∀ W, Calls Try.prog 23 #[(.agg #[.int .i64 (2), .int .i64 (0), .int .i64 (m), .int .i64 (k), .int .i64 (l), .int .i64 (u)]), .int .i64 a, .int .i64 k, .int .i64 l] W fun e w' => e = .returned (.bool true) ∧ Below W.heap.size W w' := fun W => holds_yes 0 m k l u a (by omega) W
      by_cases hub : u ≤ b
      · by_cases hm : r < m + 1
        · exact settles_core 2 0 m k l u a b r h hab hr 2 0 m k l u 4 0 (m + 1) 0 0 0 true (fun W => settle_held 0 m k l u a r (by omega) W)
            (fun W => settle_fail 0 m k l u b r (by omega) hm (by omega) (by omega) W) (fun W => settle_fail 0 m k l u b r (by omega) hm (by omega) (by omega) W) (fun W => settle_held 0 m k l u a r (by omega) W) hh
            (fun _ => by simp) m0 m1 (.inl (by simp)) w
        · exact settles_core 2 0 m k l u a b r h hab hr 2 0 m k l u 1 (u + (m + 1)) (m + 1) 0 0 0 true (fun W => settle_held 0 m k l u a r (by omega) W)
            (fun W => settle_ready 0 m k l u b r (by omega) (by omega) (by omega) (by omega) (by omega) (by omega) W) (fun W => settle_ready 0 m k l u b r (by omega) (by omega) (by omega) (by omega) (by omega) (by omega) W) (fun W => settle_held 0 m k l u a r (by omega) W) hh
            (fun _ => by simp) m0 m1 (.inl (by simp)) w
      · exact settles_core 2 0 m k l u a b r h hab hr 2 0 m k l u 2 0 m k l u true (fun W => settle_held 0 m k l u a r (by omega) W)
          (fun W => settle_held 0 m k l u b r (by omega) W) (fun W => settle_held 0 m k l u b r (by omega) W) (fun W => settle_held 0 m k l u a r (by omega) W) hh
          (fun _ => by simp) m0 m1 (.inl (by simp)) w
  · have hh : ∀ W, Calls Try.prog 23 #[(.agg #[.int .i64 (s), .int .i64 (si), .int .i64 (m), .int .i64 (k), .int .i64 (l), .int .i64 (u)]), .int .i64 a, .int .i64 k, .int .i64 l] W fun e w' => e = .returned (.bool false) ∧ Below W.heap.size W w' := fun W => by
      have := holds_any s si m k l u a k l W
      rwa [show holdsB s k l u a k l = false by simp [holdsB, hs]] at this
    exact settles_core s si m k l u a b r h hab hr s si m k l u s si m k l u false (fun W => settle_not s si m k l u a r hs W)
      (fun W => settle_not s si m k l u b r hs W) (fun W => settle_not s si m k l u b r hs W) (fun W => settle_not s si m k l u a r hs W) hh
      (fun e => by cases e) m0 m1 (.inl (by simp)) w

section
open Go.Deep Go.Joins
set_option maxRecDepth 100000 in
theorem open_T {H : Type} {enc : TypeId × Value → H} {W : World} {r : Reach} {b0 base : Nat} {spare : Nat → Bool} {held : Bool} {v : Value} {d : DataW H} {p : List MemPlace}
    (hv : Value.okWide Try.prog W r b0 33 v) (h : DataW.Trod enc Try.prog W base spare held 33 v d p) : ∃ s si m k l u : Int, v = (.agg #[.int .i64 (s), .int .i64 (si), .int .i64 (m), .int .i64 (k), .int .i64 (l), .int .i64 (u)]) := by
  obtain ⟨cs, rfl, hsz⟩ := okWide_struct Try.underlying33 hv
  obtain ⟨l⟩ := cs
  have hone : oneCellFields Try.prog (Try.prog.fieldsOf 33) = true := by kernel_rfl
  have hC : Try.prog.cellsOf 33 = 6 := by kernel_rfl
  have hfs : Try.prog.underlying 33 = some (.struct (Try.prog.fieldsOf 33)) := fieldsT
  match l, hsz.trans hC with
  | [c0, c1, c2, c3, c4, c5], _ =>
    obtain ⟨fuel, hf⟩ := h
    obtain ⟨xs, n, _, hx, _, hlen, hg⟩ := DataW.trod_struct hfs hf
    have one : ∀ (j : Nat) (f : Field) (c : Value), (Try.prog.fieldsOf 33)[j]? = some f → f.type = 3 → [c0, c1, c2, c3, c4, c5][j]? = some c → ∃ a : Int, c = .int .i64 a := by
      intro j f c hj ht hc
      obtain ⟨o, k⟩ := hone_of hone j f hj
      have h1 := hg j f hj
      rw [o, k, ht] at h1
      have : ((Value.agg ⟨[c0, c1, c2, c3, c4, c5]⟩).cells.toList.drop j).take 1 = [c] := by
        have hjl : j < 6 := (List.getElem?_eq_some_iff.1 hc).1
        simp only [Value.cells]
        rw [List.drop_eq_getElem_cons (by simpa using hjl)]
        simp [(List.getElem?_eq_some_iff.1 hc).2]
      rw [this] at h1
      have hjx : xs[j]? = some (xs[j]'(by
        have : j < (Try.prog.fieldsOf 33).size := (Array.getElem?_eq_some_iff.1 hj).1
        omega)) := List.getElem?_eq_getElem _
      obtain ⟨a, e, _⟩ := DataW.trod_int Try.underlying3 (h1.trans hjx)
      exact ⟨a, by simpa using e⟩
    have ff : ∀ j, j < 6 → ∃ f, (Try.prog.fieldsOf 33)[j]? = some f ∧ f.type = 3 := by
      intro j hj
      simp only [Program.fieldsOf, Try.underlying33]
      match j, hj with
      | 0, _ => exact ⟨_, rfl, rfl⟩
      | 1, _ => exact ⟨_, rfl, rfl⟩
      | 2, _ => exact ⟨_, rfl, rfl⟩
      | 3, _ => exact ⟨_, rfl, rfl⟩
      | 4, _ => exact ⟨_, rfl, rfl⟩
      | 5, _ => exact ⟨_, rfl, rfl⟩
    obtain ⟨f0, g0, t0⟩ := ff 0 (by decide)
    obtain ⟨f1, g1, t1⟩ := ff 1 (by decide)
    obtain ⟨f2, g2, t2⟩ := ff 2 (by decide)
    obtain ⟨f3, g3, t3⟩ := ff 3 (by decide)
    obtain ⟨f4, g4, t4⟩ := ff 4 (by decide)
    obtain ⟨f5, g5, t5⟩ := ff 5 (by decide)
    obtain ⟨a0, rfl⟩ := one 0 f0 c0 g0 t0 rfl
    obtain ⟨a1, rfl⟩ := one 1 f1 c1 g1 t1 rfl
    obtain ⟨a2, rfl⟩ := one 2 f2 c2 g2 t2 rfl
    obtain ⟨a3, rfl⟩ := one 3 f3 c3 g3 t3 rfl
    obtain ⟨a4, rfl⟩ := one 4 f4 c4 g4 t4 rfl
    obtain ⟨a5, rfl⟩ := one 5 f5 c5 g5 t5 rfl
    exact ⟨a0, a1, a2, a3, a4, a5, rfl⟩
end

set_option maxRecDepth 100000 in
theorem leaseSettles_lifted (os : Os) (started : os.Started) (H : Type) (enc : TypeId × Value → H) :
    ReturnsInHanded {} Try.checked os 4 .any (Rows.leaseSettlesSpec.pre6 enc Try.prog Try.f4 Rows.leaseSettlesRow.domain false) (Rows.leaseSettlesSpec.post enc Try.prog Try.f4 false true false false) := by
  refine law_lift started Try.func4 (by kernel_rfl) (by kernel_rfl) rfl (by kernel_rfl) ?_
    (ChangeSpec.witness6 (enc := enc) (C := Try.checked) false ⟨#[], #[(.agg #[.int .i64 (0), .int .i64 (0), .int .i64 (0), .int .i64 (0), .int .i64 (0), .int .i64 (0)]), .int .i64 0, .int .i64 0, .int .i64 0], []⟩ 8 (by kernel_rfl) (by kernel_rfl) (by kernel_rfl) (by kernel_rfl)) ?_
  · intro ds hd
    rw [Try.params4] at hd
    match ds, hd with
    | [d0, d1, d2, d3], _ => rfl
  · intro W base args ds ps hval hA
    rw [Try.params4] at hA hval
    obtain ⟨v0, v1, v2, v3, d0, d1, d2, d3, p0, p1, p2, p3, hargs, rfl, rfl, h0, h1, h2, h3⟩ := trodAll_four hA
    subst hargs
    obtain ⟨s, si, m, k, l, u, rfl⟩ := open_T (hval 0 33 v0 rfl rfl) h0
    obtain ⟨a1, rfl, _, _, w1⟩ := open_int Try.underlying3 (hval 1 3 v1 rfl rfl) h1
    obtain ⟨a2, rfl, _, _, w2⟩ := open_int Try.underlying3 (hval 2 3 v2 rfl rfl) h2
    obtain ⟨a3, rfl, _, _, w3⟩ := open_int Try.underlying3 (hval 3 3 v3 rfl rfl) h3
    exact leaseSettles_walk _ _ _ _ _ _ _ _ _ _

theorem leaseSettles_holds : Rows.LeaseSettlesSaid :=
  OpenClaim.holds_of_wide 4 Try.f4 rfl rfl rfl rfl rfl rfl rfl ⟨rfl, rfl, rfl, rfl, rfl⟩ rfl rfl rfl rfl rfl (by kernel_rfl) Try.func4 (by kernel_rfl)
    (of_decide_eq_true (by kernel_rfl)) (by unfold Func.isWrapper; first | (rw [if_pos (by decide +kernel)]; kernel_rfl) | (rw [if_neg (by decide +kernel)]; exact ⟨rfl, rfl⟩))
    (fun os started H enc _ => leaseSettles_lifted os started H enc)
end Go.Proofs.Ytdiepigkdppikaa

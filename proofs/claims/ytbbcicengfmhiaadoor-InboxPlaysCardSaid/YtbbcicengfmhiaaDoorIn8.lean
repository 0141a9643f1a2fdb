/- cmp.Compare and cmp.Or at ints; what Seen keeps. No condition. -/
import Derived.Test.YtbbcicengfmhiaaDoorIn3
import Derived.Test.YtbbcicengfmhiaaDoorRel2
namespace Go.Proofs.YtbbcicengfmhiaaDoor
set_option maxRecDepth 100000
open Go.RowKit

theorem orI_miss : ∀ {l : List Int}, (∀ k, k < l.length → l[k]! = 0) → orI l = 0
  | [], _ => rfl
  | x :: r, h => by
    have h0 : x = 0 := h 0 (by simp)
    rw [orI, if_neg (by simp [h0])]
    exact orI_miss fun k hk => h (k + 1) (by simp; omega)
theorem orI_hit : ∀ {l : List Int} {j : Nat}, j < l.length → (∀ k, k < j → l[k]! = 0) → l[j]! ≠ 0 → orI l = l[j]!
  | [], j, hj, _, _ => by simp at hj
  | x :: r, 0, _, _, h => by rw [orI, if_pos (show x ≠ 0 from h)]; rfl
  | x :: r, j + 1, hj, hk, h => by
    have h0 : x = 0 := hk 0 (by omega)
    rw [orI, if_neg (by simp [h0])]
    exact orI_hit (l := r) (j := j) (by simpa using hj) (fun k hk' => hk (k + 1) (by omega)) h
theorem cmpNaN (x : Int) (w : World) : Calls Tryd.prog 135 #[.int .i64 x] w fun e w' => e = .returned (.bool false) ∧ w = w' := by
  go_enter Tryd.func135, Tryd.ntmps135
  go_wp2
  go_ret
  exact ⟨rfl, rfl⟩
theorem cmpCompare (x y : Int) (w : World) : Calls Tryd.prog 98 #[.int .i64 x, .int .i64 y] w fun e w' => e = .returned (.int .i64 (cmpI x y)) ∧ w = w' := by
  go_enter Tryd.func98, Tryd.ntmps98
  go_wp2_with fail
  refine (cmpNaN x w).mono ?_
  rintro e w1 ⟨rfl, rfl⟩
  go_wp2_with fail
  refine (cmpNaN y w).mono ?_
  rintro e w1 ⟨rfl, rfl⟩
  by_cases h1 : x < y
  · have HR := Lib.hid (show cmpI x y = -1 by rw [cmpI, if_pos h1])
    go_wp2
    go_ret
    exact ⟨by rw [HR.out]; rfl, rfl⟩
  · by_cases h2 : y < x
    · have HR := Lib.hid (show cmpI x y = 1 by rw [cmpI, if_neg h1, if_pos h2])
      go_wp2
      go_ret
      exact ⟨by rw [HR.out]; rfl, rfl⟩
    · have HR := Lib.hid (show cmpI x y = 0 by rw [cmpI, if_neg h1, if_neg h2])
      go_wp2
      go_ret
      exact ⟨by rw [HR.out]; rfl, rfl⟩
set_option maxHeartbeats 1000000 in
theorem cmpOr (v : Value) (xs : List Int) (w : World) (hS : SlAt 1 encI w v xs) (hbig : xs.length ≤ 1000000) :
    Calls Tryd.prog 97 #[v] w fun e w' => e = .returned (.int .i64 (orI xs)) ∧ w = w' := by
  obtain ⟨pp, c, rfl, hn, hcell⟩ := hS
  have HC := Lib.hid hcell
  clear hn hcell
  generalize hlen : xs.length = n at hbig
  have HL := Lib.hid hlen
  clear hlen
  have hbig2 : n ≤ 9223372036854775807 := by omega
  go_enter Tryd.func97, Tryd.ntmps97
  go_wp2
  go_loopw [5, 8] (fun _ i wr => ∃ j : Nat, j ≤ n ∧ i = .int .i64 j ∧ w = wr ∧ ∀ k, k < j → xs[k]! = 0) (fun _ i _ => n - (intOf i).toNat)
  case atStart => exact ⟨0, by omega, rfl, rfl, fun k hk => absurd hk (by omega)⟩
  case round =>
    obtain ⟨j, hj, rfl, rfl, hall⟩ := hrel
    have HA := Lib.hid hall
    clear hall
    by_cases hlt : j < n
    · have hltz : (j : Int) < (n : Int) := by omega
      obtain ⟨b, off, rfl, hb, hc⟩ := HC.out (by have := HL.out; omega)
      have c0 : w.cell? ⟨b, off + j, none⟩ = some (.int .i64 xs[j]!) := by have := hc j (by have := HL.out; omega) 0 _ rfl; simpa using this
      clear hc
      by_cases hq : xs[j]! = 0
      · have HQ := Lib.hid hq
        rw [hq] at c0
        clear hq
        go_wp2
        go_roundw
        case rel => exact ⟨j + 1, by omega, by go_num, trivial, fun k hk => by by_cases e : k = j; (subst e; exact HQ.out); exact HA.out k (by omega)⟩
        case measure => simp [intOf] <;> omega
      · have HRES := Lib.hid (orI_hit (by have := HL.out; omega) HA.out hq)
        have hq' : (xs[j]! != 0) = true := by simpa using hq
        clear hq
        generalize xs[j]! = x at c0 hq' HRES
        go_wp2
        go_ret
        exact ⟨by rw [HRES.out]; rfl, rfl⟩
    · have hltz : ¬ ((j : Int) < (n : Int)) := by omega
      have HRES := Lib.hid (orI_miss (l := xs) (fun k hk => HA.out k (by have := HL.out; omega)))
      go_wp2
      go_ret
      exact ⟨by rw [HRES.out]; rfl, rfl⟩
end Go.Proofs.YtbbcicengfmhiaaDoor

/- slices.Index, slices.Contains at []int. -/
import Derived.Test.YtefnkoofgpmmmaaGreatDoorRows
import Derived.Test.YtefnkoofgpmmmaaGreatDoorN1
import Derived.OwnWalk
import Derived.Lib.Walk
namespace Go.Proofs.YtefnkoofgpmmmaaGreatDoor
open Go.RowKit

set_option maxHeartbeats 1000000 in
theorem idxIn (x : Int) (v : Value) (xs : List Int) (w : World) (hS : SlAt 1 encI w v xs) (hbig : xs.length ≤ 9223372036854775807) :
    Calls Tryz.prog 205 #[v, .int .i64 x] w fun e w' => e = .returned (.int .i64 (idxI (fun y => x == y) xs)) ∧ w = w' := by
  obtain ⟨pp, c, rfl, hn, hcell⟩ := hS
  have HC := Lib.hid hcell
  clear hn hcell
  generalize hlen : xs.length = n at hbig
  have HL := Lib.hid hlen
  clear hlen
  go_enter Tryz.func205, Tryz.ntmps205
  go_wp2
  go_loopw [5, 8] (fun _ i wr => ∃ j : Nat, j ≤ n ∧ i = .int .i64 j ∧ w = wr ∧ ∀ k, k < j → (x == xs[k]!) = false) (fun _ i _ => n - (intOf i).toNat)
  case atStart => exact ⟨0, by omega, rfl, rfl, fun k hk => absurd hk (by omega)⟩
  case round =>
    obtain ⟨j, hj, rfl, rfl, hall⟩ := hrel
    have HA := Lib.hid hall
    clear hall
    by_cases hlt : j < n
    · have hltz : (j : Int) < (n : Int) := by omega
      obtain ⟨b, off, rfl, hb, hc⟩ := HC.out (by have := HL.out; omega)
      have hc0 : w.cell? ⟨b, off + j, none⟩ = some (.int .i64 xs[j]!) := by have := hc j (by have := HL.out; omega) 0 _ rfl; simpa using this
      clear hc
      cases hq : (x == xs[j]!)
      · have HQ := Lib.hid hq
        generalize xs[j]! = y at hc0 hq
        go_wp2
        go_roundw
        case rel =>
          have hq' : ∀ k, k < j + 1 → (x == xs[k]!) = false := fun k hk => by by_cases e : k = j; (subst e; exact HQ.out); exact HA.out k (by omega)
          first | exact ⟨j + 1, by omega, by go_num, rfl, hq'⟩ | exact ⟨j + 1, by omega, by go_num, trivial, hq'⟩
        case measure => simp [intOf] <;> omega
      · have HQ := Lib.hid hq
        have hres := idxI_hit (p := fun y => x == y) (by have := HL.out; omega) HQ.out HA.out
        generalize xs[j]! = y at hc0 hq
        go_wp2
        go_ret
        exact ⟨by rw [hres]; rfl, rfl⟩
    · obtain rfl : j = n := by omega
      have hres := idxI_miss (p := fun y => x == y) (xs := xs) (by have := HL.out; have := HA.out; subst j; exact HA.out)
      go_wp2
      go_ret
      exact ⟨by rw [hres]; rfl, rfl⟩

theorem hasI (x : Int) (v : Value) (xs : List Int) (w : World) (hS : SlAt 1 encI w v xs) (hbig : xs.length ≤ 9223372036854775807) :
    Calls Tryz.prog 153 #[v, .int .i64 x] w fun e w' => e = .returned (.bool (xs.any fun y => x == y)) ∧ w = w' := by
  have hc := idxIn x v xs w hS hbig
  rw [← idxI_any]
  generalize idxI (fun y => x == y) xs = r at hc ⊢
  go_enter Tryz.func153, Tryz.ntmps153
  go_wp2_with fail
  refine hc.mono ?_
  rintro e w' ⟨rfl, rfl⟩
  go_wp2
  go_ret
  exact ⟨rfl, rfl⟩

end Go.Proofs.YtefnkoofgpmmmaaGreatDoor

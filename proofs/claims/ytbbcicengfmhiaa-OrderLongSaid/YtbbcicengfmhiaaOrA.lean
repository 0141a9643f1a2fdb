/- order.is; slices.IndexFunc, ContainsFunc at []int with a predicate that is asked of the list's own elements; the closure of order.ready. -/
import Derived.Test.YtbbcicengfmhiaaRou
import Derived.Test.YtbbcicengfmhiaaOrd1
namespace Go.Proofs.Ytbbcicengfmhiaa
open Go.RowKit

/-- asked of a predicate over a list's ints -/
def PredK (g : Nat) (lb : Array Value) (p : Int → Bool) (xs : List Int) (w : World) : Prop :=
  ∀ (W : World) (j : Nat), j < xs.length → Below w.heap.size w W → Calls Try.prog g (#[.int .i64 xs[j]!] ++ lb) W fun e w' => e = .returned (.bool (p xs[j]!)) ∧ Below w.heap.size w w'
set_option maxHeartbeats 1000000 in
theorem idxFuncK (p : Int → Bool) (g : Nat) (lb : Array Value) (eg : ∀ args w, (callFunc g args).run Try.prog w = .ok (.enter g args) w) (v : Value) (xs : List Int) (w : World)
    (hS : SlAt 1 encI w v xs) (hbig : xs.length ≤ 9223372036854775807) (hp : PredK g lb p xs w) :
    Calls Try.prog 32 #[v, .func (.func g) #[] lb] w fun e w' => e = .returned (.int .i64 (idxI p xs)) ∧ Below w.heap.size w w' := by
  obtain ⟨pp, c, rfl, hn, hcell⟩ := hS
  have HC := Lib.hid hcell
  have HP := Lib.hid hp
  clear hn hcell hp
  generalize hlen : xs.length = n at hbig
  have HL := Lib.hid hlen
  clear hlen
  go_enter Try.func32, Try.ntmps32
  go_wp2
  go_loopw [5, 8] (fun _ i wr => ∃ j : Nat, j ≤ n ∧ i = .int .i64 j ∧ Below w.heap.size w wr ∧ ∀ k, k < j → p xs[k]! = false) (fun _ i _ => n - (intOf i).toNat)
  case atStart => exact ⟨0, by omega, rfl, Below.refl _ _, fun k hk => absurd hk (by omega)⟩
  case round =>
    obtain ⟨j, hj, rfl, hB, hall⟩ := hrel
    have HB := Lib.hid hB
    have HA := Lib.hid hall
    clear hB hall
    by_cases hlt : j < n
    · have hltz : (j : Int) < (n : Int) := by omega
      obtain ⟨b, off, rfl, hb, hc⟩ := HC.out (by have := HL.out; omega)
      have hc0 : wr.cell? ⟨b, off + j, none⟩ = some (.int .i64 xs[j]!) := (HB.out.cell (p := ⟨b, off + j, none⟩) hb).trans (by have := hc j (by have := HL.out; omega) 0 _ rfl; simpa using this)
      clear hc
      have hcall := HP.out wr j (by have := HL.out; omega) HB.out
      cases hq : p xs[j]!
      · rw [hq] at hcall
        have HQ := Lib.hid hq
        clear hq
        generalize xs[j]! = x at hc0 hcall
        go_wp2_with (go_at_fn g; refine hcall.mono ?_; rintro e w' ⟨rfl, hb'⟩)
        go_roundw
        case rel => exact ⟨j + 1, by omega, by go_num, hb', fun k hk => by by_cases e : k = j; (subst e; exact HQ.out); exact HA.out k (by omega)⟩
        case measure => simp [intOf] <;> omega
      · rw [hq] at hcall
        have HQ := Lib.hid hq
        clear hq
        have hres := idxI_hit (by have := HL.out; omega) HQ.out HA.out
        generalize xs[j]! = x at hc0 hcall
        go_wp2_with (go_at_fn g; refine hcall.mono ?_; rintro e w' ⟨rfl, hb'⟩)
        go_ret
        exact ⟨by rw [hres]; rfl, hb'⟩
    · obtain rfl : j = n := by omega
      have hres := idxI_miss (p := p) (xs := xs) (by have := HL.out; have := HA.out; subst j; exact HA.out)
      go_wp2
      go_ret
      exact ⟨by rw [hres]; rfl, HB.out⟩


set_option maxHeartbeats 1000000 in
theorem containsK (p : Int → Bool) (g : Nat) (lb : Array Value) (eg : ∀ args w, (callFunc g args).run Try.prog w = .ok (.enter g args) w) (v : Value) (xs : List Int) (w : World)
    (hS : SlAt 1 encI w v xs) (hbig : xs.length ≤ 9223372036854775807) (hp : PredK g lb p xs w) :
    Calls Try.prog 25 #[v, .func (.func g) #[] lb] w fun e w' => e = .returned (.bool (xs.any p)) ∧ Below w.heap.size w w' := by
  have hc := Lib.hid (idxFuncK p g lb eg v xs w hS hbig hp)
  rw [← idxI_any]
  generalize idxI p xs = r at hc ⊢
  clear hS hp
  go_enter Try.func25, Try.ntmps25
  go_wp2_with fail
  refine hc.out.mono ?_
  rintro e w' ⟨rfl, hb⟩
  go_wp2
  go_ret
  exact ⟨rfl, hb⟩
set_option maxHeartbeats 1000000 in
theorem ordIs (v : Value) (done : List Bool) (i : Nat) (w : World) (h : SlAt 1 encB w v done) (hbig : done.length ≤ 1000000) : Calls Try.prog 27 #[v, .int .i64 (i : Int)] w fun e w' => e = .returned (.bool (isD done i)) ∧ w = w' := by
  have HR := Lib.hid (show isD done (i : Int) = (decide ((i : Int) < (done.length : Int)) && done[i]!) from rfl)
  generalize isD done (i : Int) = R at HR ⊢
  by_cases hi : i < done.length
  · obtain ⟨b, o, c, rfl, hc⟩ := h.cellB rfl hi
    have HR2 := Lib.hid (show R = done[i]! by rw [HR.out, decide_eq_true (by omega)]; rfl)
    have hiz : (i : Int) < (done.length : Int) := by omega
    clear h HR
    generalize done[i]! = x at hc HR2
    generalize done.length = n at *
    go_enter Try.func27, Try.ntmps27
    go_wp2
    go_ret
    exact ⟨by rw [HR2.out]; rfl, rfl⟩
  · obtain ⟨p, c, rfl, _⟩ := h
    have HR2 := Lib.hid (show R = false by rw [HR.out, decide_eq_false (by omega)]; rfl)
    have hiz : (done.length : Int) ≤ (i : Int) := by omega
    clear HR
    generalize done.length = n at *
    go_enter Try.func27, Try.ntmps27
    go_wp2
    go_ret
    exact ⟨by rw [HR2.out]; rfl, rfl⟩
theorem eg26 : ∀ args w, (callFunc 26 args).run Try.prog w = .ok (.enter 26 args) w := enters_of Try.func26 (by kernel_rfl) rfl
set_option maxHeartbeats 1000000 in
theorem pred26 (B : Nat) (v : Value) (done : List Bool) (xs : List Int) (w : World) (hB : B < w.heap.size) (hc : w.cell? ⟨B, 0, none⟩ = some v) (h : SlAt 1 encB w v done) (hbig : done.length ≤ 1000000) (hx : ∀ j, j < xs.length → 0 ≤ xs[j]!) :
    PredK 26 #[.pointer (some ⟨B, 0, none⟩)] (fun a => !isD done a) xs w := fun W j hj hb => by
  have hc' := (hb.cell (p := ⟨B, 0, none⟩) hB).trans hc
  have h' := h.below hb
  have h0 := hx j hj
  generalize xs[j]! = x at h0 ⊢
  obtain ⟨q, rfl⟩ := Int.eq_ofNat_of_zero_le h0
  have h2 : Calls Try.prog 26 #[.int .i64 (q : Int), .pointer (some ⟨B, 0, none⟩)] W fun e w' => e = .returned (.bool (!isD done q)) ∧ Below w.heap.size w w' := by
    have K := Lib.hid (ordIs v done q W h' hbig)
    have HB := Lib.hid hb
    obtain ⟨p, c, rfl, _⟩ := h'
    clear h hb hc
    go_enter Try.func26, Try.ntmps26
    go_wp2_with fail
    refine K.out.mono ?_
    rintro e w1 ⟨rfl, rfl⟩
    go_wp2
    go_ret
    exact ⟨rfl, HB.out⟩
  exact h2
end Go.Proofs.Ytbbcicengfmhiaa

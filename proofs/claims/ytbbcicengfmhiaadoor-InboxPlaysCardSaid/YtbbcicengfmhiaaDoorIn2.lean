/- The library's search over releases; Inbox.Has. Conditions: said at each. -/
import Derived.Test.YtbbcicengfmhiaaDoorIn1
import Derived.Test.YtbbcicengfmhiaaDoorSl
import Derived.Shelf.Abstract
import Derived.Lib.SliceRun
import Derived.OwnWalk
import Derived.Lib.Walk
namespace Go.Proofs.YtbbcicengfmhiaaDoor
set_option maxRecDepth 100000
open Go.RowKit

set_option maxHeartbeats 1000000 in
theorem idxFuncR (p : Rel → Bool) (g : Nat) (lb : Array Value) (eg : ∀ args w, (callFunc g args).run Tryd.prog w = .ok (.enter g args) w) (v : Value) (xs : List Rel) (w : World)
    (hS : SlAt 5 encR w v xs) (hbig : xs.length ≤ 9223372036854775807) (hp : PredB Tryd.prog g lb encR p w) :
    Calls Tryd.prog 133 #[v, .func (.func g) #[] lb] w fun e w' => e = .returned (.int .i64 (idxI p xs)) ∧ Below w.heap.size w w' := by
  obtain ⟨pp, c, rfl, hn, hcell⟩ := hS
  have HN := Lib.hid hn
  have HC := Lib.hid hcell
  have HP := Lib.hid hp
  clear hn hcell hp
  generalize hlen : xs.length = n at hbig
  have HL := Lib.hid hlen
  clear hlen
  go_enter Tryd.func133, Tryd.ntmps133
  go_wp2
  go_loopw [5, 8] (fun _ i wr => ∃ j : Nat, j ≤ n ∧ i = .int .i64 j ∧ Below w.heap.size w wr ∧ ∀ k, k < j → p xs[k]! = false) (fun _ i _ => n - (intOf i).toNat)
  case atStart => exact ⟨0, by omega, rfl, Below.refl _ _, fun k hk => absurd hk (by omega)⟩
  case round =>
    obtain ⟨j, hj, rfl, hB, hall⟩ := hrel
    have HB := Lib.hid hB
    have HA := Lib.hid hall
    clear hB hall
    by_cases hlt : j < n
    · obtain ⟨b, off, rfl, hb, hc⟩ := HC.out (by have := HL.out; omega)
      have hc0 := (HB.out.cell (p := ⟨b, off + j * 5, none⟩) hb).trans (hc j (by have := HL.out; omega) 0 _ rfl)
      have hc1 := (HB.out.cell (p := ⟨b, off + j * 5 + 1, none⟩) hb).trans (hc j (by have := HL.out; omega) 1 _ rfl)
      have hc2 := (HB.out.cell (p := ⟨b, off + j * 5 + 1 + 1, none⟩) hb).trans (hc j (by have := HL.out; omega) 2 _ rfl)
      have hc3 := (HB.out.cell (p := ⟨b, off + j * 5 + 1 + 1 + 1, none⟩) hb).trans (hc j (by have := HL.out; omega) 3 _ rfl)
      have hc4 := (HB.out.cell (p := ⟨b, off + j * 5 + 1 + 1 + 1 + 1, none⟩) hb).trans (hc j (by have := HL.out; omega) 4 _ rfl)
      clear hc
      have hcall := HP.out wr xs[j]! HB.out
      cases hq : p xs[j]!
      · rw [hq] at hcall
        have HQ := Lib.hid hq
        clear hq
        simp only [encR] at hcall
        generalize xs[j]! = x at hc0 hc1 hc2 hc3 hc4 hcall
        go_wp2_with (go_at_fn g; refine hcall.mono ?_; rintro e w' ⟨rfl, hb'⟩)
        go_roundw
        case rel => exact ⟨j + 1, by omega, by go_num, hb', fun k hk => by by_cases e : k = j; (subst e; exact HQ.out); exact HA.out k (by omega)⟩
        case measure => simp [intOf] <;> omega
      · rw [hq] at hcall
        have HQ := Lib.hid hq
        clear hq
        have hres := idxI_hit (by have := HL.out; omega) HQ.out HA.out
        simp only [encR] at hcall
        generalize xs[j]! = x at hc0 hc1 hc2 hc3 hc4 hcall
        go_wp2_with (go_at_fn g; refine hcall.mono ?_; rintro e w' ⟨rfl, hb'⟩)
        go_ret
        exact ⟨by rw [hres]; rfl, hb'⟩
    · obtain rfl : j = n := by omega
      have hres := idxI_miss (p := p) (xs := xs) (by have := HL.out; have := HA.out; subst j; exact HA.out)
      go_wp2
      go_ret
      exact ⟨by rw [hres]; rfl, HB.out⟩
set_option maxHeartbeats 400000 in
theorem anyFuncR (p : Rel → Bool) (g : Nat) (lb : Array Value) (eg : ∀ args w, (callFunc g args).run Tryd.prog w = .ok (.enter g args) w) (v : Value) (xs : List Rel) (w : World)
    (hS : SlAt 5 encR w v xs) (hbig : xs.length ≤ 9223372036854775807) (hp : PredB Tryd.prog g lb encR p w) :
    Calls Tryd.prog 130 #[v, .func (.func g) #[] lb] w fun e w' => e = .returned (.bool (xs.any p)) ∧ Below w.heap.size w w' := by
  have hc := idxFuncR p g lb eg v xs w hS hbig hp
  rw [← idxI_any]
  generalize idxI p xs = r at hc ⊢
  go_enter Tryd.func130, Tryd.ntmps130
  go_wp2_with (go_at_call 133; refine hc.mono ?_; rintro e w' ⟨rfl, hb'⟩)
  go_ret
  exact ⟨rfl, hb'⟩
theorem keyPred (p q : Nat) (run task : Int) (w : World) (h1 : w.cell? ⟨p, 0, none⟩ = some (.int .i64 run)) (h2 : w.cell? ⟨q, 0, none⟩ = some (.int .i64 task)) (hp : p < w.heap.size) (hq : q < w.heap.size) :
    PredB Tryd.prog 131 #[.pointer (some ⟨p, 0, none⟩), .pointer (some ⟨q, 0, none⟩)] encR (keyR run task) w := by
  intro W x hb
  obtain ⟨a, b, c, d, s⟩ := x
  have hx := below1 W (.cells #[.int .i64 a, .int .i64 b, .int .i64 c, .int .i64 d, .string s] 75)
  have d1 := (hx.cell (p := ⟨p, 0, none⟩) (Nat.lt_of_lt_of_le hp hb.size)).trans ((hb.cell (p := ⟨p, 0, none⟩) hp).trans h1)
  have d2 := (hx.cell (p := ⟨q, 0, none⟩) (Nat.lt_of_lt_of_le hq hb.size)).trans ((hb.cell (p := ⟨q, 0, none⟩) hq).trans h2)
  have HX := Lib.hid (hb.trans (hx.mono hb.size))
  clear hx h1 h2
  show Calls Tryd.prog 131 #[.agg #[.int .i64 a, .int .i64 b, .int .i64 c, .int .i64 d, .string s], .pointer (some ⟨p, 0, none⟩), .pointer (some ⟨q, 0, none⟩)] W fun e w' => e = .returned (.bool (keyR run task (a, b, c, d, s))) ∧ Below w.heap.size w w'
  go_enter Tryd.func131, Tryd.ntmps131
  by_cases e1 : c = run
  · by_cases e2 : d = task
    · have HR := Lib.hid (show keyR run task (a, b, c, d, s) = true by simp [keyR, e1, e2])
      have e2' : (d == task) = true := by simpa using e2
      have e1' : (c == run) = true := by simpa using e1
      clear e1 e2
      go_wp2
      go_ret
      exact ⟨by rw [HR.out]; rfl, HX.out⟩
    · have HR := Lib.hid (show keyR run task (a, b, c, d, s) = false by simp [keyR, e2])
      have e2' : (d == task) = false := by simpa using e2
      have e1' : (c == run) = true := by simpa using e1
      clear e1 e2
      go_wp2
      go_ret
      exact ⟨by rw [HR.out]; rfl, HX.out⟩
  · have HR := Lib.hid (show keyR run task (a, b, c, d, s) = false by simp [keyR, e1])
    have e1' : (c == run) = false := by simpa using e1
    go_wp2
    go_ret
    exact ⟨by rw [HR.out]; rfl, HX.out⟩
end Go.Proofs.YtbbcicengfmhiaaDoor

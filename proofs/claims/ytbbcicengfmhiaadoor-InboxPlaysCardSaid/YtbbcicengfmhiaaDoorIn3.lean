/- Inbox.Has; the document's Has and Add. Conditions: sizes. -/
import Derived.Test.YtbbcicengfmhiaaDoorIn2
namespace Go.Proofs.YtbbcicengfmhiaaDoor
set_option maxRecDepth 100000
open Go.RowKit

theorem eg131 : ∀ args w, (callFunc 131 args).run Tryd.prog w = .ok (.enter 131 args) w := enters_of Tryd.func131 (by kernel_rfl) rfl
theorem IbAt.sl {b : Nat} {cv : Value} {l : List Rel} {w : World} (h : IbAt b cv l w) : SlAt 5 encR w cv l := SlAt.of_owns (enc := encR) (k := 5) encR_len h.2
theorem inbHas (b : Nat) (cv : Value) (l : List Rel) (run task : Int) (w : World) (h : IbAt b cv l w) (hl : l.length ≤ 1000000) :
    Calls Tryd.prog 86 #[.pointer (some ⟨b, 0, none⟩), .int .i64 run, .int .i64 task] w fun e w' => e = .returned (.bool (hasR l run task)) ∧ Below w.heap.size w w' := by
  have hb1 := below1 w (.cells #[.int .i64 run] 3)
  have hb2 := below1 (w.alloc (.cells #[.int .i64 run] 3)) (.cells #[.int .i64 task] 3)
  have hz : (w.alloc (.cells #[.int .i64 run] 3)).heap.size = w.heap.size + 1 := Array.size_push _
  have q1 := ((BlkIs.alloc w [.int .i64 run] 3).below hb2).cell 0
  have q2 := (BlkIs.alloc (w.alloc (.cells #[.int .i64 run] 3)) [.int .i64 task] 3).cell 0
  have z2 := (BlkIs.alloc (w.alloc (.cells #[.int .i64 run] 3)) [.int .i64 task] 3).lt
  rw [hz] at q2 z2
  have HA := (h.below hb1).below hb2
  have HB := Lib.hid (hb1.trans (hb2.mono hb1.size))
  have HS := Lib.hid HA.sl
  have HP := Lib.hid (keyPred w.heap.size (w.heap.size + 1) run task _ q1 q2 (by omega) z2)
  have c0 := HA.1.cell 0
  simp only [List.getElem?_cons_zero] at c0
  clear h HA q1 q2 hb1 hb2 hz z2
  go_enter Tryd.func86, Tryd.ntmps86
  go_wp2_with fail
  refine (anyFuncR (keyR run task) 131 _ eg131 _ l _ HS.out (by omega) HP.out).mono ?_
  rintro e w1 ⟨rfl, hb⟩
  have HB := Lib.hid (HB.out.trans (hb.mono HB.out.size))
  clear hb c0
  go_wp2
  go_ret
  exact ⟨rfl, HB.out⟩
set_option maxHeartbeats 1000000 in
theorem ref15Has (v : Value) (xs : List Rel) (run task : Int) (w : World) (hS : SlAt 5 encR w v xs) (hbig : xs.length ≤ 1000000) :
    Calls Tryd.prog 87 #[v, .int .i64 run, .int .i64 task] w fun e w' => e = .returned (.bool (hasR xs run task)) ∧ w = w' := by
  obtain ⟨pp, c, rfl, hn, hcell⟩ := hS
  have HC := Lib.hid hcell
  clear hn hcell
  generalize hlen : xs.length = n at hbig
  have HL := Lib.hid hlen
  clear hlen
  have hbig2 : n ≤ 9223372036854775807 := by omega
  go_enter Tryd.func87, Tryd.ntmps87
  go_wp2
  go_loopw [7] (fun i wr => ∃ j : Nat, j ≤ n ∧ i = .int .i64 j ∧ w = wr ∧ ∀ k, k < j → keyR run task xs[k]! = false) (fun i _ => n - (intOf i).toNat)
  case atStart => exact ⟨0, by omega, rfl, rfl, fun k hk => absurd hk (by omega)⟩
  case round =>
    obtain ⟨j, hj, rfl, rfl, hall⟩ := hrel
    have HA := Lib.hid hall
    clear hall
    by_cases hlt : j < n
    · have hltz : (j : Int) < (n : Int) := by omega
      obtain ⟨b, off, rfl, hb, hc⟩ := HC.out (by have := HL.out; omega)
      have c2 := hc j (by have := HL.out; omega) 2 _ rfl
      have c3 := hc j (by have := HL.out; omega) 3 _ rfl
      clear hc
      cases hq : keyR run task xs[j]! with
      | true =>
        have hres : hasR xs run task = true := by
          have := idxI_hit (p := keyR run task) (xs := xs) (k := j) (by have := HL.out; omega) hq HA.out
          unfold hasR
          rw [← idxI_any, this]
          simp
        have HRES := Lib.hid hres
        clear hres
        have e1 : (xs[j]!.2.2.1 == run) = true ∧ (xs[j]!.2.2.2.1 == task) = true := by simpa [keyR] using hq
        obtain ⟨e1, e2⟩ := e1
        clear hq
        generalize xs[j]! = x at c2 c3 e1 e2
        go_wp2
        go_ret
        exact ⟨by rw [HRES.out]; rfl, rfl⟩
      | false =>
        have HQ := Lib.hid hq
        cases e1 : (xs[j]!.2.2.1 == run) with
        | false =>
          clear hq
          generalize xs[j]! = x at c2 c3 e1
          go_wp2
          go_roundw
          case rel => exact ⟨j + 1, by omega, by go_num, trivial, fun k hk => by by_cases e : k = j; (subst e; exact HQ.out); exact HA.out k (by omega)⟩
          case measure => simp [intOf] <;> omega
        | true =>
          have e2 : (xs[j]!.2.2.2.1 == task) = false := by
            cases h : (xs[j]!.2.2.2.1 == task) with
            | false => rfl
            | true =>
              rw [show keyR run task xs[j]! = (xs[j]!.2.2.1 == run && xs[j]!.2.2.2.1 == task) from rfl, e1, h] at hq
              exact absurd hq (by decide)
          clear hq
          generalize xs[j]! = x at c2 c3 e1 e2
          go_wp2
          go_roundw
          case rel => exact ⟨j + 1, by omega, by go_num, trivial, fun k hk => by by_cases e : k = j; (subst e; exact HQ.out); exact HA.out k (by omega)⟩
          case measure => simp [intOf] <;> omega
    · have hltz : ¬ ((j : Int) < (n : Int)) := by omega
      have hres : hasR xs run task = false := by
        have hh : ∀ k, k < xs.length → keyR run task xs[k]! = false := by
          intro k hk
          exact HA.out k (by have := HL.out; omega)
        have := idxI_miss (p := keyR run task) (xs := xs) hh
        unfold hasR
        rw [← idxI_any, this]
        simp
      have HRES := Lib.hid hres
      clear hres
      go_wp2
      go_ret
      exact ⟨by rw [HRES.out]; rfl, rfl⟩
end Go.Proofs.YtbbcicengfmhiaaDoor

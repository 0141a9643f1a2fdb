/- RunTimes: settled at one time, and then at a later one, a run is as settled at the later one at once. Every input. -/
import Derived.Test.YtbbcicengfmhiaaGreatDoorM11
import Derived.Test.YtbbcicengfmhiaaGreatDoorRnX
import Derived.Test.YtbbcicengfmhiaaGreatDoorRefU
import Derived.Test.YtbbcicengfmhiaaGreatDoorOpP
namespace Go.Proofs.YtbbcicengfmhiaaGreatDoor
set_option maxRecDepth 100000
open Go.ChangeShapes Go.WideShapes Go.ChangeAt Go.RowKit Go.Deep Go.Joins

theorem nilSettle (now : Int) (w : World) : Calls Tryz.prog 21 #[.pointer none, .int .i64 now] w fun e w' => e = .returned (.tuple #[]) ∧ w = w' := by
  go_enter Tryz.func21, Tryz.ntmps21
  go_wp2
  refine bodyPost_ret (results_none rfl _ _ _) rfl ?_
  exact ⟨rfl, rfl⟩
theorem nilCopy (w : World) : Calls Tryz.prog 25 #[.pointer none] w fun e w' => e = .returned (.pointer none) ∧ w = w' := by
  go_enter Tryz.func25, Tryz.ntmps25
  go_wp2
  go_ret
  exact ⟨rfl, rfl⟩
abbrev tvU (tb tf tc : Nat) (us : List TaskV) : Value := .slice (some ⟨tb, tf, none⟩) us.length tc
theorem tvU_of {tb tf tc m : Nat} {nm : ByteArray} {us : List TaskV} {R : RunM} (h : TmI m nm us R) : tvOf tb tf tc R = tvU tb tf tc us := by unfold tvOf; rw [h.ts]
theorem TI.small {m : Int} {t : TryV} (h : TI m t) (hm : m ≤ 1000) : smallI t.missed ∧ smallI t.since ∧ smallI t.til := by
  obtain ⟨a, b, c, _⟩ := h
  unfold smallI
  omega
section
variable {m : Nat} {nm : ByteArray} {us : List TaskV} {R : RunM} {b g tb tf tc c : Nat} {J : List Value} {w w0 : World}
/-- conditions that all calls here want -/
structure Us (nm : ByteArray) (us : List TaskV) : Prop where
  pipe : pipeB nm us = true
  set : ∀ j, j < us.length → us[j]!.set < 65536
  aft : ∀ j, j < us.length → us[j]!.after.length ≤ maxLen
theorem Us.time (h : Us nm us) {j : Nat} (hj : j < us.length) : smallI us[j]!.time := by
  obtain ⟨_, _, h3, _⟩ := pipe_nums h.pipe hj
  unfold smallI
  omega
theorem TmI.few (hI : TmI m nm us R) (hU : Us nm us) : R.ps.length ≤ 1000 := by
  have := (pipeB_len hU.pipe).2
  have := hI.len
  omega
theorem setC (h : RAt b g (tvU tb tf tc us) c J R w) (hI : TmI m nm us R) (hm : (m : Int) ≤ 1000) (hU : Us nm us) (now : Int) :
    Calls Tryz.prog 21 #[.pointer (some ⟨b, 0, none⟩), .int .i64 now] w fun e w' => e = .returned (.tuple #[]) ∧ RAt b g (tvU tb tf tc us) c J (settleM R now) w' ∧ KeptB g w w' := by
  rw [← tvU_of hI] at h ⊢
  exact runSettle b g tb tf tc c J R now w h (hI.few hU) (fun j hj => (hI.pt j hj).1.small hm) (fun j hj => by rw [hI.ts] at hj ⊢; exact hU.time hj)
theorem textU (h : RAt b g (tvU tb tf tc us) c J R w) (hI : TmI m nm us R) (hm : (m : Int) ≤ 1000) (hU : Us nm us) (hM : Met w) :
    Calls Tryz.prog 15 #[.pointer (some ⟨b, 0, none⟩)] w fun e w' => e = .returned (.string ⟨(runW R).toArray⟩) ∧ Below w.heap.size w w' := by
  rw [← tvU_of hI] at h
  obtain ⟨h1, h2⟩ := hI.text (by omega) hU.pipe hU.set
  exact textC b g tb tf tc c J R w h hM h1 h2
theorem copyU (h : RAt b g (tvU tb tf tc us) c J R w) (hI : TmI m nm us R) (hU : Us nm us) (hsl : ∀ j, j < us.length → ∀ q, us[j]!.sl.ownBlock = some q → q < w.heap.size) :
    Calls Tryz.prog 25 #[.pointer (some ⟨b, 0, none⟩)] w fun e w' => ∃ b2 g2 c2 J2, e = .returned (.pointer (some ⟨b2, 0, none⟩)) ∧ RAt b2 g2 (tvU tb tf tc us) c2 J2 R w' ∧ Below w.heap.size w w' ∧ w.heap.size ≤ b2 ∧ w.heap.size ≤ g2 := by
  rw [← tvU_of hI] at h ⊢
  exact runCopy b g tb tf tc c J R w h (hI.few hU) (by have := (pipeB_len hU.pipe).1; have := hI.len; omega) (fun j hj q hq => by rw [hI.ts] at hj hq; exact hsl j hj q hq)
    (fun j hj q hq => by rw [(hI.pt j hj).2.2.2] at hq; cases hq)
theorem takeR (h : RAt b g (tvU tb tf tc us) c J R w) (hI : TmI m nm us R) (hU : Us nm us) (i now wk n : Int) (hn : 0 ≤ now ∧ now ≤ 10000) :
    Calls Tryz.prog 22 #[.pointer (some ⟨b, 0, none⟩), .int .i64 i, .int .i64 now, .int .i64 wk, .int .i64 n] w fun e w' => e = .returned (.int .i64 (takeM R i now wk n).2) ∧ RAt b g (tvU tb tf tc us) c J (takeM R i now wk n).1 w' ∧ KeptB g w w' := by
  rw [← tvU_of hI] at h ⊢
  exact runTake b g tb tf tc c J R i now wk n w h (hI.few hU) (by unfold smallI; omega) (fun j hj => by rw [hI.ts] at hj ⊢; exact hU.time hj)
theorem missR (h : RAt b g (tvU tb tf tc us) c J R w) (hI : TmI m nm us R) (hm : (m : Int) ≤ 1000) (hU : Us nm us) (i now : Int) (hn : 0 ≤ now ∧ now ≤ 10000) :
    Calls Tryz.prog 24 #[.pointer (some ⟨b, 0, none⟩), .int .i64 i, .int .i64 now] w fun e w' => e = .returned (.int .i64 (missM R i now).2) ∧ RAt b g (tvU tb tf tc us) c J (missM R i now).1 w' ∧ KeptB g w w' := by
  rw [← tvU_of hI] at h ⊢
  exact runMiss b g tb tf tc c J R i now w h (hI.few hU) (fun j hj => ((hI.pt j hj).1.small hm).1) (by unfold smallI; omega)
theorem completeR (h : RAt b g (tvU tb tf tc us) c J R w) (hI : TmI m nm us R) (hU : Us nm us) (i now : Int) (o : ByteArray) (ho : o.size ≤ maxLen) :
    Calls Tryz.prog 23 #[.pointer (some ⟨b, 0, none⟩), .int .i64 i, .int .i64 now, .string o] w fun e w' => e = .returned (.int .i64 (completeM R i now o).2) ∧ RAt b g (tvU tb tf tc us) c J (completeM R i now o).1 w' ∧ KeptB g w w' := by
  rw [← tvU_of hI] at h ⊢
  exact runComplete b g tb tf tc c J R i now o w h (hI.few hU) (by rw [hI.ts]; exact aftIn_of hU.pipe) (fun j hj => by rw [hI.ts] at hj ⊢; exact hU.aft j hj) ho
theorem statU (h : RAt b g (tvU tb tf tc us) c J R w) (hI : TmI m nm us R) (hU : Us nm us) : Calls Tryz.prog 26 #[.pointer (some ⟨b, 0, none⟩)] w fun e w' => e = .returned (.int .i64 (statusM R)) ∧ Below w.heap.size w w' :=
  runStatus b g _ c J R w h (hI.few hU)
/-- another run's row turned: this one stands -/
theorem otherU {g2 z : Nat} {w' : World} (h : RAt b g (tvU tb tf tc us) c J R w) (hI : TmI m nm us R) (hk : KeptB g2 w w') (n1 : b ≠ g2) (n2 : g ≠ g2) (hz : z ≤ g2) (htb : tb < z) (hsl : ∀ j, j < us.length → ∀ q, us[j]!.sl.ownBlock = some q → q < z) : RAt b g (tvU tb tf tc us) c J R w' :=
  RunAt.keptG h hk n1 n2 (by simp only [Value.ownBlock, ne_eq, Option.some.injEq]; omega) (fun j hj e => by rw [hI.ts] at hj e; have := hsl j hj _ e; omega) (fun j hj e => by rw [(hI.pt j hj).2.2.2] at e; cases e)
theorem TmI.settleN (h : TmI m nm us R) (hm : (m : Int) ≤ 1000) {now : Int} (hn : now ≤ 20000) : TmI ((m + 1 : Nat) : Int) nm us (settleM R now) := h.settle hm hn
theorem TmI.missN (h : TmI m nm us R) (hm : (m : Int) ≤ 1000) {i now : Int} (hn : 0 ≤ now ∧ now ≤ 10000) : TmI ((m + 1 : Nat) : Int) nm us (missM R i now).1 := h.miss hm hn.1 (by omega)
theorem TmI.moreN (h : TmI m nm us R) {k : Nat} (hk : m ≤ k) : TmI (k : Int) nm us R := h.more (by omega)
theorem tb_lt (h : RAt b g (tvU tb tf tc us) c J R w) (hI : TmI m nm us R) (hU : Us nm us) : tb < w.heap.size := by
  obtain ⟨p', c', hv, _, hc⟩ := h.tasks.1
  obtain ⟨q, off, hp, hlt, _⟩ := hc (by rw [hI.ts]; exact (pipeB_len hU.pipe).1)
  injection hv with e1 e2 e3
  rw [hp] at e1
  injection e1 with e1
  injection e1 with e1
  omega
end
theorem u200 (n : Int) : ∃ m : Nat, m < 200 ∧ wrap64 ((IntKind.u64.wrap n).tmod 200) = (m : Int) := by
  have h0 : 0 ≤ IntKind.u64.wrap n := by simp [IntKind.wrap, IntKind.signed, IntKind.bits]; omega
  refine ⟨((IntKind.u64.wrap n) % 200).toNat, by omega, ?_⟩
  rw [Int.tmod_eq_emod_of_nonneg h0]
  generalize IntKind.u64.wrap n = z at *
  have e : (((z % 200).toNat : Nat) : Int) = z % 200 := by omega
  rw [e]
  simp [wrap64]
  omega
/-- a call's box -/
theorem boxO (o : OpR) (w : World) : BlkIs (w.alloc (.cells #[.int .i64 o.kind, .int .i64 o.now, .int .i64 o.a, .int .i64 o.b, .int .i64 o.c, .string o.s] 53)) w.heap.size (encR o) 53 := BlkIs.alloc w (encR o) 53
end Go.Proofs.YtbbcicengfmhiaaGreatDoor

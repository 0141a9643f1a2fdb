/- order.Round. Conditions: sizes. -/
import Derived.Test.YtbbcicengfmhiaaGreatDoorDfs
namespace Go.Proofs.YtbbcicengfmhiaaGreatDoor
open Go.RowKit

theorem SlAt.cellB {w : World} {xs : List Bool} {v : Value} (h : SlAt 1 encB w v xs) {n k : Nat} (hn : xs.length = n) (hk : k < n) : ∃ b o c, v = .slice (some ⟨b, o, none⟩) n c ∧ w.cell? ⟨b, o + k, none⟩ = some (.bool xs[k]!) := by
  subst hn
  obtain ⟨p', c', rfl, _, hc⟩ := h
  obtain ⟨b, o, rfl, _, hcell⟩ := hc (by omega)
  exact ⟨b, o, c', rfl, by simpa using hcell k hk 0 _ rfl⟩
def roundP (nm : ByteArray) (ts : List TaskV) : Int := if pipeB nm ts = true then roundI (afters ts) else -1
theorem aftIn_of {nm : ByteArray} {ts : List TaskV} (h : pipeB nm ts = true) : AftIn ts := fun _ hj _ hk => pipeB_after h hj hk
set_option maxRecDepth 100000 in
set_option maxHeartbeats 4000000 in
theorem orderRound (nm : ByteArray) (v : Value) (ts : List TaskV) (w : World) (h : TasksAt w v ts) (hok : okTs ts) (hnm : nm.size ≤ maxLen) :
    Calls Tryz.prog 88 #[.agg #[.string nm, v]] w fun e w' => e = .returned (.int .i64 (roundP nm ts)) ∧ Below w.heap.size w w' := by
  have HP := Lib.hid (PipeAt.mk (nm := nm) h)
  have HB0 := Lib.hid (below1 w (.cells #[.string nm, v] 46))
  have K1 := Lib.hid (fun W (hW : TasksAt W v ts) => manRight nm v ts W hW hok hnm)
  have K2 := Lib.hid (fun (i : Nat) (W : World) (hW : PipeAt W w.heap.size nm v ts) h1 h2 hi => orderAll nm v ts w.heap.size i W hW h1 h2 (fun j hj => (hok.2 j hj).2.2.1) hi)
  have HQ := Lib.hid (fun (hq : pipeB nm ts = false) => show roundP nm ts = -1 by unfold roundP; rw [hq]; rfl)
  have HY := Lib.hid (fun (hq : pipeB nm ts = true) => show roundP nm ts = roundI (afters ts) by unfold roundP; rw [if_pos hq])
  have HRI := Lib.hid (aftIn_of (nm := nm) (ts := ts))
  have HRL := Lib.hid (pipeB_len (nm := nm) (ts := ts))
  generalize roundP nm ts = R at HQ HY ⊢
  generalize pipeB nm ts = q at HQ HY K1 HRI HRL
  obtain ⟨p, c, rfl, hp⟩ := h.val
  clear hp hok hnm h
  have hal := afters_len ts
  have HAL := Lib.hid hal
  clear hal
  generalize hn : ts.length = n at *
  have HN := Lib.hid hn
  clear hn
  go_enter Tryz.func88, Tryz.ntmps88
  go_wp2_with fail
  generalize w.alloc (.cells #[.string nm, .slice p n c] 46) = W0 at HP HB0 ⊢
  obtain ⟨hBz, c0, c1, hts⟩ := id HP.out
  have HTS := Lib.hid hts
  clear hts
  go_wp2_with fail
  refine (K1.out _ HTS.out).mono ?_
  rintro e w1 ⟨rfl, hb⟩
  have HP1 := Lib.hid (HP.out.below hb)
  have HB1 := Lib.hid (HB0.out.trans (hb.mono HB0.out.size))
  clear hb c0 c1 HTS HP HB0
  obtain ⟨_, c0, c1, _⟩ := HP1.out
  cases q with
  | false =>
    go_wp2
    go_ret
    exact ⟨by rw [HQ.out (by simp)]; rfl, HB1.out⟩
  | true =>
  have hl8 := (HRL.out (by simp)).2
  go_wp2_with fail
  go_loopw [10] (fun t wr => ∃ j : Nat, j ≤ n ∧ t = .int .i64 j ∧ Below w.heap.size w wr ∧ PipeAt wr w.heap.size nm (.slice p n c) ts ∧ ∀ k, k < j → roundB (afters ts) k = false) (fun t _ => n - (intOf t).toNat)
  case atStart => exact ⟨0, by omega, rfl, HB1.out, HP1.out, fun k hk => absurd hk (by omega)⟩
  case round =>
    obtain ⟨j, hj, rfl, hb, hp, hall⟩ := hrel
    have HB := Lib.hid hb
    have HP := Lib.hid hp
    have HA := Lib.hid hall
    clear hb hp hall
    by_cases hlt : j < n
    · have hltz : (j : Int) < (n : Int) := by omega
      go_wp2_with fail
      refine (K2.out j wr HP.out (HRI.out (by simp)) (by omega) hlt).mono ?_
      rintro e w2 ⟨v', rfl, hs, hb2⟩
      have HB2 := Lib.hid (HB.out.trans (hb2.mono HB.out.size))
      have HP2 := Lib.hid (HP.out.below hb2)
      have hll := allF_len (afters ts) (j : Int)
      obtain ⟨bb, oo, cc, rfl, hcell⟩ := hs.cellB (k := j) (hll.trans HAL.out) hlt
      have HE := Lib.hid (show (allF (afters ts) (j : Int))[j]! = roundB (afters ts) j from rfl)
      rw [HE.out] at hcell
      have HHIT := Lib.hid (fun h => roundI_hit (af := afters ts) (k := j) (by rw [HAL.out]; exact hlt) h HA.out)
      have HNX := Lib.hid (fun (h : roundB (afters ts) j = false) => show ∀ k, k < j + 1 → roundB (afters ts) k = false from fun k hk => by
        by_cases e : k = j
        · subst e; exact h
        · exact HA.out k (by omega))
      clear hs hb2 HE hll
      generalize roundB (afters ts) j = x at hcell HHIT HNX
      cases x with
      | true =>
        go_wp2
        go_ret
        exact ⟨by rw [HY.out (by simp), HHIT.out (by simp)]; rfl, HB2.out⟩
      | false =>
        go_wp2
        go_roundw
        case rel => first | exact ⟨j + 1, by omega, by go_num, HB2.out, HP2.out, HNX.out (by simp)⟩ | ((repeat apply Exists.intro); exact ⟨⟨j + 1, by omega, by go_num, HB2.out, HP2.out, HNX.out (by simp)⟩, rfl⟩)
        case measure => simp [intOf] <;> omega
    · obtain rfl : j = n := by omega
      have HM := Lib.hid (roundI_miss (af := afters ts) (fun k hk => HA.out k (by rw [HAL.out] at hk; exact hk)))
      go_wp2
      go_ret
      exact ⟨by rw [HY.out (by simp), HM.out]; rfl, HB.out⟩
end Go.Proofs.YtbbcicengfmhiaaGreatDoor

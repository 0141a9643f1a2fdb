/- ClockEnds' own walk. No condition. -/
import Derived.Test.YtbbcicengfmhiaaDoorClk4
namespace Go.Proofs.YtbbcicengfmhiaaDoor
set_option maxRecDepth 100000
open Go.RowKit

set_option maxHeartbeats 4000000 in
theorem clockEnds_walk (n : Int) (w : World) (hM : Met w) (hn0 : -9223372036854775808 ≤ n) (hn1 : n ≤ 9223372036854775807) : Calls Tryd.prog 7 #[.int .i64 n] w fun e w' => e = .returned (.bool true) ∧ Below w.heap.size w w' := by
  have h9 := hM.size
  have HM := Lib.hid hM
  clear hM
  obtain ⟨m, hm20, hm⟩ : ∃ m : Nat, m < 20 ∧ wrap64 ((IntKind.u64.wrap n).tmod 20) = (m : Int) := by
    have h0 : 0 ≤ IntKind.u64.wrap n := by simp [IntKind.wrap, IntKind.signed, IntKind.bits]; omega
    refine ⟨((IntKind.u64.wrap n) % 20).toNat, by omega, ?_⟩
    rw [Int.tmod_eq_emod_of_nonneg h0]
    generalize IntKind.u64.wrap n = z at *
    have e : (((z % 20).toNat : Nat) : Int) = z % 20 := by omega
    rw [e]
    simp [wrap64]
    omega
  go_enter Tryd.func7, Tryd.ntmps7
  go_wp2_with fail
  rw [hm]
  clear hm hn0 hn1
  refine (dskNew 2 w (by decide) (by decide)).mono ?_
  rintro e w1 ⟨b, rfl, hd, hb⟩
  have HD := Lib.hid (show DkAt b w.heap.size [zeros 64, zeros 64] (.slice none 0 0) [] false 0 0 0 w1 from hd)
  have HM := Lib.hid (HM.out.below hb)
  have HB := Lib.hid hb
  have hgb := hd.1.1
  clear hd hb
  generalize hge : w.heap.size = g at *
  have HGE := Lib.hid hge
  clear hge
  go_wp2_with fail
  refine (clkOpen b g 0 ⟨0, 0, 0⟩ _ 0 0 0 w1 HD.out InvC.first (by decide) (by decide) (by decide) HM.out h9 (by decide) (by decide) (by decide) (by decide)).mono ?_
  rintro e w2 hp
  obtain ⟨c, ⟨hc1, hc2⟩, rfl, hd, hck, hk⟩ := openOk hp
  have HT := Lib.hid (show Tik b g c 0 w2 from ⟨_, by simp, hd, InvC.set (K := [zeros 64, zeros 64]) (base := 0) InvC.first (by decide) (by decide) (by decide) (by decide), hck⟩)
  have HM := Lib.hid (HM.out.belowB (hk.1 g (Nat.le_refl _)) h9)
  have HB := Lib.hid (HB.out.trans (hk.1 g (Nat.le_refl _)))
  clear hp hd hck hk hc2 HD
  go_wp2_with fail
  refine (awake17 w2 HM.out).mono ?_
  rintro e w3 ⟨rfl, hb⟩
  have HT := Lib.hid (HT.out.below hb)
  have HM := Lib.hid (HM.out.below hb)
  have HB := Lib.hid (HB.out.trans (hb.mono (by have := HB.out.size; have := HGE.out; omega)))
  clear hb
  go_wp2_with fail
  go_loopw [29] (fun i wr => ∃ j : Nat, j ≤ 1000 ∧ i = .int .i64 j ∧ Tik b g c j wr ∧ Met wr ∧ Below g w wr) (fun i _ => 1000 - (intOf i).toNat)
  case atStart => exact ⟨0, by omega, rfl, HT.out, HM.out, HB.out⟩
  case round =>
    clear HT HM HB
    obtain ⟨j, hj, rfl, ht, hmm, hb⟩ := hrel
    have HT := Lib.hid ht
    have HM := Lib.hid hmm
    have HB := Lib.hid hb
    clear ht hmm hb
    by_cases hlt : j < 1000
    · have hltz : (j : Int) < 1000 := by omega
      go_wp2_with fail
      refine (tikNow HT.out).mono ?_
      rintro e w4 ⟨rfl, rfl⟩
      go_wp2_with fail
      refine (tikTick HT.out hlt HM.out h9 hc1).mono ?_
      rintro e w4 ⟨rfl, ht, hb, hmm⟩
      have HT := Lib.hid ht
      have HM := Lib.hid hmm
      have HB := Lib.hid (HB.out.trans hb)
      clear ht hb hmm
      go_wp2
      go_roundw
      case rel => first | exact ⟨j + 1, by omega, by go_num, HT.out, HM.out, HB.out⟩ | ((repeat apply Exists.intro); exact ⟨⟨j + 1, by omega, by go_num, HT.out, HM.out, HB.out⟩, rfl⟩) | trace_state
      case measure => simp [intOf] <;> omega
    · have hltz : ¬ ((j : Int) < 1000) := by omega
      go_wp2_with fail
      obtain rfl : j = 1000 := by omega
      clear hlt hj hltz
      go_loopw [43] (fun i w5 => ∃ j : Nat, j ≤ m ∧ i = .int .i64 j ∧ wr = w5) (fun i _ => m - (intOf i).toNat)
      case atStart => exact ⟨0, by omega, rfl, rfl⟩
      case round =>
        obtain ⟨j, hj, rfl, rfl⟩ := hrel
        by_cases hlt : j < m
        · have hltz : (j : Int) < m := by omega
          go_wp2_with fail
          refine (tikEnd HT.out).mono ?_
          rintro e w4 ⟨rfl, rfl⟩
          go_wp2_with fail
          refine (tikNow HT.out).mono ?_
          rintro e w4 ⟨rfl, rfl⟩
          go_wp2
          go_roundw
          case rel => first | exact ⟨j + 1, by omega, by go_num, rfl⟩ | ((repeat apply Exists.intro); exact ⟨⟨j + 1, by omega, by go_num, trivial⟩, rfl⟩) | trace_state
          case measure => simp [intOf] <;> omega
        · have hltz : ¬ ((j : Int) < (m : Int)) := by omega
          obtain ⟨K, k1, k2, k3, k4⟩ := HT.out
          go_wp2_with fail
          clear hlt hltz hj
          refine (clkOpen b g 0 _ K 0 0 _ wr k2 k3 (by decide) (by omega) (by omega) HM.out h9 (by decide) (by decide) (by decide) (by decide)).mono ?_
          rintro e w6 hp
          obtain ⟨c6, ⟨hc1, hc2⟩, rfl, hd, hck, hk⟩ := openOk hp
          have HC6 := Lib.hid hck
          have HB6 := Lib.hid (HB.out.trans (hk.1 g (Nat.le_refl _)))
          clear hp hd hck hk hc2 k2 k3 k4
          go_wp2_with fail
          refine (clkNow c6 b 0 _ w6 HC6.out).mono ?_
          rintro e w7 ⟨rfl, rfl⟩
          go_wp2
          go_ret
          exact ⟨rfl, by rw [HGE.out]; exact HB6.out⟩
end Go.Proofs.YtbbcicengfmhiaaDoor

/- ClockEnds' and ClockNil's own walks. No condition. -/
import Derived.Test.YtbbcicengfmhiaaDoorAwk17
namespace Go.Proofs.YtbbcicengfmhiaaDoor
set_option maxRecDepth 100000
open Go.RowKit

set_option maxHeartbeats 4000000 in
theorem clockNil_walk (base : Int) (w : World) (hM : Met w) (hb0 : -9223372036854775808 ≤ base) (hb1 : base ≤ 9223372036854775807) : Calls Tryd.prog 8 #[.int .i64 base] w fun e w' => e = .returned (.bool true) ∧ Below w.heap.size w w' := by
  have h9 := hM.size
  have HM := Lib.hid hM
  clear hM
  go_enter Tryd.func8, Tryd.ntmps8
  go_wp2_with fail
  refine (dskNew 4 w (by decide) (by decide)).mono ?_
  rintro e w1 ⟨b, rfl, hd, hb⟩
  have HD := Lib.hid (show DkAt b w.heap.size [zeros 64, zeros 64, zeros 64, zeros 64] (.slice none 0 0) [] false 0 0 0 w1 from hd)
  have HM := Lib.hid (HM.out.below hb)
  have HB := Lib.hid hb
  have hgb := hd.1.1
  clear hd hb
  generalize hge : w.heap.size = g at *
  have HGE := Lib.hid hge
  clear hge
  by_cases hin : 0 ≤ base ∧ base ≤ 2
  · obtain ⟨k, rfl⟩ : ∃ k : Nat, base = k := ⟨base.toNat, by omega⟩
    have hk2 : k ≤ 2 := by omega
    have hI : InvC ([zeros 64, zeros 64, zeros 64, zeros 64] : List (List UInt8))[k]! [zeros 64, zeros 64, zeros 64, zeros 64][k + 1]! ⟨0, 0, 0⟩ := by
      rcases (show k = 0 ∨ k = 1 ∨ k = 2 by omega) with h | h | h
      · rw [h]; exact InvC.first
      · rw [h]; exact InvC.first
      · rw [h]; exact InvC.first
    have hkz : (k : Int) ≤ 2 := by omega
    clear hin
    go_wp2_with fail
    refine (clkOpen b g k ⟨0, 0, 0⟩ _ 0 0 0 w1 HD.out hI (by decide) (by simp; omega) (by simp) HM.out h9 (by decide) (by decide) (by decide) (by decide)).mono ?_
    rintro e w2 hp
    obtain ⟨c, _, rfl, hd, _, hk⟩ := openOk hp
    have HM := Lib.hid (HM.out.belowB (hk.1 g (Nat.le_refl _)) h9)
    have HB := Lib.hid (HB.out.trans (hk.1 g (Nat.le_refl _)))
    have HD2 := Lib.hid hd
    clear hp hd hk hI
    go_wp2_with fail
    refine (dskCrash b g _ _ _ _ _ _ 0 w2 HD2.out (by simp) (by simp)).mono ?_
    rintro e w3 ⟨rfl, hd, hk⟩
    have HM := Lib.hid (HM.out.belowB (hk.1 g (Nat.le_refl _)) h9)
    have HB := Lib.hid (HB.out.trans (hk.1 g (Nat.le_refl _)))
    have HD3 := Lib.hid hd
    clear hd hk
    go_wp2_with fail
    refine (clkOpenDown b g _ _ _ _ _ _ 0 w3 HD3.out (by rw [crashN_len]; simp) (by rw [crashN_len]; simp)).mono ?_
    rintro e w4 ⟨rfl, rfl⟩
    go_wp2_with fail
    refine (awake17 w3 HM.out).mono ?_
    rintro e w4 ⟨rfl, hb⟩
    have HB := Lib.hid (HB.out.trans (hb.mono (by have := HB.out.size; have := HGE.out; omega)))
    clear hb
    go_wp2_with fail
    refine (clkNowNil _).mono ?_
    rintro e w5 ⟨rfl, rfl⟩
    go_wp2_with fail
    refine (clkBootNil _).mono ?_
    rintro e w5 ⟨rfl, rfl⟩
    go_wp2_with fail
    refine (clkTickNil _).mono ?_
    rintro e w5 ⟨rfl, rfl⟩
    go_wp2
    go_ret
    exact ⟨rfl, by rw [HGE.out]; exact HB.out⟩
  · have hout : base < 0 ∨ ((([zeros 64, zeros 64, zeros 64, zeros 64] : List (List UInt8)).length : Nat) : Int) - 2 < base := by
      simp only [List.length_cons, List.length_nil]
      omega
    have hok : (decide (0 ≤ base) && decide (base ≤ 2)) = false := by
      by_cases h : 0 ≤ base
      · have : ¬ base ≤ 2 := fun h2 => hin ⟨h, h2⟩
        simp [this]
      · simp [h]
    have HIN := Lib.hid hin
    clear hin
    go_wp2_with fail
    refine (clkOpenArg b g _ _ _ _ _ _ _ base w1 HD.out (by simp) hout).mono ?_
    rintro e w2 ⟨rfl, rfl⟩
    clear hout
    clear hok
    rcases (show decide (0 ≤ base) = false ∨ (decide (0 ≤ base) = true ∧ decide (base ≤ 2) = false) by
      have := HIN.out
      by_cases h : 0 ≤ base
      · exact .inr ⟨by simpa using h, by simp; omega⟩
      · exact .inl (by simpa using h)) with hlo | ⟨hlo, hhi⟩
    all_goals
      go_wp2_with fail
      refine (dskCrash b g _ _ _ _ _ _ 0 w1 HD.out (by simp) (by simp)).mono ?_
      rintro e w3 ⟨rfl, hd, hk⟩
      have HM := Lib.hid (HM.out.belowB (hk.1 g (Nat.le_refl _)) h9)
      have HB := Lib.hid (HB.out.trans (hk.1 g (Nat.le_refl _)))
      have HD3 := Lib.hid hd
      clear hd hk
      go_wp2_with fail
      refine (clkOpenDown b g _ _ _ _ _ _ 0 w3 HD3.out (by rw [crashN_len]; simp) (by rw [crashN_len]; simp)).mono ?_
      rintro e w4 ⟨rfl, rfl⟩
      go_wp2_with fail
      refine (awake17 w3 HM.out).mono ?_
      rintro e w4 ⟨rfl, hb⟩
      have HB := Lib.hid (HB.out.trans (hb.mono (by have := HB.out.size; have := HGE.out; omega)))
      clear hb
      go_wp2_with fail
      refine (clkNowNil _).mono ?_
      rintro e w5 ⟨rfl, rfl⟩
      go_wp2_with fail
      refine (clkBootNil _).mono ?_
      rintro e w5 ⟨rfl, rfl⟩
      go_wp2_with fail
      refine (clkTickNil _).mono ?_
      rintro e w5 ⟨rfl, rfl⟩
      go_wp2
      go_ret
      exact ⟨rfl, by rw [HGE.out]; exact HB.out⟩
end Go.Proofs.YtbbcicengfmhiaaDoor

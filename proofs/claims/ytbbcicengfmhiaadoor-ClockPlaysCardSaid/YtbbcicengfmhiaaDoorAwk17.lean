/- The statements' own awake of layer 17. No condition. -/
import Derived.Test.YtbbcicengfmhiaaDoorClk3
import Derived.Test.YtbbcicengfmhiaaDoorR04p
namespace Go.Proofs.YtbbcicengfmhiaaDoor
set_option maxRecDepth 100000
open Go.RowKit

theorem saveOk {c b g base : Nat} {k : Ck} {K : List (List UInt8)} {bits : Nat} {writes time boot : Int} {w w' : World} {e : Ending} (h : SavePost c b g base k K 0 bits writes time boot w e w') :
    e = .returned (.int .i64 0) ∧ DkAt b g (K.set (base + (k.n + 1) % 2) (secOf (k.n + 1) time boot)) (.slice none 0 0) [] false 0 bits (writes + 1) w' ∧ CkAt c b base ⟨k.n + 1, time, boot⟩ w' ∧ KeptC b g c w w' := by
  obtain ⟨h | h, hk⟩ := h
  · exact absurd h.1 (by decide)
  · exact ⟨h.2.1, h.2.2.1, h.2.2.2, hk⟩
theorem openOk {b g base : Nat} {k : Ck} {K : List (List UInt8)} {bits : Nat} {writes : Int} {w w' : World} {e : Ending} (h : OpenPost b g base k K 0 bits writes w e w') :
    ∃ c, (b < c ∧ w.heap.size ≤ c) ∧ e = .returned (.tuple #[.pointer (some ⟨c, 0, none⟩), .int .i64 0]) ∧ DkAt b g (K.set (base + (k.n + 1) % 2) (secOf (k.n + 1) k.time (k.boot + 1))) (.slice none 0 0) [] false 0 bits (writes + 1) w' ∧ CkAt c b base ⟨k.n + 1, k.time, k.boot + 1⟩ w' ∧ KeptO b g w w' := by
  obtain ⟨h | h, hk⟩ := h
  · exact absurd h.1 (by decide)
  · obtain ⟨_, c, h1, h2, h3, h4⟩ := h
    exact ⟨c, h1, h2, h3, h4, hk⟩
theorem CkAt.keptO {c d base b g : Nat} {k : Ck} {w w' : World} (h : CkAt c d base k w) (hk : KeptO b g w w') (h1 : c ≠ b) (h2 : c ≠ g) : CkAt c d base k w' := BlkIs.of h (hk.2.1 c (BlkIs.lt h) h1 h2)
set_option maxHeartbeats 4000000 in
theorem awake17 (w : World) (hM : Met w) : Calls Tryd.prog 50 #[] w fun e w' => e = .returned (.bool true) ∧ Below w.heap.size w w' := by
  have h9 := hM.size
  have HM := Lib.hid hM
  clear hM
  go_enter Tryd.func50, Tryd.ntmps50
  go_wp2_with fail
  refine (dskNew 3 w (by decide) (by decide)).mono ?_
  rintro e w1 ⟨b, rfl, hd, hb⟩
  have HD := Lib.hid (show DkAt b w.heap.size [zeros 64, zeros 64, zeros 64] (.slice none 0 0) [] false 0 0 0 w1 from hd)
  have HM := Lib.hid (HM.out.below hb)
  have HB := Lib.hid hb
  have hgb := hd.1.1
  clear hd hb
  generalize hge : w.heap.size = g at *
  have HGE := Lib.hid hge
  clear hge
  go_wp2_with fail
  refine (clkOpen b g 1 ⟨0, 0, 0⟩ _ 0 0 0 w1 HD.out InvC.first (by decide) (by decide) (by decide) HM.out h9 (by decide) (by decide) (by decide) (by decide)).mono ?_
  rintro e w2 hp
  obtain ⟨c, ⟨hc1, hc2⟩, rfl, hd, hck, hk⟩ := openOk hp
  have HD := Lib.hid (show DkAt b g [zeros 64, zeros 64, secOf 1 0 1] (.slice none 0 0) [] false 0 0 1 w2 from hd)
  have HC := Lib.hid (show CkAt c b 1 ⟨1, 0, 1⟩ w2 from hck)
  have HM := Lib.hid (HM.out.belowB (hk.1 g (Nat.le_refl _)) h9)
  have HB := Lib.hid (HB.out.trans (hk.1 g (Nat.le_refl _)))
  clear hp hd hck hk hc2
  go_wp2_with fail
  refine (clkOpenArg b g _ _ _ _ _ _ _ 2 w2 HD.out (by decide) (.inr (by decide))).mono ?_
  rintro e w3 ⟨rfl, rfl⟩
  go_wp2_with fail
  refine (clkOpenNil 0 w2).mono ?_
  rintro e w3 ⟨rfl, rfl⟩
  go_wp2_with fail
  refine (clkTick c b g 1 ⟨1, 0, 1⟩ _ 0 0 1 w2 HC.out HD.out (by decide) (by decide) (by decide) HM.out h9 hc1 (by decide) (by decide) (by decide) (by decide) (by decide) (by decide)).mono ?_
  rintro e w3 hp
  obtain ⟨rfl, hd, hck, hk⟩ := saveOk hp
  have HD := Lib.hid (show DkAt b g [zeros 64, secOf 2 1 1, secOf 1 0 1] (.slice none 0 0) [] false 0 0 2 w3 from hd)
  have HC := Lib.hid (show CkAt c b 1 ⟨2, 1, 1⟩ w3 from hck)
  have HM := Lib.hid (HM.out.belowB (hk.1 g (Nat.le_refl _)) h9)
  have HB := Lib.hid (HB.out.trans (hk.1 g (Nat.le_refl _)))
  clear hp hd hck hk
  go_wp2_with fail
  refine (clkTick c b g 1 ⟨2, 1, 1⟩ _ 0 0 2 w3 HC.out HD.out (by decide) (by decide) (by decide) HM.out h9 hc1 (by decide) (by decide) (by decide) (by decide) (by decide) (by decide)).mono ?_
  rintro e w4 hp
  obtain ⟨rfl, hd, hck, hk⟩ := saveOk hp
  have HD := Lib.hid (show DkAt b g [zeros 64, secOf 2 1 1, secOf 3 2 1] (.slice none 0 0) [] false 0 0 3 w4 from hd)
  have HC := Lib.hid (show CkAt c b 1 ⟨3, 2, 1⟩ w4 from hck)
  have HM := Lib.hid (HM.out.belowB (hk.1 g (Nat.le_refl _)) h9)
  have HB := Lib.hid (HB.out.trans (hk.1 g (Nat.le_refl _)))
  clear hp hd hck hk
  have HI := Lib.hid (show InvC (secOf 2 1 1) (secOf 3 2 1) ⟨3, 2, 1⟩ from by
    have i1 := InvC.first.saved (t := 0) (b := 1) (by decide) (by decide) (clkL_len (by decide) (by decide)) (by decide)
    have i2 := InvC.saved i1 (t := 1) (b := 1) (by decide) (by decide) (clkL_len (by decide) (by decide)) (by decide)
    have i3 := InvC.saved i2 (t := 2) (b := 1) (by decide) (by decide) (clkL_len (by decide) (by decide)) (by decide)
    exact i3)
  go_wp2_with fail
  refine (clkOpen b g 1 ⟨3, 2, 1⟩ _ 0 0 3 w4 HD.out HI.out (by decide) (by decide) (by decide) HM.out h9 (by decide) (by decide) (by decide) (by decide)).mono ?_
  rintro e w5 hp
  obtain ⟨c2, ⟨hc3, hc4⟩, rfl, hd, hck, hk⟩ := openOk hp
  have HD := Lib.hid (show DkAt b g [zeros 64, secOf 4 2 2, secOf 3 2 1] (.slice none 0 0) [] false 0 0 4 w5 from hd)
  have HC2 := Lib.hid (show CkAt c2 b 1 ⟨4, 2, 2⟩ w5 from hck)
  have HC := Lib.hid (HC.out.keptO hk (by omega) (by omega))
  have HB := Lib.hid (HB.out.trans (hk.1 g (Nat.le_refl _)))
  clear hp hd hck hk hc4 HI
  go_wp2_with fail
  refine (clkNow c2 b 1 _ w5 HC2.out).mono ?_
  rintro e w6 ⟨rfl, rfl⟩
  go_wp2_with fail
  refine (clkBoot c2 b 1 _ w5 HC2.out (by decide)).mono ?_
  rintro e w6 ⟨rfl, rfl⟩
  go_wp2_with fail
  refine (clkBoot c b 1 _ w5 HC.out (by decide)).mono ?_
  rintro e w6 ⟨rfl, rfl⟩
  go_wp2_with fail
  refine (dskKept b g _ _ _ _ _ _ _ 1 w5 HD.out (by decide) (by decide)).mono ?_
  rintro e w6 ⟨rfl, rfl⟩
  have hsec : (⟨([zeros 64, secOf 4 2 2, secOf 3 2 1][1]!).toArray⟩ : ByteArray) = ⟨(secOf 4 2 2).toArray⟩ := rfl
  rw [hsec]
  generalize hse : (⟨(secOf 4 2 2).toArray⟩ : ByteArray) = se
  have HP4 := Lib.hid (fun W => refPrint4 W)
  rw [hse] at HP4
  clear hse hsec
  go_wp2_with fail
  refine (HP4.out _).mono ?_
  rintro e w6 ⟨rfl, hb⟩
  have HB := Lib.hid (HB.out.trans (hb.mono (by have := HB.out.size; have := HGE.out; omega)))
  clear hb
  go_wp2
  go_ret
  exact ⟨rfl, by rw [HGE.out]; exact HB.out⟩
end Go.Proofs.YtbbcicengfmhiaaDoor

/- clock.Open, Now, Boot, Tick. Conditions: sizes. -/
import Derived.Test.YtbbcicengfmhiaaDoorClk2
namespace Go.Proofs.YtbbcicengfmhiaaDoor
set_option maxRecDepth 100000
open Go.RowKit

theorem clkNow (c d base : Nat) (k : Ck) (w : World) (h : CkAt c d base k w) : Calls Tryd.prog 51 #[.pointer (some ⟨c, 0, none⟩)] w fun e w' => e = .returned (.int .i64 k.time) ∧ w = w' := by
  have c0 := h.cell 2
  simp only [List.getElem?_cons_zero, List.getElem?_cons_succ] at c0
  clear h
  go_enter Tryd.func51, Tryd.ntmps51
  go_wp2
  go_ret
  exact ⟨rfl, rfl⟩
theorem clkNowNil (w : World) : Calls Tryd.prog 51 #[.pointer none] w fun e w' => e = .returned (.int .i64 0) ∧ w = w' := by
  go_enter Tryd.func51, Tryd.ntmps51
  go_wp2
  go_ret
  exact ⟨rfl, rfl⟩
theorem clkBoot (c d base : Nat) (k : Ck) (w : World) (h : CkAt c d base k w) (hb : 0 ≤ k.boot ∧ k.boot ≤ 2147483648) : Calls Tryd.prog 54 #[.pointer (some ⟨c, 0, none⟩)] w fun e w' => e = .returned (.int .u32 k.boot) ∧ w = w' := by
  have c0 := h.cell 3
  simp only [List.getElem?_cons_zero, List.getElem?_cons_succ] at c0
  clear h
  have h0 := hb.1
  have h1 := hb.2
  generalize k.boot = m at *
  have hw : IntKind.u32.wrap m = m := by simp [IntKind.wrap, IntKind.signed, IntKind.bits]; omega
  go_enter Tryd.func54, Tryd.ntmps54
  go_wp2
  go_ret
  exact ⟨rfl, rfl⟩
theorem clkBootNil (w : World) : Calls Tryd.prog 54 #[.pointer none] w fun e w' => e = .returned (.int .u32 0) ∧ w = w' := by
  go_enter Tryd.func54, Tryd.ntmps54
  go_wp2
  go_ret
  exact ⟨rfl, rfl⟩
theorem clkTickNil (w : World) : Calls Tryd.prog 52 #[.pointer none] w fun e w' => e = .returned (.int .i64 8) ∧ w = w' := by
  go_enter Tryd.func52, Tryd.ntmps52
  go_wp2
  go_ret
  exact ⟨rfl, rfl⟩
theorem clkTickEnd (c d base : Nat) (k : Ck) (w : World) (h : CkAt c d base k w) (ht : 1000 ≤ k.time) : Calls Tryd.prog 52 #[.pointer (some ⟨c, 0, none⟩)] w fun e w' => e = .returned (.int .i64 13) ∧ w = w' := by
  have c0 := h.cell 2
  simp only [List.getElem?_cons_zero, List.getElem?_cons_succ] at c0
  clear h
  generalize k.time = t at *
  go_enter Tryd.func52, Tryd.ntmps52
  go_wp2
  go_ret
  exact ⟨rfl, rfl⟩
set_option maxHeartbeats 4000000 in
theorem clkTick (c b g base : Nat) (k : Ck) (K : List (List UInt8)) (armed : Int) (bits : Nat) (writes : Int) (w : World) (hC : CkAt c b base k w) (hD : DkAt b g K (.slice none 0 0) [] false armed bits writes w)
    (hp : base + 1 < K.length) (hK : K.length ≤ 4096) (hn : k.n ≤ 4611686018427387904) (hM : Met w) (h9 : 9 ≤ g) (hbc : b < c) (ha : 0 ≤ armed) (ha2 : armed ≤ 9223372036854775807) (hw0 : 0 ≤ writes) (hw1 : writes ≤ 1000000000)
    (ht : 0 ≤ k.time ∧ k.time < 1000) (hb : 0 ≤ k.boot ∧ k.boot ≤ 2147483648) :
    Calls Tryd.prog 52 #[.pointer (some ⟨c, 0, none⟩)] w (SavePost c b g base k K armed bits writes (k.time + 1) k.boot w) := by
  have c2 := hC.cell 2
  have c3 := hC.cell 3
  simp only [List.getElem?_cons_zero, List.getElem?_cons_succ] at c2 c3
  have KS := Lib.hid (clkSave c b g base k K armed bits writes (k.time + 1) k.boot w.drew hC (hD.below (Below.refl _ _).drew) hp hK hn (hM.below (Below.refl _ _).drew) h9 hbc ha ha2 hw0 hw1 ⟨by omega, by omega⟩ hb)
  have HSP := Lib.hid (fun e w' (h : SavePost c b g base k K armed bits writes (k.time + 1) k.boot w.drew e w') => show SavePost c b g base k K armed bits writes (k.time + 1) k.boot w e w' from ⟨h.1, fun B hB => ((Below.refl B w).drew).trans (h.2.1 B hB), h.2.2.1, h.2.2.2⟩)
  have HSE := Lib.hid (fun e w' (h : SavePost c b g base k K armed bits writes (k.time + 1) k.boot w.drew e w') => show ∃ v, e = .returned (.int .i64 v) by
    rcases h.1 with ⟨_, h, _⟩ | ⟨_, h, _⟩
    · exact ⟨_, h⟩
    · exact ⟨_, h⟩)
  have h0 := ht.1
  have h1 := ht.2
  have hws : IntKind.i64.wrap (k.time + 1) = k.time + 1 := by simp [IntKind.wrap, IntKind.signed, IntKind.bits]; omega
  generalize SavePost c b g base k K armed bits writes (k.time + 1) k.boot w = PW at HSP ⊢
  generalize SavePost c b g base k K armed bits writes (k.time + 1) k.boot w.drew = PD at HSP KS HSE
  clear hC hD hM
  generalize k.time = t at *
  generalize k.boot = m at *
  go_enter Tryd.func52, Tryd.ntmps52
  go_wp2_with fail
  go_still_tail 10, (by kernel_rfl)
  change wpList _ _ _ _ _ w.drew
  clear hws
  go_wp2_with fail
  refine KS.out.mono ?_
  rintro e w1 h
  obtain ⟨v, rfl⟩ := HSE.out e w1 h
  have H := Lib.hid (HSP.out _ _ h)
  clear h
  go_wp2_with fail
  exact H.out
def ldN (s0 s1 : List UInt8) : Nat → Ck
  | 0 => ⟨0, 0, 0⟩
  | 1 => ldC ⟨0, 0, 0⟩ s0 0
  | _ => ldC (ldC ⟨0, 0, 0⟩ s0 0) s1 1
theorem ldC_n {k : Ck} {s : List UInt8} {place : Nat} (hk : k.n ≤ 4611686018427387904) : (ldC k s place).n ≤ 4611686018427387904 := by
  unfold ldC
  split
  · exact hk
  · split
    · rename_i p _ hm
      unfold mayP at hm
      simp only [Bool.and_eq_true, decide_eq_true_eq] at hm
      unfold takeC
      split
      · exact hm.2.2.1
      · exact hk
    · exact hk
theorem ldN_n (s0 s1 : List UInt8) : ∀ j, (ldN s0 s1 j).n ≤ 4611686018427387904
  | 0 => Nat.zero_le _
  | 1 => ldC_n (Nat.zero_le _)
  | _ + 2 => ldC_n (ldC_n (Nat.zero_le _))
theorem DkAt.keptB' {b g c : Nat} {K : List (List UInt8)} {off : Bool} {armed : Int} {bits : Nat} {writes : Int} {w w' : World} (h : DkAt b g K (.slice none 0 0) [] off armed bits writes w) (hk : KeptB c w w') (hb : b < c) : DkAt b g K (.slice none 0 0) [] off armed bits writes w' :=
  ⟨h.1, h.2.1.keptB hk (by omega), h.2.2.1.keptB hk (by have := h.1.1; omega), ⟨rfl, .inl ⟨rfl, rfl⟩⟩⟩
/-- what opening made: a clock, or none; what else lay there lies there -/
def KeptO (b g : Nat) (w w' : World) : Prop := (∀ B, B ≤ g → Below B w w') ∧ (∀ q, q < w.heap.size → q ≠ b → q ≠ g → w'.heap[q]? = w.heap[q]?) ∧ w.heap.size ≤ w'.heap.size
def OpenPost (b g base : Nat) (k : Ck) (K : List (List UInt8)) (armed : Int) (bits : Nat) (writes : Int) (w : World) (e : Ending) (w' : World) : Prop :=
  ((armed = 1 ∧ e = .returned (.tuple #[.pointer none, .int .i64 5]) ∧ DkAt b g (crash1 bits K (base + (k.n + 1) % 2, secOf (k.n + 1) k.time (k.boot + 1)) 0) (.slice none 0 0) [] true 0 bits (writes + 1) w') ∨
   (armed ≠ 1 ∧ ∃ c, (b < c ∧ w.heap.size ≤ c) ∧ e = .returned (.tuple #[.pointer (some ⟨c, 0, none⟩), .int .i64 0]) ∧ DkAt b g (K.set (base + (k.n + 1) % 2) (secOf (k.n + 1) k.time (k.boot + 1))) (.slice none 0 0) [] false (if armed = 0 then 0 else armed - 1) bits (writes + 1) w' ∧ CkAt c b base ⟨k.n + 1, k.time, k.boot + 1⟩ w')) ∧ KeptO b g w w'
set_option maxHeartbeats 4000000 in
theorem clkOpen (b g base : Nat) (k : Ck) (K : List (List UInt8)) (armed : Int) (bits : Nat) (writes : Int) (w : World) (hD : DkAt b g K (.slice none 0 0) [] false armed bits writes w) (hI : InvC K[base]! K[base + 1]! k) (hkb : k.boot < 2147483648)
    (hp : base + 1 < K.length) (hK : K.length ≤ 4096) (hM : Met w) (h9 : 9 ≤ g) (ha : 0 ≤ armed) (ha2 : armed ≤ 9223372036854775807) (hw0 : 0 ≤ writes) (hw1 : writes ≤ 1000000000) :
    Calls Tryd.prog 49 #[.pointer (some ⟨b, 0, none⟩), .int .i64 (base : Nat)] w (OpenPost b g base k K armed bits writes w) := by
  have KL := Lib.hid (dskLen b g K _ [] false armed bits writes w hD)
  have KD := Lib.hid (dskDown b g K _ [] false armed bits writes w hD)
  have hb2 : ¬ ((K.length : Int) - 2 < (base : Int)) := by omega
  have hgb := hD.1.1
  have hbz := hD.2.1.lt
  have HOP := Lib.hid (show ldN K[base]! K[base + 1]! 2 = k from hI.open')
  have HI := Lib.hid hI
  have hb1 := below1 w (.cells #[.pointer (some ⟨b, 0, none⟩), .int .i64 (base : Int), .int .i64 0, .int .i64 0, .int .u64 0] 156)
  have HC := Lib.hid (show CkAt w.heap.size b base (ldN K[base]! K[base + 1]! 0) (w.alloc (.cells #[.pointer (some ⟨b, 0, none⟩), .int .i64 (base : Int), .int .i64 0, .int .i64 0, .int .u64 0] 156)) from BlkIs.alloc w [.pointer (some ⟨b, 0, none⟩), .int .i64 (base : Int), .int .i64 0, .int .i64 0, .int .u64 0] 156)
  have HD := Lib.hid (hD.below hb1)
  have HM := Lib.hid (hM.below hb1)
  have HB := Lib.hid hb1
  clear hD hM hb1 hI
  have HK := Lib.hid hK
  have HPP := Lib.hid hp
  generalize hnK : K.length = nK at hb2 KL hK
  have HNK := Lib.hid hnK
  clear hnK hp
  go_enter Tryd.func49, Tryd.ntmps49
  go_wp2_with fail
  refine KL.out.mono ?_
  rintro e w1 ⟨rfl, rfl⟩
  go_wp2_with fail
  refine KD.out.mono ?_
  rintro e w1 ⟨rfl, rfl⟩
  clear KL KD hb2
  go_wp2
  generalize hW1 : w.alloc (.cells #[.pointer (some ⟨b, 0, none⟩), .int .i64 (base : Int), .int .i64 0, .int .i64 0, .int .u64 0] 156) = W1 at HC HD HM HB ⊢
  clear hW1
  generalize hce : w.heap.size = c at HC HB hbz ⊢
  have HCE := Lib.hid hce
  clear hce
  go_loopw [29] (fun i wr => ∃ j : Nat, j ≤ 2 ∧ i = .int .i64 j ∧ CkAt c b base (ldN K[base]! K[base + 1]! j) wr ∧ DkAt b g K (.slice none 0 0) [] false armed bits writes wr ∧ Met wr ∧ KeptB c W1 wr) (fun i _ => 2 - (intOf i).toNat)
  case atStart => exact ⟨0, by omega, rfl, HC.out, HD.out, HM.out, KeptB.refl _ _⟩
  case round =>
    clear HC HD HM
    obtain ⟨j, hj, rfl, hc, hd, hm, hk⟩ := hrel
    have HC := Lib.hid hc
    have HD := Lib.hid hd
    have HM := Lib.hid hm
    have HKB := Lib.hid hk
    clear hc hd hm hk
    by_cases hlt : j < 2
    · have hltz : (j : Int) < 2 := by omega
      have KLd := Lib.hid (clkLoad c b g base j (ldN K[base]! K[base + 1]! j) K armed bits writes wr HC.out HD.out (by have := HPP.out; omega) HK.out hlt (by have := ldN_n K[base]! K[base + 1]! j; omega) HM.out (by omega))
      go_wp2_with fail
      refine KLd.out.mono ?_
      rintro e w2 ⟨rfl, hc2, hk2⟩
      have HC2 := Lib.hid (show CkAt c b base (ldN K[base]! K[base + 1]! (j + 1)) w2 by
        have : ldN K[base]! K[base + 1]! (j + 1) = ldC (ldN K[base]! K[base + 1]! j) K[base + j]! j := by
          match j, hlt with
          | 0, _ => rfl
          | 1, _ => rfl
        rw [this]
        exact hc2)
      have HD2 := Lib.hid (HD.out.keptB' hk2 (by omega))
      have HM2 := Lib.hid (hk2.met HM.out (by omega))
      have HK2 := Lib.hid (HKB.out.trans hk2)
      clear hc2 hk2 KLd
      go_wp2
      go_roundw
      case rel => first | exact ⟨j + 1, by omega, by go_num, HC2.out, HD2.out, HM2.out, HK2.out⟩ | ((repeat apply Exists.intro); exact ⟨⟨j + 1, by omega, by go_num, HC2.out, HD2.out, HM2.out, HK2.out⟩, rfl⟩) | trace_state
      case measure => simp [intOf] <;> omega
    · obtain rfl : j = 2 := by omega
      rw [HOP.out] at HC
      have hI := HI.out
      obtain ⟨n, kt, kb⟩ := k
      have i1 := hI.2.2.1
      have i2 := hI.2.2.2.1
      have i3 := hI.2.2.2.2.1
      dsimp only at i1 i2 i3 hkb
      clear hI
      have c2 := HC.out.cell 2
      have c3 := HC.out.cell 3
      simp only [List.getElem?_cons_zero, List.getElem?_cons_succ] at c2 c3
      have KS := Lib.hid (clkSave c b g base ⟨n, kt, kb⟩ K armed bits writes kt (kb + 1) wr.drew HC.out (HD.out.below (Below.refl _ _).drew) HPP.out HK.out i3 (HM.out.below (Below.refl _ _).drew) h9 (by omega) ha ha2 hw0 hw1 i1 ⟨by omega, by omega⟩)
      have i20 := i2.1
      have hws : IntKind.i64.wrap (kb + 1) = kb + 1 := by simp [IntKind.wrap, IntKind.signed, IntKind.bits]; omega
      clear i1 i2 i3
      go_wp2_with fail
      go_still_tail 10, (by kernel_rfl)
      change wpList _ _ _ _ _ wr.drew
      clear hws c2 c3
      go_wp2_with fail
      refine KS.out.mono ?_
      rintro e w3 ⟨h3, hk3⟩
      have HKO := Lib.hid (show KeptO b g w w3 from ⟨fun B hB => ((HB.out.mono (by omega)).trans (HKB.out.1 B (by omega))).trans (((Below.refl B wr).drew).trans (hk3.1 B hB)), fun q h1 h2 h4 => (hk3.2.1 q (by have := HB.out.size; have := HKB.out.2.2; have e : wr.drew.heap.size = wr.heap.size := rfl; have := HCE.out; omega) h2 h4 (by have := HCE.out; omega)).trans ((HKB.out.2.1 q (by have := HB.out.size; have := HCE.out; omega) (by have := HCE.out; omega)).trans (HB.out.block q (by have := HCE.out; omega))), by have := HB.out.size; have := HKB.out.2.2; have := hk3.2.2; have e : wr.drew.heap.size = wr.heap.size := rfl; have := HCE.out; omega⟩)
      clear hk3
      rcases h3 with ⟨ha0, rfl, hd, _⟩ | ⟨ha0, rfl, hd, hc⟩
      · have HD3 := Lib.hid hd
        clear hd
        go_wp2
        go_ret2
        exact ⟨.inl ⟨ha0, rfl, HD3.out⟩, HKO.out⟩
      · have HD3 := Lib.hid hd
        have HC3 := Lib.hid hc
        have HA0 := Lib.hid ha0
        clear hd hc ha0
        go_wp2
        go_ret2
        exact ⟨.inr ⟨HA0.out, c, ⟨by omega, by have := HCE.out; omega⟩, rfl, HD3.out, HC3.out⟩, HKO.out⟩
theorem clkOpenNil (base : Int) (w : World) : Calls Tryd.prog 49 #[.pointer none, .int .i64 base] w fun e w' => e = .returned (.tuple #[.pointer none, .int .i64 8]) ∧ w = w' := by
  go_enter Tryd.func49, Tryd.ntmps49
  go_wp2
  go_ret2
  exact ⟨rfl, rfl⟩
theorem clkOpenArg (b g : Nat) (K : List (List UInt8)) (cv : Value) (C : List Wr) (off : Bool) (armed : Int) (bits : Nat) (writes : Int) (base : Int) (w : World) (h : DkAt b g K cv C off armed bits writes w) (hK : K.length ≤ 4096) (hb : base < 0 ∨ (K.length : Int) - 2 < base) :
    Calls Tryd.prog 49 #[.pointer (some ⟨b, 0, none⟩), .int .i64 base] w fun e w' => e = .returned (.tuple #[.pointer none, .int .i64 1]) ∧ w = w' := by
  have KL := Lib.hid (dskLen b g K cv C off armed bits writes w h)
  clear h
  by_cases h0 : base < 0
  · have h1 : decide (base < 0) = true := by simpa using h0
    clear hb
    go_enter Tryd.func49, Tryd.ntmps49
    go_wp2
    go_ret2
    exact ⟨rfl, rfl⟩
  · have hb2 : (K.length : Int) - 2 < base := by omega
    have h1 : 0 ≤ base := by omega
    clear hb h0
    generalize K.length = n at *
    go_enter Tryd.func49, Tryd.ntmps49
    go_wp2_with fail
    refine KL.out.mono ?_
    rintro e w1 ⟨rfl, rfl⟩
    go_wp2
    go_ret2
    exact ⟨rfl, rfl⟩
theorem clkOpenDown (b g : Nat) (K : List (List UInt8)) (cv : Value) (C : List Wr) (armed : Int) (bits : Nat) (writes : Int) (base : Nat) (w : World) (h : DkAt b g K cv C true armed bits writes w) (hK : K.length ≤ 4096) (hb : base + 2 ≤ K.length) :
    Calls Tryd.prog 49 #[.pointer (some ⟨b, 0, none⟩), .int .i64 (base : Nat)] w fun e w' => e = .returned (.tuple #[.pointer none, .int .i64 5]) ∧ w = w' := by
  have KL := Lib.hid (dskLen b g K cv C true armed bits writes w h)
  have KD := Lib.hid (dskDown b g K cv C true armed bits writes w h)
  clear h
  have hb2 : ¬ ((K.length : Int) - 2 < (base : Int)) := by omega
  generalize K.length = n at *
  go_enter Tryd.func49, Tryd.ntmps49
  go_wp2_with fail
  refine KL.out.mono ?_
  rintro e w1 ⟨rfl, rfl⟩
  go_wp2_with fail
  refine KD.out.mono ?_
  rintro e w1 ⟨rfl, rfl⟩
  go_wp2
  go_ret2
  exact ⟨rfl, rfl⟩
end Go.Proofs.YtbbcicengfmhiaaDoor

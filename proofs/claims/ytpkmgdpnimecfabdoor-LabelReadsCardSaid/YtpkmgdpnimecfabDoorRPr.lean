/- The document's Parse. Every text. -/
import Derived.Test.YtpkmgdpnimecfabDoorPub
import Derived.Test.YtpkmgdpnimecfabDoorTxt2
import Derived.Deep.DeepCutAuto
namespace Go.Proofs.YtpkmgdpnimecfabDoor
open Go.RowKit

/-- what of a byte's digit is gathered by the first d digits -/
def ctr (c : UInt8) (d : Nat) : Nat := if hexD (hxR c) = c ∧ hxR c < d then hxR c else 0
theorem ctr_zero (c : UInt8) : ctr c 0 = 0 := by unfold ctr; rw [if_neg (by omega)]
theorem hexD_hxR {c : UInt8} (h : hexD (hxR c) ≠ c) : hxR c = 0 := by
  by_cases h1 : 48 ≤ c.toNat ∧ c.toNat ≤ 57
  · exfalso
    apply h
    unfold hxR
    rw [if_pos h1]
    unfold hexD
    rw [if_pos (by omega), show 48 + (c.toNat - 48) = c.toNat by omega]
    simp
  · by_cases h2 : 97 ≤ c.toNat ∧ c.toNat ≤ 102
    · exfalso
      apply h
      unfold hxR
      rw [if_neg h1, if_pos h2]
      unfold hexD
      rw [if_neg (by omega), show 87 + (c.toNat - 87) = c.toNat by omega]
      simp
    · unfold hxR
      rw [if_neg h1, if_neg h2]
theorem ctr_all (c : UInt8) : ctr c 16 = hxR c := by
  unfold ctr
  have := hxR_lt c
  by_cases h : hexD (hxR c) = c
  · rw [if_pos ⟨h, this⟩]
  · rw [if_neg (fun q => h q.1), hexD_hxR h]
theorem ctr_hit {c : UInt8} {d : Nat} (hd : d < 16) (h : hexD d = c) : ctr c d = 0 ∧ ctr c (d + 1) = d := by
  have e : hxR c = d := by rw [← h, hxR_hexD d hd]
  unfold ctr
  rw [e]
  exact ⟨if_neg (by omega), if_pos ⟨h, by omega⟩⟩
theorem ctr_miss {c : UInt8} {d : Nat} (h : hexD d ≠ c) : ctr c (d + 1) = ctr c d := by
  unfold ctr
  by_cases e : hexD (hxR c) = c
  · have hne : hxR c ≠ d := fun q => h (by rw [← q, e])
    by_cases l : hxR c < d
    · rw [if_pos ⟨e, by omega⟩, if_pos ⟨e, l⟩]
    · rw [if_neg (by omega), if_neg (by omega)]
  · rw [if_neg (fun q => e q.1), if_neg (fun q => e q.1)]
theorem ctr_lt (c : UInt8) (d : Nat) : ctr c d < 16 := by
  unfold ctr
  have := hxR_lt c
  split <;> omega
/-- the set that the first k digits make -/
def acc4 (l : List UInt8) : Nat → Nat
  | 0 => 0
  | k + 1 => acc4 l k + hxR (l.getD (2 + k) 0) * 16 ^ (3 - k)
theorem acc4_bound (l : List UInt8) {k : Nat} (hk : k < 4) {q : Nat} (hq : q < 16) : acc4 l k + q * 16 ^ (3 - k) < 65536 := by
  have h (j : Nat) := hxR_lt (l.getD (2 + j) 0)
  have h0 := h 0
  have h1 := h 1
  have h2 := h 2
  match k, hk with
  | 0, _ | 1, _ | 2, _ | 3, _ => simp only [acc4] <;> omega
theorem acc4_val {l : List UInt8} (hl : l.length = 6) : acc4 l 4 = valR (l.drop 2) 0 := by
  match l, hl with
  | [s0, s1, c0, c1, c2, c3], _ =>
    simp [acc4, valR]
    omega
theorem acc4_lt (l : List UInt8) : acc4 l 4 < 65536 := acc4_bound l (k := 3) (by omega) (hxR_lt _)
theorem digA (d : Nat) (hd : d < 16) (h : d < (ByteArray.mk #[48, 49, 50, 51, 52, 53, 54, 55, 56, 57, 97, 98, 99, 100, 101, 102]).size) : (ByteArray.mk #[48, 49, 50, 51, 52, 53, 54, 55, 56, 57, 97, 98, 99, 100, 101, 102])[d]'h = hexD d := by
  match d, hd with
  | 0, _ | 1, _ | 2, _ | 3, _ | 4, _ | 5, _ | 6, _ | 7, _ | 8, _ | 9, _ | 10, _ | 11, _ | 12, _ | 13, _ | 14, _ | 15, _ => rfl
  | n + 16, h => exact absurd h (by omega)
/-- the boxes while a text is read -/
def PAt (w wr : World) (a : Int) (v : Nat) : Prop := Below w.heap.size w wr ∧ LBx w.heap.size 0 0 wr ∧ LBx (w.heap.size + 1) a v wr
theorem LBx.put {b : Nat} {a : Int} {x y : Nat} {w : World} (h : LBx b a x w) : LBx b a y (w.setCell ⟨b, 1, none⟩ (.int .u16 (y : Int))) := by
  obtain ⟨h0, h1, h2, h3, h4⟩ := h
  refine ⟨by simpa using h0, ?_, ?_, ?_, ?_⟩ <;> go_simp
theorem LBx.putO {b c : Nat} {a : Int} {x : Nat} {w : World} {v : Value} (h : LBx b a x w) (hne : b ≠ c) : LBx b a x (w.setCell ⟨c, 1, none⟩ v) := by
  obtain ⟨h0, h1, h2, h3, h4⟩ := h
  refine ⟨by simpa using h0, ?_, ?_, ?_, ?_⟩ <;> go_simp
theorem PAt.put {w wr : World} {a : Int} {v y : Nat} (h : PAt w wr a v) : PAt w (wr.setCell ⟨w.heap.size + 1, 1, none⟩ (.int .u16 (y : Int))) a y :=
  ⟨h.1.setCell (p := ⟨w.heap.size + 1, 1, none⟩) (Nat.le_succ _) _, h.2.1.putO (by omega), h.2.2.put⟩
theorem PAt.drewN {w wr : World} {a : Int} {v : Nat} (h : PAt w wr a v) (n : Nat) : PAt w (wr.drewN n) a v :=
  ⟨below_drewN h.1 n, h.2.1.below (below_drewN (Below.refl _ _) n), h.2.2.below (below_drewN (Below.refl _ _) n)⟩
theorem PAt.drew {w wr : World} {a : Int} {v : Nat} (h : PAt w wr a v) : PAt w wr.drew a v :=
  ⟨h.1.drew, h.2.1.below (Below.refl _ _).drew, h.2.2.below (Below.refl _ _).drew⟩
def RpRes (l : List UInt8) : Value := match parseR l with
  | some (a, x) => .tuple #[(.agg #[.int .i64 (a), .int .u16 ((x : Nat) : Int)]), .bool true]
  | none => .tuple #[(.agg #[.int .i64 (0), .int .u16 ((0 : Nat) : Int)]), .bool false]
set_option maxRecDepth 100000 in
set_option maxHeartbeats 16000000 in
theorem ref01Parse (l : List UInt8) (w : World) : Calls Tryd.prog 38 #[.string ⟨l.toArray⟩] w fun e w' => e = .returned (RpRes l) ∧ Below w.heap.size w w' := by
  obtain ⟨t, ht⟩ : ∃ t : ByteArray, t = ⟨l.toArray⟩ := ⟨_, rfl⟩
  rw [← ht]
  have hts : t.size = l.length := by rw [ht]; rfl
  by_cases hl : l.length = 6
  · rw [hl] at hts
    have hix : ∀ k (h : k < t.size), (t[k]'h) = l.getD k 0 := fun k h => by
      subst ht
      have h2 : k < 6 := by omega
      match l, hl, k, h2 with
      | [_, _, _, _, _, _], _, 0, _ | [_, _, _, _, _, _], _, 1, _ | [_, _, _, _, _, _], _, 2, _ | [_, _, _, _, _, _], _, 3, _ | [_, _, _, _, _, _], _, 4, _ | [_, _, _, _, _, _], _, 5, _ => rfl
    have h00 : l[0]! = l.getD 0 0 := by
      match l, hl with
      | [_, _, _, _, _, _], _ => rfl
    have hTl := Lib.hid (fun (a : Int) (x : Nat) => show ((⟨(txtL a x).toArray⟩ : ByteArray).toList == t.toList) = decide (txtL a x = l) by
      rw [ht]
      by_cases h : txtL a x = l
      · rw [h]; simp
      · rw [decide_eq_false h]
        simpa using h)
    have hL := Lib.hid hl
    have hR0 := Lib.hid h00
    have i0 := hix 0 (by omega)
    have HI := Lib.hid hix
    have hc8 : (l.getD 0 0).toNat < 256 := (l.getD 0 0).toNat_lt
    obtain ⟨c, hc⟩ : ∃ c, c = l.getD 0 0 := ⟨_, rfl⟩
    rw [← hc] at i0 hc8
    have HC := Lib.hid hc
    clear ht hl h00 hix hc
    obtain ⟨R, hR⟩ : ∃ R, R = RpRes l := ⟨_, rfl⟩
    rw [← hR]
    have HR := Lib.hid hR
    clear hR
    by_cases hlv : 48 ≤ c.toNat ∧ c.toNat ≤ 55
    · have hlv' := Lib.hid hlv
      obtain ⟨hl1, hl2⟩ := hlv
      go_enter Tryd.func38, Tryd.ntmps38
      go_wp2
      have hA : ∃ A : Int, A = (c.toNat : Int) - 48 := ⟨_, rfl⟩
      obtain ⟨A, hA⟩ := hA
      have HP := Lib.hid (show PAt w ((w.alloc (.cells #[.int .i64 0, .int .u16 0] 26)).alloc (.cells #[.int .i64 ((c.toNat : Int) - 48), .int .u16 0] 26)) A 0 from ⟨below2 _ _ _, (LBx.mk w 0 0).below (below1 _ _), by rw [hA]; exact LBx.mk2 (w.alloc (.cells #[.int .i64 0, .int .u16 0] 26)) _ 0 (by simp)⟩)
      have HA := Lib.hid hA
      clear hA
      go_loopw [6] (fun i wr => ∃ k : Nat, k ≤ 4 ∧ i = .int .i64 ((2 + k : Nat) : Int) ∧ PAt w wr A (acc4 l k)) (fun i _ => 6 - (intOf i).toNat)
      case atStart => exact ⟨0, by omega, rfl, HP.out⟩
      case round =>
        clear HP
        obtain ⟨k, hk, rfl, hp⟩ := hrel
        have HP := Lib.hid hp
        clear hp
        by_cases hlt : k < 4
        · match k, hlt, HP with
        | 0, _, HP =>
          have ix := HI.out 2 (by omega)
          obtain ⟨ck, hck⟩ : ∃ ck, ck = l.getD 2 0 := ⟨_, rfl⟩
          rw [← hck] at ix
          have HCK := Lib.hid (show acc4 l (0 + 1) = acc4 l 0 + hxR ck * 4096 by rw [hck]; rfl)
          have HV := Lib.hid (fun (q : Nat) (hq : q < 16) => show acc4 l 0 + q * 4096 < 65536 from acc4_bound l (k := 0) (by omega) hq)
          clear hck
          generalize acc4 l 0 = v0 at HP HCK HV
          obtain ⟨wo, hwo⟩ : ∃ wo : World, wo = wr := ⟨_, rfl⟩
          subst hwo
          go_wp2
          go_loopw [7] (fun d wr => ∃ e : Nat, e ≤ 16 ∧ d = .int .i64 e ∧ PAt w wr A (v0 + ctr ck e * 4096)) (fun d _ => 16 - (intOf d).toNat)
          case atStart => exact ⟨0, by omega, rfl, by rw [ctr_zero]; simpa using HP.out⟩
          case round =>
            clear HP
            obtain ⟨e, he, rfl, hp⟩ := hrel
            have HP := Lib.hid hp
            clear hp
            by_cases h16 : e < 16
            · have hez : (e : Int) < 16 := by omega
              have dg := digA e h16
              by_cases hh : hexD e = ck
              · have hce : ((((hexD e).toNat : Nat) : Int) == ((ck.toNat : Nat) : Int)) = true := by rw [hh]; simp
                obtain ⟨m0, m1⟩ := ctr_hit h16 hh
                have HM1 := Lib.hid m1
                rw [m0] at HP
                have hvb := HV.out e h16
                obtain ⟨hB, ⟨z1, c10, c11, f10, f11⟩, ⟨z2, c20, c21, f20, f21⟩⟩ := HP.out
                rw [show v0 + 0 * 4096 = v0 by omega] at c21
                have HB := Lib.hid hB
                have hw1 : IntKind.u16.wrap (e : Int) = (e : Int) := by simp [IntKind.wrap, IntKind.signed, IntKind.bits]; omega
                have hw2 : IntKind.u16.wrap ((v0 : Int) + IntKind.u16.wrap ((e : Int) * 4096)) = ((v0 + e * 4096 : Nat) : Int) := by simp [IntKind.wrap, IntKind.signed, IntKind.bits]; omega
                have hw3 : IntKind.u16.wrap ((v0 : Int) + (e : Int) * 4096) = ((v0 + e * 4096 : Nat) : Int) := by simp [IntKind.wrap, IntKind.signed, IntKind.bits]; omega
                clear hB m0 m1 hvb
                have dg' := dg (by show e < 16; omega)
                clear dg
                go_wp2_with fail
                go_quiet (fail)
                go_wp2_with fail
                go_region
                go_wp2
                go_roundw
                case rel =>
                  have hq := fun n => (HP.out.drewN n).put (y := v0 + e * 4096)
                  rw [show (((v0 + e * 4096 : Nat)) : Int) = (v0 : Int) + (e : Int) * 4096 by simp] at hq
                  first | exact ⟨e + 1, by omega, by go_num, by rw [HM1.out]; exact hq _⟩ | ((repeat apply Exists.intro); exact ⟨⟨e + 1, by omega, by go_num, by rw [HM1.out]; exact hq _⟩, rfl⟩) | trace_state
                case measure => simp [intOf] <;> omega
              · have hce : ((((hexD e).toNat : Nat) : Int) == ((ck.toNat : Nat) : Int)) = false := by
                  rw [beq_eq_false_iff_ne]
                  intro q
                  exact hh (UInt8.toNat_inj.1 (by omega))
                have HM1 := Lib.hid (ctr_miss hh)
                have dg' := dg (by show e < 16; omega)
                clear dg
                go_wp2_with fail
                go_quiet (fail)
                go_wp2
                go_roundw
                case rel => first | exact ⟨e + 1, by omega, by go_num, by rw [HM1.out]; exact HP.out.drewN _⟩ | ((repeat apply Exists.intro); exact ⟨⟨e + 1, by omega, by go_num, by rw [HM1.out]; exact HP.out.drewN _⟩, rfl⟩) | trace_state
                case measure => simp [intOf] <;> omega
            · obtain rfl : e = 16 := by omega
              go_wp2
              go_roundw
              case rel => first | exact ⟨0 + 1, by omega, by go_num, by rw [HCK.out, ← ctr_all]; exact HP.out⟩ | ((repeat apply Exists.intro); exact ⟨⟨0 + 1, by omega, by go_num, by rw [HCK.out, ← ctr_all]; exact HP.out⟩, rfl⟩) | trace_state
              case measure => simp [intOf] <;> omega
        | 1, _, HP =>
          have ix := HI.out 3 (by omega)
          obtain ⟨ck, hck⟩ : ∃ ck, ck = l.getD 3 0 := ⟨_, rfl⟩
          rw [← hck] at ix
          have HCK := Lib.hid (show acc4 l (1 + 1) = acc4 l 1 + hxR ck * 256 by rw [hck]; rfl)
          have HV := Lib.hid (fun (q : Nat) (hq : q < 16) => show acc4 l 1 + q * 256 < 65536 from acc4_bound l (k := 1) (by omega) hq)
          clear hck
          generalize acc4 l 1 = v0 at HP HCK HV
          obtain ⟨wo, hwo⟩ : ∃ wo : World, wo = wr := ⟨_, rfl⟩
          subst hwo
          go_wp2
          go_loopw [7] (fun d wr => ∃ e : Nat, e ≤ 16 ∧ d = .int .i64 e ∧ PAt w wr A (v0 + ctr ck e * 256)) (fun d _ => 16 - (intOf d).toNat)
          case atStart => exact ⟨0, by omega, rfl, by rw [ctr_zero]; simpa using HP.out⟩
          case round =>
            clear HP
            obtain ⟨e, he, rfl, hp⟩ := hrel
            have HP := Lib.hid hp
            clear hp
            by_cases h16 : e < 16
            · have hez : (e : Int) < 16 := by omega
              have dg := digA e h16
              by_cases hh : hexD e = ck
              · have hce : ((((hexD e).toNat : Nat) : Int) == ((ck.toNat : Nat) : Int)) = true := by rw [hh]; simp
                obtain ⟨m0, m1⟩ := ctr_hit h16 hh
                have HM1 := Lib.hid m1
                rw [m0] at HP
                have hvb := HV.out e h16
                obtain ⟨hB, ⟨z1, c10, c11, f10, f11⟩, ⟨z2, c20, c21, f20, f21⟩⟩ := HP.out
                rw [show v0 + 0 * 256 = v0 by omega] at c21
                have HB := Lib.hid hB
                have hw1 : IntKind.u16.wrap (e : Int) = (e : Int) := by simp [IntKind.wrap, IntKind.signed, IntKind.bits]; omega
                have hw2 : IntKind.u16.wrap ((v0 : Int) + IntKind.u16.wrap ((e : Int) * 256)) = ((v0 + e * 256 : Nat) : Int) := by simp [IntKind.wrap, IntKind.signed, IntKind.bits]; omega
                have hw3 : IntKind.u16.wrap ((v0 : Int) + (e : Int) * 256) = ((v0 + e * 256 : Nat) : Int) := by simp [IntKind.wrap, IntKind.signed, IntKind.bits]; omega
                clear hB m0 m1 hvb
                have dg' := dg (by show e < 16; omega)
                clear dg
                go_wp2_with fail
                go_quiet (fail)
                go_wp2_with fail
                go_region
                go_wp2
                go_roundw
                case rel =>
                  have hq := fun n => (HP.out.drewN n).put (y := v0 + e * 256)
                  rw [show (((v0 + e * 256 : Nat)) : Int) = (v0 : Int) + (e : Int) * 256 by simp] at hq
                  first | exact ⟨e + 1, by omega, by go_num, by rw [HM1.out]; exact hq _⟩ | ((repeat apply Exists.intro); exact ⟨⟨e + 1, by omega, by go_num, by rw [HM1.out]; exact hq _⟩, rfl⟩) | trace_state
                case measure => simp [intOf] <;> omega
              · have hce : ((((hexD e).toNat : Nat) : Int) == ((ck.toNat : Nat) : Int)) = false := by
                  rw [beq_eq_false_iff_ne]
                  intro q
                  exact hh (UInt8.toNat_inj.1 (by omega))
                have HM1 := Lib.hid (ctr_miss hh)
                have dg' := dg (by show e < 16; omega)
                clear dg
                go_wp2_with fail
                go_quiet (fail)
                go_wp2
                go_roundw
                case rel => first | exact ⟨e + 1, by omega, by go_num, by rw [HM1.out]; exact HP.out.drewN _⟩ | ((repeat apply Exists.intro); exact ⟨⟨e + 1, by omega, by go_num, by rw [HM1.out]; exact HP.out.drewN _⟩, rfl⟩) | trace_state
                case measure => simp [intOf] <;> omega
            · obtain rfl : e = 16 := by omega
              go_wp2
              go_roundw
              case rel => first | exact ⟨1 + 1, by omega, by go_num, by rw [HCK.out, ← ctr_all]; exact HP.out⟩ | ((repeat apply Exists.intro); exact ⟨⟨1 + 1, by omega, by go_num, by rw [HCK.out, ← ctr_all]; exact HP.out⟩, rfl⟩) | trace_state
              case measure => simp [intOf] <;> omega
        | 2, _, HP =>
          have ix := HI.out 4 (by omega)
          obtain ⟨ck, hck⟩ : ∃ ck, ck = l.getD 4 0 := ⟨_, rfl⟩
          rw [← hck] at ix
          have HCK := Lib.hid (show acc4 l (2 + 1) = acc4 l 2 + hxR ck * 16 by rw [hck]; rfl)
          have HV := Lib.hid (fun (q : Nat) (hq : q < 16) => show acc4 l 2 + q * 16 < 65536 from acc4_bound l (k := 2) (by omega) hq)
          clear hck
          generalize acc4 l 2 = v0 at HP HCK HV
          obtain ⟨wo, hwo⟩ : ∃ wo : World, wo = wr := ⟨_, rfl⟩
          subst hwo
          go_wp2
          go_loopw [7] (fun d wr => ∃ e : Nat, e ≤ 16 ∧ d = .int .i64 e ∧ PAt w wr A (v0 + ctr ck e * 16)) (fun d _ => 16 - (intOf d).toNat)
          case atStart => exact ⟨0, by omega, rfl, by rw [ctr_zero]; simpa using HP.out⟩
          case round =>
            clear HP
            obtain ⟨e, he, rfl, hp⟩ := hrel
            have HP := Lib.hid hp
            clear hp
            by_cases h16 : e < 16
            · have hez : (e : Int) < 16 := by omega
              have dg := digA e h16
              by_cases hh : hexD e = ck
              · have hce : ((((hexD e).toNat : Nat) : Int) == ((ck.toNat : Nat) : Int)) = true := by rw [hh]; simp
                obtain ⟨m0, m1⟩ := ctr_hit h16 hh
                have HM1 := Lib.hid m1
                rw [m0] at HP
                have hvb := HV.out e h16
                obtain ⟨hB, ⟨z1, c10, c11, f10, f11⟩, ⟨z2, c20, c21, f20, f21⟩⟩ := HP.out
                rw [show v0 + 0 * 16 = v0 by omega] at c21
                have HB := Lib.hid hB
                have hw1 : IntKind.u16.wrap (e : Int) = (e : Int) := by simp [IntKind.wrap, IntKind.signed, IntKind.bits]; omega
                have hw2 : IntKind.u16.wrap ((v0 : Int) + IntKind.u16.wrap ((e : Int) * 16)) = ((v0 + e * 16 : Nat) : Int) := by simp [IntKind.wrap, IntKind.signed, IntKind.bits]; omega
                have hw3 : IntKind.u16.wrap ((v0 : Int) + (e : Int) * 16) = ((v0 + e * 16 : Nat) : Int) := by simp [IntKind.wrap, IntKind.signed, IntKind.bits]; omega
                clear hB m0 m1 hvb
                have dg' := dg (by show e < 16; omega)
                clear dg
                go_wp2_with fail
                go_quiet (fail)
                go_wp2_with fail
                go_region
                go_wp2
                go_roundw
                case rel =>
                  have hq := fun n => (HP.out.drewN n).put (y := v0 + e * 16)
                  rw [show (((v0 + e * 16 : Nat)) : Int) = (v0 : Int) + (e : Int) * 16 by simp] at hq
                  first | exact ⟨e + 1, by omega, by go_num, by rw [HM1.out]; exact hq _⟩ | ((repeat apply Exists.intro); exact ⟨⟨e + 1, by omega, by go_num, by rw [HM1.out]; exact hq _⟩, rfl⟩) | trace_state
                case measure => simp [intOf] <;> omega
              · have hce : ((((hexD e).toNat : Nat) : Int) == ((ck.toNat : Nat) : Int)) = false := by
                  rw [beq_eq_false_iff_ne]
                  intro q
                  exact hh (UInt8.toNat_inj.1 (by omega))
                have HM1 := Lib.hid (ctr_miss hh)
                have dg' := dg (by show e < 16; omega)
                clear dg
                go_wp2_with fail
                go_quiet (fail)
                go_wp2
                go_roundw
                case rel => first | exact ⟨e + 1, by omega, by go_num, by rw [HM1.out]; exact HP.out.drewN _⟩ | ((repeat apply Exists.intro); exact ⟨⟨e + 1, by omega, by go_num, by rw [HM1.out]; exact HP.out.drewN _⟩, rfl⟩) | trace_state
                case measure => simp [intOf] <;> omega
            · obtain rfl : e = 16 := by omega
              go_wp2
              go_roundw
              case rel => first | exact ⟨2 + 1, by omega, by go_num, by rw [HCK.out, ← ctr_all]; exact HP.out⟩ | ((repeat apply Exists.intro); exact ⟨⟨2 + 1, by omega, by go_num, by rw [HCK.out, ← ctr_all]; exact HP.out⟩, rfl⟩) | trace_state
              case measure => simp [intOf] <;> omega
        | 3, _, HP =>
          have ix := HI.out 5 (by omega)
          obtain ⟨ck, hck⟩ : ∃ ck, ck = l.getD 5 0 := ⟨_, rfl⟩
          rw [← hck] at ix
          have HCK := Lib.hid (show acc4 l (3 + 1) = acc4 l 3 + hxR ck * 1 by rw [hck]; rfl)
          have HV := Lib.hid (fun (q : Nat) (hq : q < 16) => show acc4 l 3 + q * 1 < 65536 from acc4_bound l (k := 3) (by omega) hq)
          clear hck
          generalize acc4 l 3 = v0 at HP HCK HV
          obtain ⟨wo, hwo⟩ : ∃ wo : World, wo = wr := ⟨_, rfl⟩
          subst hwo
          go_wp2
          go_loopw [7] (fun d wr => ∃ e : Nat, e ≤ 16 ∧ d = .int .i64 e ∧ PAt w wr A (v0 + ctr ck e * 1)) (fun d _ => 16 - (intOf d).toNat)
          case atStart => exact ⟨0, by omega, rfl, by rw [ctr_zero]; simpa using HP.out⟩
          case round =>
            clear HP
            obtain ⟨e, he, rfl, hp⟩ := hrel
            have HP := Lib.hid hp
            clear hp
            by_cases h16 : e < 16
            · have hez : (e : Int) < 16 := by omega
              have dg := digA e h16
              by_cases hh : hexD e = ck
              · have hce : ((((hexD e).toNat : Nat) : Int) == ((ck.toNat : Nat) : Int)) = true := by rw [hh]; simp
                obtain ⟨m0, m1⟩ := ctr_hit h16 hh
                have HM1 := Lib.hid m1
                rw [m0] at HP
                have hvb := HV.out e h16
                obtain ⟨hB, ⟨z1, c10, c11, f10, f11⟩, ⟨z2, c20, c21, f20, f21⟩⟩ := HP.out
                rw [show v0 + 0 * 1 = v0 by omega] at c21
                have HB := Lib.hid hB
                have hw1 : IntKind.u16.wrap (e : Int) = (e : Int) := by simp [IntKind.wrap, IntKind.signed, IntKind.bits]; omega
                have hw2 : IntKind.u16.wrap ((v0 : Int) + IntKind.u16.wrap ((e : Int) * 1)) = ((v0 + e * 1 : Nat) : Int) := by simp [IntKind.wrap, IntKind.signed, IntKind.bits]; omega
                have hw3 : IntKind.u16.wrap ((v0 : Int) + (e : Int)) = ((v0 + e * 1 : Nat) : Int) := by simp [IntKind.wrap, IntKind.signed, IntKind.bits]; omega
                clear hB m0 m1 hvb
                have dg' := dg (by show e < 16; omega)
                clear dg
                go_wp2_with fail
                go_quiet (fail)
                go_wp2_with fail
                go_region
                go_wp2
                go_roundw
                case rel =>
                  have hq := fun n => (HP.out.drewN n).put (y := v0 + e * 1)
                  rw [show (((v0 + e * 1 : Nat)) : Int) = (v0 : Int) + (e : Int) by simp] at hq
                  first | exact ⟨e + 1, by omega, by go_num, by rw [HM1.out]; exact hq _⟩ | ((repeat apply Exists.intro); exact ⟨⟨e + 1, by omega, by go_num, by rw [HM1.out]; exact hq _⟩, rfl⟩) | trace_state
                case measure => simp [intOf] <;> omega
              · have hce : ((((hexD e).toNat : Nat) : Int) == ((ck.toNat : Nat) : Int)) = false := by
                  rw [beq_eq_false_iff_ne]
                  intro q
                  exact hh (UInt8.toNat_inj.1 (by omega))
                have HM1 := Lib.hid (ctr_miss hh)
                have dg' := dg (by show e < 16; omega)
                clear dg
                go_wp2_with fail
                go_quiet (fail)
                go_wp2
                go_roundw
                case rel => first | exact ⟨e + 1, by omega, by go_num, by rw [HM1.out]; exact HP.out.drewN _⟩ | ((repeat apply Exists.intro); exact ⟨⟨e + 1, by omega, by go_num, by rw [HM1.out]; exact HP.out.drewN _⟩, rfl⟩) | trace_state
                case measure => simp [intOf] <;> omega
            · obtain rfl : e = 16 := by omega
              go_wp2
              go_roundw
              case rel => first | exact ⟨3 + 1, by omega, by go_num, by rw [HCK.out, ← ctr_all]; exact HP.out⟩ | ((repeat apply Exists.intro); exact ⟨⟨3 + 1, by omega, by go_num, by rw [HCK.out, ← ctr_all]; exact HP.out⟩, rfl⟩) | trace_state
              case measure => simp [intOf] <;> omega
        · obtain rfl : k = 4 := by omega
          have hrt : rightLv A = true := by
            have := hlv'.out
            rw [HA.out]
            simp [rightLv]
            omega
          have hv6 := acc4_lt l
          have q := ref01Text A (acc4 l 4) hrt hv6
          have hT := hTl.out A (acc4 l 4)
          have hr2 : Hid (R = if decide (txtL A (acc4 l 4) = l) = true then .tuple #[(.agg #[.int .i64 (A), .int .u16 ((acc4 l 4 : Nat) : Int)]), .bool true] else .tuple #[(.agg #[.int .i64 (0), .int .u16 ((0 : Nat) : Int)]), .bool false]) := Lib.hid (by
            have h8 := hlv'.out
            rw [HR.out]
            unfold RpRes parseR
            rw [if_pos ⟨hL.out, by rw [hR0.out, ← HC.out]; exact h8.1, by rw [hR0.out, ← HC.out]; exact h8.2⟩, hR0.out, ← HC.out, ← HA.out, ← acc4_val hL.out]
            by_cases h : txtL A (acc4 l 4) = l
            · rw [decide_eq_true h, if_pos rfl]; simp only [if_pos h]
            · rw [decide_eq_false h]; simp only [if_neg h]; rfl)
          generalize (⟨(txtL A (acc4 l 4)).toArray⟩ : ByteArray) = T at q hT
          generalize decide (txtL A (acc4 l 4) = l) = dq at hT hr2
          generalize acc4 l 4 = v at HP q hr2
          obtain ⟨hB, ⟨z1, c10, c11, f10, f11⟩, ⟨z2, c20, c21, f20, f21⟩⟩ := HP.out
          have HB := Lib.hid hB
          have HX1 := Lib.hid HP.out.2.1
          have HX2 := Lib.hid HP.out.2.2
          have HT := Lib.hid hT
          clear hB hrt hv6 HP hT
          go_wp2_with fail
          refine (q _).mono ?_
          rintro e w2 ⟨rfl, hb⟩
          have HB2 := Lib.hid (HB.out.trans (hb.mono HB.out.size))
          clear c10 c11 f10 f11 c20 c21 f20 f21 z1 z2
          obtain ⟨z1, c10, c11, f10, f11⟩ := HX1.out.below hb
          obtain ⟨z2, c20, c21, f20, f21⟩ := HX2.out.below hb
          clear hb q
          have hT := HT.out
          clear HT
          cases dq with
          | true =>
            go_wp2
            refine bodyPost_ret (v := .tuple #[(.agg #[.int .i64 (A), .int .u16 ((v : Nat) : Int)]), .bool true]) (by rw [results_cell_tmp rfl]; go_simp) rfl ⟨by rw [hr2.out]; rfl, ?_⟩
            exact (HB2.out.setCell (p := ⟨w.heap.size, 0, none⟩) (Nat.le_refl _) _).setCell (p := ⟨w.heap.size, 1, none⟩) (Nat.le_refl _) _
          | false =>
            go_wp2
            refine bodyPost_ret (v := .tuple #[(.agg #[.int .i64 (0), .int .u16 ((0 : Nat) : Int)]), .bool false]) (by rw [results_cell_tmp rfl]; go_simp) rfl ⟨by rw [hr2.out]; rfl, ?_⟩
            exact (HB2.out.setCell (p := ⟨w.heap.size, 0, none⟩) (Nat.le_refl _) _).setCell (p := ⟨w.heap.size, 1, none⟩) (Nat.le_refl _) _
    · have hr' : Hid (R = .tuple #[(.agg #[.int .i64 (0), .int .u16 ((0 : Nat) : Int)]), .bool false]) := Lib.hid (by rw [HR.out]; unfold RpRes parseR; rw [if_neg (fun q => hlv (by rw [HC.out, ← hR0.out]; exact q.2))])
      by_cases h1 : c.toNat < 48
      · clear hlv
        go_enter Tryd.func38, Tryd.ntmps38
        go_wp2
        refine bodyPost_ret (v := .tuple #[(.agg #[.int .i64 (0), .int .u16 ((0 : Nat) : Int)]), .bool false]) (by rw [results_cell_tmp rfl]; go_simp) rfl ⟨by rw [hr'.out], ?_⟩
        exact below1 _ _
      · have h2 : 55 < c.toNat := by omega
        have h1' : 48 ≤ c.toNat := by omega
        clear hlv h1
        go_enter Tryd.func38, Tryd.ntmps38
        go_wp2
        refine bodyPost_ret (v := .tuple #[(.agg #[.int .i64 (0), .int .u16 ((0 : Nat) : Int)]), .bool false]) (by rw [results_cell_tmp rfl]; go_simp) rfl ⟨by rw [hr'.out], ?_⟩
        exact below1 _ _
  · have hr : RpRes l = .tuple #[(.agg #[.int .i64 (0), .int .u16 ((0 : Nat) : Int)]), .bool false] := by unfold RpRes parseR; rw [if_neg (fun q => hl q.1)]
    have hr' := Lib.hid hr
    have hne : ¬ (t.size : Int) = 6 := by omega
    clear hr hl hts ht
    go_enter Tryd.func38, Tryd.ntmps38
    go_wp2
    refine bodyPost_ret (v := .tuple #[(.agg #[.int .i64 (0), .int .u16 ((0 : Nat) : Int)]), .bool false]) (by rw [results_cell_tmp rfl]; go_simp) rfl ⟨by rw [hr'.out], ?_⟩
    exact below1 _ _
end Go.Proofs.YtpkmgdpnimecfabDoor

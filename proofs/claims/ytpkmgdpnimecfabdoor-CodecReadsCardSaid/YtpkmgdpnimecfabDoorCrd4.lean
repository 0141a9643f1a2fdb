/- CodecReads: whatever the text, and in whatever order it is taken apart: what is taken, and whether something was wrong, is the document's. Every input. -/
import Derived.Test.YtpkmgdpnimecfabDoorCrd3
import Derived.Test.YtpkmgdpnimecfabDoorCbk5
import Derived.Test.YtpkmgdpnimecfabDoorAwk6
import Derived.Test.YtpkmgdpnimecfabDoorTk
import Derived.Deep.DeepCutAuto
namespace Go.Proofs.YtpkmgdpnimecfabDoor
open Go.ChangeShapes Go.WideShapes Go.ChangeAt Go.RowKit

/-- two readers that stand alike -/
def TwoAt (w : World) (c d : Nat) (s : List UInt8) (bad : Bool) (wr : World) : Prop := RdAt c s bad wr ∧ RdAt d s bad wr ∧ Below w.heap.size w wr ∧ s.length ≤ 1000
theorem TwoAt.below {w : World} {c d : Nat} {s : List UInt8} {bad : Bool} {wr wx : World} (h : TwoAt w c d s bad wr) (hb : Below wr.heap.size wr wx) : TwoAt w c d s bad wx :=
  ⟨h.1.below hb, h.2.1.below hb, h.2.2.1.trans (hb.mono h.2.2.1.size), h.2.2.2⟩
theorem keptQ2 {c q : Nat} {W w1 w2 : World} (h : ∀ o, w1.cell? ⟨q, o, none⟩ = W.cell? ⟨q, o, none⟩) (hk : KeptB c w1 w2) (hq : q < w1.heap.size) (hne : q ≠ c) : ∀ o, w2.cell? ⟨q, o, none⟩ = W.cell? ⟨q, o, none⟩ := fun o => (World.cell?_of_block (w := w1) (hk.2.1 q hq hne)).trans (h o)
theorem nilStr (r : List UInt8) : ((⟨r.toArray⟩ : ByteArray).toList == []) = r.isEmpty := by
  rw [ByteArray.toList_eq]
  cases r <;> rfl
set_option maxRecDepth 100000 in
set_option maxHeartbeats 16000000 in
theorem codecReads_walk (t : ByteArray) (v : Value) (xs : List OpV) (w : World) (hL : SlAt 7 encO w v xs) (hn : xs.length ≤ maxLen) (hM : Met w) :
    Calls Tryd.prog 11 #[.string t, v] w fun e w' => e = .returned (.bool true) ∧ Below w.heap.size w w' := by
  have HL := Lib.hid hL
  have HM := Lib.hid hM
  have HN := Lib.hid hn
  obtain ⟨pl, cl, rfl, _, _⟩ := id hL
  by_cases ht : 1000 < t.size
  · clear hL hM hn
    go_enter Tryd.func11, Tryd.ntmps11
    go_wp2_with fail
    refine (awake06 _ HM.out).mono ?_
    rintro e w1 ⟨rfl, hb⟩
    have HB := Lib.hid hb
    clear hb
    go_wp2_with fail
    refine (awake06 _ (HM.out.below HB.out)).mono ?_
    rintro e w3 ⟨rfl, hb⟩
    have HB := Lib.hid (HB.out.trans (hb.mono HB.out.size))
    clear hb
    go_wp2
    go_ret
    exact ⟨rfl, HB.out⟩
  · cases hf : fewB xs with
    | false =>
      clear hL hM hn
      go_enter Tryd.func11, Tryd.ntmps11
      go_wp2_with fail
      refine (awake06 _ HM.out).mono ?_
      rintro e w1 ⟨rfl, hb⟩
      have HB := Lib.hid hb
      clear hb
      go_wp2_with fail
      refine (few06 _ xs _ (HL.out.below HB.out) HN.out).mono ?_
      rintro e w2 ⟨rfl, hb⟩
      rw [hf]
      have HB := Lib.hid (HB.out.trans (hb.mono HB.out.size))
      clear hb
      go_wp2_with fail
      refine (awake06 _ (HM.out.below HB.out)).mono ?_
      rintro e w3 ⟨rfl, hb⟩
      have HB := Lib.hid (HB.out.trans (hb.mono HB.out.size))
      clear hb
      go_wp2
      go_ret
      exact ⟨rfl, HB.out⟩
    | true =>
      have hx100 : xs.length ≤ 100 := by
        unfold fewB at hf
        rw [Bool.and_eq_true] at hf
        simpa using hf.2
      clear hL hM hn
      go_enter Tryd.func11, Tryd.ntmps11
      go_wp2_with fail
      refine (awake06 _ HM.out).mono ?_
      rintro e w1 ⟨rfl, hb⟩
      have HB := Lib.hid hb
      clear hb
      go_wp2_with fail
      refine (few06 _ xs _ (HL.out.below HB.out) HN.out).mono ?_
      rintro e w2 ⟨rfl, hb⟩
      rw [hf]
      have HB := Lib.hid (HB.out.trans (hb.mono HB.out.size))
      clear hb hf
      go_wp2_with fail
      refine (readerNew t _).mono ?_
      rintro e w3 ⟨rfl, hr, hb⟩
      have hc7 : 7 ≤ w2.heap.size := Nat.le_trans HM.out.size HB.out.size
      have hcw : w.heap.size ≤ w2.heap.size := HB.out.size
      have hba := below1 w3 (.cells #[.string t, .bool false] 74)
      have HR : Hid (TwoAt w w2.heap.size w3.heap.size t.data.toList false (w3.alloc (.cells #[.string t, .bool false] 74))) := Lib.hid (by
        refine ⟨hr.below hba, ⟨by simp, ⟨?_, ?_⟩, ?_, ?_⟩, (HB.out.trans (hb.mono HB.out.size)).trans (hba.mono (Nat.le_trans HB.out.size hb.size)), ?_⟩
        · go_simp
        · go_simp
        · go_simp
        · go_simp
        · have : t.data.toList.length = t.size := by rw [Array.length_toList]; rfl
          omega)
      have hcd : w2.heap.size < w3.heap.size := hr.1
      clear hr hb hba HB ht
      go_wp2
      generalize w3.alloc (.cells #[.string t, .bool false] 74) = W0 at HR ⊢
      generalize w3.heap.size = d at hcd HR ⊢
      generalize w2.heap.size = c at hcd hc7 hcw HR ⊢
      have hcne : c ≠ d := by omega
      have hdne : d ≠ c := by omega
      have hdw : w.heap.size ≤ d := by omega
      have hN : ∀ (m : Int) (x : Nat) W, (binOp .neq 26 (.agg #[.int .i64 (m), .int .u16 ((x : Nat) : Int)]) (.agg #[.int .i64 (m), .int .u16 ((x : Nat) : Int)])).run Tryd.prog W = .ok (.bool false) W := fun m x W => by rw [run_neqL']; unfold sameB; simp
      have hgu := eqGuard26
      go_loopw [30] (fun i wr => ∃ (k : Nat) (s : List UInt8) (bad : Bool), k ≤ xs.length ∧ i = .int .i64 k ∧ TwoAt w c d s bad wr) (fun i _ => xs.length - (intOf i).toNat)
      case atStart => exact ⟨0, _, _, by omega, rfl, HR.out⟩
      case round =>
        clear HR
        obtain ⟨k, s, bad, hk, rfl, hr⟩ := hrel
        have HR := Lib.hid hr
        clear hr
        by_cases hlt : k < xs.length
        · have hltz : (k : Int) < (xs.length : Int) := by omega
          obtain ⟨p', c', hv, _, hcc⟩ := HL.out.below HR.out.2.2.1
          simp only [Value.slice.injEq] at hv
          obtain ⟨rfl, _, rfl⟩ := hv
          obtain ⟨bk, off, rfl, hb, hcell⟩ := hcc (by omega)
          have d0 := hcell k hlt 0 _ rfl
          have d1 := hcell k hlt 1 _ rfl
          have d2 := hcell k hlt 2 _ rfl
          have d3 := hcell k hlt 3 _ rfl
          have d4 := hcell k hlt 4 _ rfl
          have d5 := hcell k hlt 5 _ rfl
          have d6 : wr.cell? ⟨bk, off + k * 7 + 5 + 1, none⟩ = some (.int .u16 (xs[k]!.set : Int)) := hcell k hlt 6 _ rfl
          rw [Nat.add_zero] at d0
          clear hcell hcc
          generalize xs[k]! = o at d0 d1 d2 d3 d4 d5 d6
          obtain ⟨k0, n0, lo0, hi0, s0, lv0, x0⟩ := o
          simp only at d0 d1 d2 d3 d4 d5 d6
          have hcr : c < wr.heap.size := HR.out.1.1
          have hdr : d < wr.heap.size := HR.out.2.1.1
          go_upto_region 7 with fail
          have hba := below1 wr (.cells #[.int .i64 k0, .int .i64 n0, .int .i64 lo0, .int .i64 hi0, .string s0, .int .i64 lv0, .int .u16 (x0 : Int)] 76)
          have HRa : Hid (TwoAt w c d s bad (wr.alloc (.cells #[.int .i64 k0, .int .i64 n0, .int .i64 lo0, .int .i64 hi0, .string s0, .int .i64 lv0, .int .u16 (x0 : Int)] 76))) := Lib.hid ⟨HR.out.1.below hba, HR.out.2.1.below hba, HR.out.2.2.1.trans (hba.mono HR.out.2.2.1.size), HR.out.2.2.2⟩
          have HOa := Lib.hid (OpAt.alloc wr k0 n0 lo0 hi0 s0 lv0 x0)
          have hqc : wr.heap.size ≠ c := by omega
          have hqd : wr.heap.size ≠ d := by omega
          generalize wr.alloc (.cells #[.int .i64 k0, .int .i64 n0, .int .i64 lo0, .int .i64 hi0, .string s0, .int .i64 lv0, .int .u16 (x0 : Int)] 76) = WB at HRa HOa ⊢
          generalize wr.heap.size = q at HOa hqc hqd ⊢
          clear HR hba d0 d1 d2 d3 d4 d5 d6 hb hcr hdr
          have hqz := HOa.out.lt
          have hlen := HRa.out.2.2.2
          have hMB := HM.out.below HRa.out.2.2.1
          have HMB := Lib.hid (hMB.below (Below.refl _ _).drew)
          have HMW := Lib.hid hMB
          have HRD := Lib.hid (HRa.out.1.below (Below.refl _ _).drew)
          have HRE := Lib.hid (HRa.out.2.1.below (Below.refl _ _).drew)
          clear hMB
          obtain ⟨c0, c1, c2, c3, c4, c5, c6⟩ := HOa.out.cells
          simp only at c0 c1 c2 c3 c4 c5 c6
          by_cases h1 : k0 = 1
          · subst h1
            have K1 := readerInt c s bad lo0 hi0 WB.drew HRD.out HMB.out hc7 (by omega)
            have K2 := fun W h => refInt d s bad lo0 hi0 W h (by omega)
            have hl2 := rdStep_len s bad lo0 hi0
            unfold IntPost at K1 K2
            generalize rdStep s bad lo0 hi0 = r1 at K1 K2 hl2
            obtain ⟨m, s1, bad1⟩ := r1
            simp only at K1 K2 hl2
            have K44 := Lib.hid K1
            have K49 := Lib.hid K2
            clear K1 K2
            go_upto_region 15 with fail
            go_region_held3 (fun w' => ∀ o, w'.cell? ⟨q, o, none⟩ = (WB).cell? ⟨q, o, none⟩) (first | exact (fun _ => rfl) | exact ‹_›)
              (first
                | (go_at_call 44; (with_reducible refine (K44.out).mono ?_); rintro e w' ⟨rfl, hr2, hk2⟩; have hq2 := keptQ hk2 hqz hqc)
                | (go_at_call 49; (with_reducible refine (K49.out _ (HRE.out.kept hk2 hdne)).mono ?_); rintro e w'' ⟨rfl, hr3, hk3⟩; have hq3 := keptQ2 hq2 hk3 (Nat.lt_of_lt_of_le hqz hk2.2.2) hqd))
            have HR2 : Hid (TwoAt w c d s1 bad1 w'') := Lib.hid ⟨hr2.kept hk3 hcne, hr3, ((HRa.out.2.2.1.trans ((Below.refl _ WB).drew.mono HRa.out.2.2.1.size)).trans (hk2.1 _ hcw)).trans (hk3.1 _ hdw), by omega⟩
            clear hr2 hk2 hq2 hr3 hk3 hq3 c0 c1 c2 c3 c4 c5 c6
            cases bad1 with
            | true =>
              have K47 := Lib.hid (readerOk c s1 true w''.drew (HR2.out.1.below (Below.refl _ _).drew))
              obtain ⟨_, ⟨_, g1⟩, _, _⟩ := HR2.out.2.1
              go_upto_region 20 with fail
              go_region_held3 (fun w' => ∀ o, w'.cell? ⟨d, o, none⟩ = (w'').cell? ⟨d, o, none⟩) (first | exact (fun _ => rfl) | exact ‹_›)
                (first | (go_at_call 47; (with_reducible refine (K47.out).mono ?_); rintro e w' ⟨rfl, rfl⟩))
              have HR3 := Lib.hid (HR2.out.below (Below.refl _ _).drew)
              clear g1
              go_wp2
              go_roundw
              case rel => first | exact ⟨k + 1, s1, true, by omega, by go_num, HR3.out⟩ | ((repeat apply Exists.intro); exact ⟨⟨k + 1, s1, true, by omega, by go_num, HR3.out⟩, rfl⟩)
              case measure => simp [intOf] <;> omega
            | false =>
              have K47 := Lib.hid (readerOk c s1 false w''.drew (HR2.out.1.below (Below.refl _ _).drew))
              obtain ⟨_, ⟨_, g1⟩, _, _⟩ := HR2.out.2.1
              go_upto_region 20 with fail
              go_region_held3 (fun w' => ∀ o, w'.cell? ⟨d, o, none⟩ = (w'').cell? ⟨d, o, none⟩) (first | exact (fun _ => rfl) | exact ‹_›)
                (first | (go_at_call 47; (with_reducible refine (K47.out).mono ?_); rintro e w' ⟨rfl, rfl⟩))
              have HR3 := Lib.hid (HR2.out.below (Below.refl _ _).drew)
              clear g1
              go_wp2
              go_roundw
              case rel => first | exact ⟨k + 1, s1, false, by omega, by go_num, HR3.out⟩ | ((repeat apply Exists.intro); exact ⟨⟨k + 1, s1, false, by omega, by go_num, HR3.out⟩, rfl⟩)
              case measure => simp [intOf] <;> omega
          · by_cases h2 : k0 = 2
            · subst h2
              have K1 := readerText c s bad hi0 WB.drew HRD.out HMB.out hc7 (by omega)
              have K2 := fun W h => refText d s bad hi0 W h (by omega)
              have hl2 := rdText_len s bad hi0
              unfold TextPost at K1 K2
              generalize rdText s bad hi0 = r1 at K1 K2 hl2
              obtain ⟨m, s1, bad1⟩ := r1
              simp only at K1 K2 hl2
              generalize (⟨m.toArray⟩ : ByteArray) = TM at K1 K2
              have K44 := Lib.hid K1
              have K49 := Lib.hid K2
              clear K1 K2
              go_upto_region 18 with fail
              go_region_held3 (fun w' => ∀ o, w'.cell? ⟨q, o, none⟩ = (WB).cell? ⟨q, o, none⟩) (first | exact (fun _ => rfl) | exact ‹_›)
                (first
                  | (go_at_call 45; (with_reducible refine (K44.out).mono ?_); rintro e w' ⟨rfl, hr2, hk2⟩; have hq2 := keptQ hk2 hqz hqc)
                  | (go_at_call 50; (with_reducible refine (K49.out _ (HRE.out.kept hk2 hdne)).mono ?_); rintro e w'' ⟨rfl, hr3, hk3⟩; have hq3 := keptQ2 hq2 hk3 (Nat.lt_of_lt_of_le hqz hk2.2.2) hqd))
              have HR2 : Hid (TwoAt w c d s1 bad1 w'') := Lib.hid ⟨hr2.kept hk3 hcne, hr3, ((HRa.out.2.2.1.trans ((Below.refl _ WB).drew.mono HRa.out.2.2.1.size)).trans (hk2.1 _ hcw)).trans (hk3.1 _ hdw), by omega⟩
              clear hr2 hk2 hq2 hr3 hk3 hq3 c0 c1 c2 c3 c4 c5 c6
              cases bad1 with
              | true =>
                have K47 := Lib.hid (readerOk c s1 true w''.drew (HR2.out.1.below (Below.refl _ _).drew))
                obtain ⟨_, ⟨_, g1⟩, _, _⟩ := HR2.out.2.1
                go_upto_region 20 with fail
                go_region_held3 (fun w' => ∀ o, w'.cell? ⟨d, o, none⟩ = (w'').cell? ⟨d, o, none⟩) (first | exact (fun _ => rfl) | exact ‹_›)
                  (first | (go_at_call 47; (with_reducible refine (K47.out).mono ?_); rintro e w' ⟨rfl, rfl⟩))
                have HR3 := Lib.hid (HR2.out.below (Below.refl _ _).drew)
                clear g1
                go_wp2
                go_roundw
                case rel => first | exact ⟨k + 1, s1, true, by omega, by go_num, HR3.out⟩ | ((repeat apply Exists.intro); exact ⟨⟨k + 1, s1, true, by omega, by go_num, HR3.out⟩, rfl⟩)
                case measure => simp [intOf] <;> omega
              | false =>
                have K47 := Lib.hid (readerOk c s1 false w''.drew (HR2.out.1.below (Below.refl _ _).drew))
                obtain ⟨_, ⟨_, g1⟩, _, _⟩ := HR2.out.2.1
                go_upto_region 20 with fail
                go_region_held3 (fun w' => ∀ o, w'.cell? ⟨d, o, none⟩ = (w'').cell? ⟨d, o, none⟩) (first | exact (fun _ => rfl) | exact ‹_›)
                  (first | (go_at_call 47; (with_reducible refine (K47.out).mono ?_); rintro e w' ⟨rfl, rfl⟩))
                have HR3 := Lib.hid (HR2.out.below (Below.refl _ _).drew)
                clear g1
                go_wp2
                go_roundw
                case rel => first | exact ⟨k + 1, s1, false, by omega, by go_num, HR3.out⟩ | ((repeat apply Exists.intro); exact ⟨⟨k + 1, s1, false, by omega, by go_num, HR3.out⟩, rfl⟩)
                case measure => simp [intOf] <;> omega
            · have K1 := refInt d s bad 0 7 WB HRa.out.2.1 (by omega)
              have KL := fun W (h : RdAt c s bad W) (hm : Met W) => readerLabel c s bad W h hm hc7 (by omega)
              have hl2 := rdLabel_len s bad
              have hrl := rdLabel_eq s bad
              have hl1 := rdStep_len s bad 0 7
              have hbd1 := @rdStep_bounds s bad 0 7
              unfold IntPost at K1
              unfold LblPost at KL
              generalize rdLabel s bad = rl at KL hl2 hrl
              generalize rdStep s bad 0 7 = r1 at K1 hl1 hrl hbd1
              obtain ⟨m, s1, bad1⟩ := r1
              simp only at K1 hl1 hrl hbd1
              have K2 := fun W h => refInt d s1 bad1 0 65535 W h (by omega)
              have hbd2 := @rdStep_bounds s1 bad1 0 65535
              unfold IntPost at K2
              generalize rdStep s1 bad1 0 65535 = r2 at K2 hrl hbd2
              obtain ⟨m2, s2, bad2⟩ := r2
              simp only at K2 hrl hbd2
              have HBD2 := Lib.hid hbd2
              have HRL := Lib.hid hrl
              have HL2 := Lib.hid hl2
              have HKL := Lib.hid KL
              have HK2 := Lib.hid K2
              clear hbd1 hbd2 hrl hl2 KL K2 hl1
              go_wp2_with fail
              refine K1.mono ?_
              rintro e w1 ⟨rfl, hr1, hk1⟩
              have HC1 := Lib.hid (HRa.out.1.kept hk1 hcne)
              have HD1 := Lib.hid hr1
              have HB1 := Lib.hid (HRa.out.2.2.1.trans (hk1.1 _ hdw))
              have hz1 : d < w1.heap.size := hr1.1
              have hz1c : c < w1.heap.size := HC1.out.1
              clear K1 hr1 hk1 c0 c1 c2 c3 c4 c5 c6
              go_wp2_with fail
              have hba := below1 w1 (.cells #[.int .i64 m, .int .u16 0] 26)
              refine (HK2.out _ (HD1.out.below hba)).mono ?_
              rintro e w2 ⟨rfl, hr2, hk2⟩
              have HX := Lib.hid ((BxAt.mk w1 m 0).kept hk2 (by omega))
              have HC2 := Lib.hid ((HC1.out.below hba).kept hk2 hcne)
              have HD2 := Lib.hid hr2
              have HB2 := Lib.hid ((HB1.out.trans (hba.mono HB1.out.size)).trans (hk2.1 _ hdw))
              have hpw : w.heap.size ≤ w1.heap.size := HB1.out.size
              clear hr2 hk2 hba
              generalize w1.heap.size = p at HX hz1 hz1c hpw ⊢
              have hpc : c ≠ p := by omega
              have hpd : d ≠ p := by omega
              have hpd' : p ≠ d := by omega
              have hpc' : p ≠ c := by omega
              obtain ⟨hxz, x0c, x1c, xf0, xf1⟩ := HX.out
              cases bad2 with
              | true =>
                have hre : rl = ((0, 0), s2, true) := HRL.out
                obtain ⟨hdz, ⟨e0, e1⟩, _, _⟩ := HD2.out
                subst hre
                have hN := hN 0 0
                have HC3 := Lib.hid ((((HC2.out.setO hpc 1 (.int .u16 (IntKind.u16.wrap m2))).setO hpc 0 (.int .i64 0)).setO hpc 1 (.int .u16 0)))
                have HD3 := Lib.hid ((((HD2.out.setO hpd 1 (.int .u16 (IntKind.u16.wrap m2))).setO hpd 0 (.int .i64 0)).setO hpd 1 (.int .u16 0)))
                have HB3 := Lib.hid (((HB2.out.setCell (p := ⟨p, 1, none⟩) hpw (.int .u16 (IntKind.u16.wrap m2))).setCell (p := ⟨p, 0, none⟩) hpw (.int .i64 0)).setCell (p := ⟨p, 1, none⟩) hpw (.int .u16 0))
                have HMZ := Lib.hid (HM.out.below HB3.out)
                go_upto_region 12 with fail
                have hcells : ((((w2.setCell ⟨p, 1, none⟩ (.int .u16 (IntKind.u16.wrap m2))).setCell ⟨p, 0, none⟩ (.int .i64 0)).setCell ⟨p, 1, none⟩ (.int .u16 0))).cell? ⟨p, 0, none⟩ = some (.int .i64 0) ∧ ((((w2.setCell ⟨p, 1, none⟩ (.int .u16 (IntKind.u16.wrap m2))).setCell ⟨p, 0, none⟩ (.int .i64 0)).setCell ⟨p, 1, none⟩ (.int .u16 0))).cell? ⟨p, 1, none⟩ = some (.int .u16 0) := by
                  constructor <;> go_simp
                have hpz : p < ((((w2.setCell ⟨p, 1, none⟩ (.int .u16 (IntKind.u16.wrap m2))).setCell ⟨p, 0, none⟩ (.int .i64 0)).setCell ⟨p, 1, none⟩ (.int .u16 0))).heap.size := by simpa using hxz
                generalize ((w2.setCell ⟨p, 1, none⟩ (.int .u16 (IntKind.u16.wrap m2))).setCell ⟨p, 0, none⟩ (.int .i64 0)).setCell ⟨p, 1, none⟩ (.int .u16 0) = WZ at HC3 HD3 HB3 HMZ hcells hpz ⊢
                obtain ⟨g0, g1⟩ := hcells
                clear x0c x1c xf0 xf1 e0 e1 hxz
                have K51 : Hid (Calls Tryd.prog 51 #[.pointer (some ⟨c, 0, none⟩)] WZ.drew fun e w' => e = .returned (.agg #[.int .i64 0, .int .u16 0]) ∧ RdAt c s2 true w' ∧ KeptB c WZ.drew w') := Lib.hid (HKL.out WZ.drew (HC3.out.below (Below.refl _ _).drew) (HMZ.out.below (Below.refl _ _).drew))
                have hN : ∀ W, (binOp .neq 26 (.agg #[.int .i64 0, .int .u16 0]) (.agg #[.int .i64 0, .int .u16 0])).run Tryd.prog W = .ok (.bool false) W := hN
                go_region_held3 (fun w' => ∀ o, w'.cell? ⟨p, o, none⟩ = (WZ).cell? ⟨p, o, none⟩) (first | exact (fun _ => rfl) | exact ‹_›)
                  (first | (go_at_call 51; (with_reducible refine (K51.out).mono ?_); rintro e w'' ⟨rfl, hr3, hk3⟩; have hq3 := keptQ hk3 hpz hpc'))
                have HR2 : Hid (TwoAt w c d s2 true w'') := Lib.hid ⟨hr3, (HD3.out.below (Below.refl _ _).drew).kept hk3 hdne, (HB3.out.trans ((Below.refl _ WZ).drew.mono HB3.out.size)).trans (hk3.1 _ hcw), by have := HL2.out; (try simp only at this); omega⟩
                clear hr3 hk3 hq3 g0 g1
                have K47 := Lib.hid (readerOk c s2 true w''.drew (HR2.out.1.below (Below.refl _ _).drew))
                obtain ⟨_, ⟨_, g1⟩, _, _⟩ := HR2.out.2.1
                go_upto_region 20 with fail
                go_region_held3 (fun w' => ∀ o, w'.cell? ⟨d, o, none⟩ = (w'').cell? ⟨d, o, none⟩) (first | exact (fun _ => rfl) | exact ‹_›)
                  (first | (go_at_call 47; (with_reducible refine (K47.out).mono ?_); rintro e w' ⟨rfl, rfl⟩))
                have HR3 := Lib.hid (HR2.out.below (Below.refl _ _).drew)
                clear g1
                go_wp2
                go_roundw
                case rel => first | exact ⟨k + 1, s2, true, by omega, by go_num, HR3.out⟩ | ((repeat apply Exists.intro); exact ⟨⟨k + 1, s2, true, by omega, by go_num, HR3.out⟩, rfl⟩)
                case measure => simp [intOf] <;> omega
              | false =>
                have hre : rl = ((m, m2.toNat), s2, false) := HRL.out
                obtain ⟨hdz, ⟨e0, e1⟩, _, _⟩ := HD2.out
                subst hre
                have hb2 := HBD2.out rfl
                have hmw : IntKind.u16.wrap m2 = m2 := by simp [IntKind.wrap, IntKind.signed, IntKind.bits]; omega
                have hmn : ((m2.toNat : Nat) : Int) = m2 := by omega
                have hN := hN m m2.toNat
                rw [hmn] at hN
                have HC3 := Lib.hid (HC2.out.setO hpc 1 (.int .u16 m2))
                have HD3 := Lib.hid (HD2.out.setO hpd 1 (.int .u16 m2))
                have HB3 := Lib.hid (HB2.out.setCell (p := ⟨p, 1, none⟩) hpw (.int .u16 m2))
                have HMZ := Lib.hid (HM.out.below HB3.out)
                go_upto_region 12 with fail
                have hcells : (w2.setCell ⟨p, 1, none⟩ (.int .u16 m2)).cell? ⟨p, 0, none⟩ = some (.int .i64 m) ∧ (w2.setCell ⟨p, 1, none⟩ (.int .u16 m2)).cell? ⟨p, 1, none⟩ = some (.int .u16 m2) := by
                  constructor <;> go_simp
                have hpz : p < (w2.setCell ⟨p, 1, none⟩ (.int .u16 m2)).heap.size := by simpa using hxz
                generalize w2.setCell ⟨p, 1, none⟩ (.int .u16 m2) = WZ at HC3 HD3 HB3 HMZ hcells hpz ⊢
                obtain ⟨g0, g1⟩ := hcells
                clear x0c x1c xf0 xf1 e0 e1 hxz
                have K51 : Hid (Calls Tryd.prog 51 #[.pointer (some ⟨c, 0, none⟩)] WZ.drew fun e w' => e = .returned (.agg #[.int .i64 m, .int .u16 m2]) ∧ RdAt c s2 false w' ∧ KeptB c WZ.drew w') := Lib.hid (by
                  have := HKL.out WZ.drew (HC3.out.below (Below.refl _ _).drew) (HMZ.out.below (Below.refl _ _).drew)
                  (try simp only at this)
                  rwa [hmn] at this)
                go_region_held3 (fun w' => ∀ o, w'.cell? ⟨p, o, none⟩ = (WZ).cell? ⟨p, o, none⟩) (first | exact (fun _ => rfl) | exact ‹_›)
                  (first | (go_at_call 51; (with_reducible refine (K51.out).mono ?_); rintro e w'' ⟨rfl, hr3, hk3⟩; have hq3 := keptQ hk3 hpz hpc'))
                have HR2 : Hid (TwoAt w c d s2 false w'') := Lib.hid ⟨hr3, (HD3.out.below (Below.refl _ _).drew).kept hk3 hdne, (HB3.out.trans ((Below.refl _ WZ).drew.mono HB3.out.size)).trans (hk3.1 _ hcw), by have := HL2.out; (try simp only at this); omega⟩
                clear hr3 hk3 hq3 g0 g1
                have K47 := Lib.hid (readerOk c s2 false w''.drew (HR2.out.1.below (Below.refl _ _).drew))
                obtain ⟨_, ⟨_, g1⟩, _, _⟩ := HR2.out.2.1
                go_upto_region 20 with fail
                go_region_held3 (fun w' => ∀ o, w'.cell? ⟨d, o, none⟩ = (w'').cell? ⟨d, o, none⟩) (first | exact (fun _ => rfl) | exact ‹_›)
                  (first | (go_at_call 47; (with_reducible refine (K47.out).mono ?_); rintro e w' ⟨rfl, rfl⟩))
                have HR3 := Lib.hid (HR2.out.below (Below.refl _ _).drew)
                clear g1
                go_wp2
                go_roundw
                case rel => first | exact ⟨k + 1, s2, false, by omega, by go_num, HR3.out⟩ | ((repeat apply Exists.intro); exact ⟨⟨k + 1, s2, false, by omega, by go_num, HR3.out⟩, rfl⟩)
                case measure => simp [intOf] <;> omega
        · obtain rfl : k = xs.length := by omega
          obtain ⟨hdz, ⟨e0, e1⟩, _, _⟩ := HR.out.2.1
          have K46 := Lib.hid (readerDone c s bad wr.drew (HR.out.1.below (Below.refl _ _).drew))
          have hnil := nilStr s
          generalize (⟨s.toArray⟩ : ByteArray) = TS at e0 hnil
          generalize s.isEmpty = ie at K46 hnil
          cases bad with
          | true =>
            go_upto_region 23 with fail
            refine wp_region_held_drew (S := (fun w' => ∀ o, w'.cell? ⟨d, o, none⟩ = (wr).cell? ⟨d, o, none⟩)) (by kernel_rfl) (fun _ => rfl) (fun hHeld => ?_)
            try dsimp only [List.size_toArray, List.length_cons, List.length_nil]
            refine takeL (i := 0) rfl (v := ?v0a) (by kernel_rfl) (by kernel_rfl) (by kernel_rfl) (fun _ _ _ h => h) (Or.inl ⟨by rfl, fun _w _hSw => ?hy0a⟩) (by assumption) ?rest0a
            case hy0a =>
              (try dsimp only at _hSw)
              go_simp
              try with_reducible rfl
            try simp only [Act.put, List.setIfInBounds_toArray, List.set_cons_zero, List.set_cons_succ]
            refine takeL (i := 2) rfl (v := ?v2a) (by kernel_rfl) (by kernel_rfl) (by kernel_rfl) (fun _ _ _ h => h) (Or.inl ⟨by rfl, fun _w _hSw => ?hy2a⟩) (by assumption) ?rest2a
            case hy2a =>
              (try dsimp only at _hSw)
              go_simp
              try with_reducible rfl
            try simp only [Act.put, List.setIfInBounds_toArray, List.set_cons_zero, List.set_cons_succ]
            refine takeL (i := 3) rfl (v := ?v3a) (by kernel_rfl) (by kernel_rfl) (by kernel_rfl) (fun _ _ _ h => h) (Or.inl ⟨by rfl, fun _w _hSw => ?hy3a⟩) (by assumption) ?rest3a
            case hy3a =>
              (try dsimp only at _hSw)
              go_simp
              try with_reducible rfl
            try simp only [Act.put, List.setIfInBounds_toArray, List.set_cons_zero, List.set_cons_succ]
            refine takeL (i := 4) rfl (v := ?v4a) (by kernel_rfl) (by kernel_rfl) (by kernel_rfl) (fun _ _ _ h => h) (Or.inl ⟨by rfl, fun _w _hSw => ?hy4a⟩) (by assumption) ?rest4a
            case hy4a =>
              (try dsimp only at _hSw)
              go_simp
              try with_reducible rfl
            try simp only [Act.put, List.setIfInBounds_toArray, List.set_cons_zero, List.set_cons_succ]
            refine takeL (i := 5) rfl (v := ?v5a) (by kernel_rfl) (by kernel_rfl) (by kernel_rfl) (fun _ _ _ h => h) (Or.inl ⟨by rfl, fun _w _hSw => ?hy5a⟩) (by assumption) ?rest5a
            case hy5a =>
              (try dsimp only at _hSw)
              go_simp
              try with_reducible rfl
            try simp only [Act.put, List.setIfInBounds_toArray, List.set_cons_zero, List.set_cons_succ]
            refine takeL (i := 6) rfl (v := ?v6a) (by kernel_rfl) (by kernel_rfl) (by kernel_rfl) (fun _ _ _ h => h) (Or.inl ⟨by rfl, fun _w _hSw => ?hy6a⟩) (by assumption) ?rest6a
            case hy6a =>
              (try dsimp only at _hSw)
              go_simp
              try with_reducible rfl
            try simp only [Act.put, List.setIfInBounds_toArray, List.set_cons_zero, List.set_cons_succ]
            refine wpAnyH_ready (rs := [1]) (by kernel_rfl) (by simp) (readyL rfl (fun K hK => ?_) AllReadyH.nil)
            go_simp
            with_reducible refine (K46.out).mono ?_
            rintro e w' ⟨rfl, rfl⟩
            try dsimp only
            refine hK.out _ _ ‹_› (fun hHeld => ?_)
            clear hK K
            try simp only [Act.put, List.setIfInBounds_toArray, List.set_cons_zero, List.set_cons_succ]
            refine takeL (i := 7) rfl (v := ?v7a) (by kernel_rfl) (by kernel_rfl) (by kernel_rfl) (fun _ _ _ h => h) (Or.inl ⟨by rfl, fun _w _hSw => ?hy7a⟩) (by assumption) ?rest7a
            case hy7a =>
              (try dsimp only at _hSw)
              go_simp
              try with_reducible rfl
            try simp only [Act.put, List.setIfInBounds_toArray, List.set_cons_zero, List.set_cons_succ]
            refine takeL (i := 8) rfl (v := undef) (by kernel_rfl) (by kernel_rfl) (by kernel_rfl) (fun _ _ _ h => h) (Or.inr ⟨by rfl, rfl⟩) (by assumption) ?_
            try simp only [Act.put, List.setIfInBounds_toArray, List.set_cons_zero, List.set_cons_succ]
            refine takeL (i := 9) rfl (v := undef) (by kernel_rfl) (by kernel_rfl) (by kernel_rfl) (fun _ _ _ h => h) (Or.inr ⟨by rfl, rfl⟩) (by assumption) ?_
            try simp only [Act.put, List.setIfInBounds_toArray, List.set_cons_zero, List.set_cons_succ]
            refine takeL (i := 10) rfl (v := undef) (by kernel_rfl) (by kernel_rfl) (by kernel_rfl) (fun _ _ _ h => h) (Or.inr ⟨by rfl, rfl⟩) (by assumption) ?_
            try simp only [Act.put, List.setIfInBounds_toArray, List.set_cons_zero, List.set_cons_succ]
            refine takeL (i := 11) rfl (v := undef) (by kernel_rfl) (by kernel_rfl) (by kernel_rfl) (fun _ _ _ h => h) (Or.inr ⟨by rfl, rfl⟩) (by assumption) ?_
            try simp only [Act.put, List.setIfInBounds_toArray, List.set_cons_zero, List.set_cons_succ]
            refine takeL (i := 12) rfl (v := undef) (by kernel_rfl) (by kernel_rfl) (by kernel_rfl) (fun _ _ _ h => h) (Or.inr ⟨by rfl, rfl⟩) (by assumption) ?_
            try simp only [Act.put, List.setIfInBounds_toArray, List.set_cons_zero, List.set_cons_succ]
            refine takeL (i := 13) rfl (v := ?v13a) (by kernel_rfl) (by kernel_rfl) (by kernel_rfl) (fun _ _ _ h => h) (Or.inl ⟨by rfl, fun _w _hSw => ?hy13a⟩) (by assumption) ?rest13a
            case hy13a =>
              (try dsimp only at _hSw)
              go_simp
              try with_reducible rfl
            try simp only [Act.put, List.setIfInBounds_toArray, List.set_cons_zero, List.set_cons_succ]
            refine takeL (i := 14) rfl (v := ?v14a) (by kernel_rfl) (by kernel_rfl) (by kernel_rfl) (fun _ _ _ h => h) (Or.inl ⟨by rfl, fun _w _hSw => ?hy14a⟩) (by assumption) ?rest14a
            case hy14a =>
              (try dsimp only at _hSw)
              go_simp
              try with_reducible rfl
            try simp only [Act.put, List.setIfInBounds_toArray, List.set_cons_zero, List.set_cons_succ]
            refine takeL (i := 15) rfl (v := ?v15a) (by kernel_rfl) (by kernel_rfl) (by kernel_rfl) (fun _ _ _ h => h) (Or.inl ⟨by rfl, fun _w _hSw => ?hy15a⟩) (by assumption) ?rest15a
            case hy15a =>
              (try dsimp only at _hSw)
              go_simp
              try with_reducible rfl
            try simp only [Act.put, List.setIfInBounds_toArray, List.set_cons_zero, List.set_cons_succ]
            refine wpAnyH_done (by kernel_rfl) ?_ _
            go_wp2
            go_ret
            exact ⟨by simp, HR.out.2.2.1.drew⟩
          | false =>
            go_upto_region 23 with fail
            go_region_held3 (fun w' => ∀ o, w'.cell? ⟨d, o, none⟩ = (wr).cell? ⟨d, o, none⟩) (first | exact (fun _ => rfl) | exact ‹_›)
              (first | (go_at_call 46; (with_reducible refine (K46.out).mono ?_); rintro e w' ⟨rfl, rfl⟩))
            go_wp2
            go_ret
            exact ⟨by simp, HR.out.2.2.1.drew⟩
end Go.Proofs.YtpkmgdpnimecfabDoor

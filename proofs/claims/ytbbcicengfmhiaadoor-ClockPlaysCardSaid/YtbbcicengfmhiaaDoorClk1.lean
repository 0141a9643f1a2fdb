/- clock.load. Conditions: sizes. -/
import Derived.Test.YtbbcicengfmhiaaDoorSec4
import Derived.Test.YtbbcicengfmhiaaDoorDsk5
import Derived.Test.YtbbcicengfmhiaaDoorClk0
namespace Go.Proofs.YtbbcicengfmhiaaDoor
set_option maxRecDepth 100000
open Go.RowKit

theorem eqGuardP : Tryd.prog.eqGuardType Tryd.prog.depth 196 = false := by kernel_rfl
theorem fieldsP : Tryd.prog.underlying 196 = some (.struct (Tryd.prog.fieldsOf 196)) := by kernel_rfl
theorem heldP : Tryd.prog.stoodInHeld 196 = false := by kernel_rfl
theorem run_neqP (p : Pc) (w : World) : (binOp .neq 196 (.agg #[.int .u64 ((p.stamp : Nat) : Int), .int .i64 (p.gen), .int .i64 (p.no), .int .i64 (p.index), .int .i64 (p.total), .string ⟨((p.data : List UInt8)).toArray⟩]) (.agg #[.int .u64 ((p.stamp : Nat) : Int), .int .i64 0, .int .i64 0, .int .i64 0, .int .i64 1, .string ⟨((p.data : List UInt8)).toArray⟩])).run Tryd.prog w = .ok (.bool (!loneP p)) w := by
  have hu := Tryd.underlying3
  have ha := Tryd.isAgg3
  have hz := Tryd.sizeOf3
  have hu2 := Tryd.underlying100
  have ha2 := Tryd.isAgg100
  have hz2 := Tryd.sizeOf100
  have hu3 := Tryd.underlying9
  have ha3 := Tryd.isAgg9
  have hz3 := Tryd.sizeOf9
  rw [run_neq_struct, show (10000 : Nat) = 9999 + 1 from rfl, run_equalIn_agg w 9999 196 _ _ fieldsP heldP]
  simp only [Program.fieldsOf, Tryd.underlying196]
  unfold loneP
  obtain ⟨st, ge, no, ix, tt, d⟩ := p
  dsimp only
  cases h1 : (ge == 0) <;> cases h2 : (no == 0) <;> cases h3 : (ix == 0) <;> cases h4 : (tt == 1) <;> go_simp
theorem rdC_le (s : List UInt8) (bad : Bool) (lo hi : Int) : (rdStep s bad lo hi).2.1.length ≤ s.length := by
  cases hb : (rdStep s bad lo hi).2.2 with
  | false => exact (rdStep_bounds hb).2.2
  | true =>
    unfold rdStep at hb ⊢
    split
    · simp
    · rename_i h
      split
      · rename_i n r hr
        rw [if_neg h] at hb
        simp [hr] at hb
      · simp
theorem KeptB.fresh {b c : Nat} {w w1 w2 : World} (h : KeptB c w w1) (k : KeptB b w1 w2) (hb : w.heap.size ≤ b) (hcb : c ≤ b) : KeptB c w w2 :=
  ⟨fun B hB => (h.1 B hB).trans (k.1 B (by omega)), fun q h1 h2 => (k.2.1 q (Nat.lt_of_lt_of_le h1 h.2.2) (by omega)).trans (h.2.1 q h1 h2), Nat.le_trans h.2.2 k.2.2⟩
theorem BlkIs.keptB {b q : Nat} {w w' : World} {cs : List Value} {T : TypeId} (h : BlkIs w q cs T) (hk : KeptB b w w') (hne : q ≠ b) : BlkIs w' q cs T := h.of (hk.2.1 q h.lt hne)
/-- a clock lies there -/
def CkAt (c d base : Nat) (k : Ck) (w : World) : Prop := BlkIs w c [.pointer (some ⟨d, 0, none⟩), .int .i64 (base : Int), .int .i64 k.time, .int .i64 k.boot, .int .u64 (k.n : Int)] 156
theorem CkAt.below {c d base : Nat} {k : Ck} {w w' : World} (h : CkAt c d base k w) (hb : Below w.heap.size w w') : CkAt c d base k w' := BlkIs.below h hb
theorem ldC_none {k : Ck} {s : List UInt8} {place : Nat} (h : readP s = none) : ldC k s place = k := by unfold ldC; rw [h]
theorem ldC_some {k : Ck} {s : List UInt8} {place : Nat} {p : Pc} (h : readP s = some p) : ldC k s place = if mayP k p place = true then takeC k p else k := by unfold ldC; rw [h]
set_option maxHeartbeats 4000000 in
theorem clkLoad (c d g base place : Nat) (k : Ck) (K : List (List UInt8)) (armed : Int) (bits : Nat) (writes : Int) (w : World) (hC : CkAt c d base k w) (hD : DkAt d g K (.slice none 0 0) [] false armed bits writes w)
    (hp : base + place < K.length) (hK : K.length ≤ 4096) (hpl : place < 2) (hn : k.n < 18446744073709551616) (hM : Met w) (h9 : 9 ≤ c) :
    Calls Tryd.prog 102 #[.pointer (some ⟨c, 0, none⟩), .int .i64 (place : Nat)] w fun e w' => e = .returned (.tuple #[]) ∧ CkAt c d base (ldC k K[base + place]! place) w' ∧ KeptB c w w' := by
  have c0 := hC.cell 0
  have c1 := hC.cell 1
  simp only [List.getElem?_cons_zero, List.getElem?_cons_succ] at c0 c1
  have hcz := hC.lt
  have hdb : Below w.heap.size w w.drew := (Below.refl _ _).drew
  have KR := Lib.hid (show Calls Tryd.prog 136 #[.pointer (some ⟨d, 0, none⟩), .int .i64 ((base : Int) + (place : Int))] w.drew fun e w' => e = .returned (.tuple #[.string ⟨(K[base + place]!).toArray⟩, .int .i64 0]) ∧ Below w.heap.size w.drew w' from
    dskRead d g K (.slice none 0 0) [] armed bits writes (base + place) w.drew (hD.below hdb) hp hK (by simp))
  have HC := Lib.hid (show CkAt c d base k w.drew from hC)
  have HM := Lib.hid (show Met w.drew from hM.below hdb)
  have hsl := hD.1.2.1 (base + place) hp
  have hb1 : (base : Int) ≤ 4096 := by omega
  have hb2 : (place : Int) ≤ 1 := by omega
  have hws : IntKind.i64.wrap ((base : Int) + (place : Int)) = (base : Int) + (place : Int) := by simp [IntKind.wrap, IntKind.signed, IntKind.bits]; omega
  clear hC hD hM hdb
  generalize K[base + place]! = s at *
  go_enter Tryd.func102, Tryd.ntmps102
  go_wp2_with fail
  go_region_held3 (fun w' => (∀ b o, b < (w).heap.size → w'.cell? ⟨b, o, none⟩ = (w).cell? ⟨b, o, none⟩) ∧ Below (w).heap.size (w) w') (first | exact stay0 _ | exact stay ‹_› ‹_›)
    ((go_at_call 136; (with_reducible refine KR.out.mono ?_); rintro e w1 ⟨rfl, hb⟩))
  have HC := Lib.hid (HC.out.below (show Below w.drew.heap.size w.drew w1 from hb))
  have HM := Lib.hid (HM.out.below (show Below w.drew.heap.size w.drew w1 from hb))
  have HK := Lib.hid (KeptB.of hcz (show Below w.heap.size w w1 from (Below.refl _ _).drew.trans hb))
  clear hb c0 c1
  go_wp2_with fail
  refine (secRead s w1 (by omega)).mono ?_
  rintro e w2 ⟨hr, hb⟩
  have HC := Lib.hid (HC.out.below hb)
  have HM := Lib.hid (HM.out.below hb)
  have HK := Lib.hid (HK.out.trans (KeptB.of (by have := HK.out.2.2; omega) hb))
  clear hb
  have c4 := HC.out.cell 4
  simp only [List.getElem?_cons_zero, List.getElem?_cons_succ] at c4
  have hcz2 : c < w2.heap.size := HC.out.lt
  rcases hr with ⟨p, hr, rfl⟩ | ⟨hr, rfl⟩
  · have HE := Lib.hid (ldC_some (k := k) (place := place) hr)
    have hcp := run_neqP p
    have HMP := Lib.hid (show mayP k p place = (loneP p && (decide (k.n < p.stamp) && (decide (p.stamp ≤ 4611686018427387904) && decide (p.stamp % 2 = place)))) from rfl)
    have HTK := Lib.hid (show takeC k p = if doneB (two p.data).2.2 = true then ⟨p.stamp, (two p.data).1, (two p.data).2.1⟩ else k from rfl)
    have HS := Lib.hid (readP_tail hr)
    have hst : p.stamp < 18446744073709551616 := by
      have h1 := val_lt (s.take 8)
      have h2 : (s.take 8).length ≤ 8 := by simp; omega
      have h3 : 256 ^ (s.take 8).length ≤ 256 ^ 8 := Nat.pow_le_pow_right (by decide) h2
      rw [HS.out.2.2]
      omega
    have hdl : p.data.length ≤ 64 := by
      unfold readP at hr
      split at hr
      · split at hr
        · cases hr
          simp only [pieceP]
          rw [List.length_take, List.length_drop]
          omega
        · cases hr
      · cases hr
    obtain ⟨st, ge, no, ix, tt, dt⟩ := p
    dsimp only at hcp hst hdl
    clear hr
    generalize loneP ⟨st, ge, no, ix, tt, dt⟩ = b0 at hcp HMP
    obtain ⟨n, kt, kb⟩ := k
    dsimp only at hn c4 HMP HTK
    have hb2 := below2 w2 (.cells #[.int .u64 (st : Int), .int .i64 ge, .int .i64 no, .int .i64 ix, .int .i64 tt, .string ⟨dt.toArray⟩] 196) (.cells #[.int .u64 (st : Int), .int .i64 0, .int .i64 0, .int .i64 0, .int .i64 1, .string ⟨dt.toArray⟩] 196)
    have HC2 := Lib.hid (HC.out.below hb2)
    have HM2 := Lib.hid (HM.out.below hb2)
    have HK2 := Lib.hid (HK.out.trans (KeptB.of hcz2 hb2))
    clear hb2
    have HN0 := Lib.hid (fun h : (b0 && (decide (n < st) && (decide (st ≤ 4611686018427387904) && decide (st % 2 = place)))) = false => show ldC ⟨n, kt, kb⟩ s place = ⟨n, kt, kb⟩ by rw [HE.out, HMP.out, h]; rfl)
    cases b0 with
    | false =>
      go_wp2
      go_quiet (fail)
      go_wp2
      refine bodyPost_ret (v := .tuple #[]) (by simp [results, go_sem]; try rfl) rfl ?_
      exact ⟨rfl, by rw [HN0.out rfl]; exact HC2.out, HK2.out.trans (KeptB.of (by have := HK2.out.2.2; omega) (belowN (Below.refl _ _) _))⟩
    | true =>
    cases q1 : decide (st ≤ n) with
    | true =>
      have HQ := Lib.hid (show (true && (decide (n < st) && (decide (st ≤ 4611686018427387904) && decide (st % 2 = place)))) = false by
        have : decide (n < st) = false := by simp only [decide_eq_true_eq] at q1; simp; omega
        rw [this]; rfl)
      go_wp2
      go_quiet (fail)
      go_wp2
      refine bodyPost_ret (v := .tuple #[]) (by simp [results, go_sem]; try rfl) rfl ?_
      exact ⟨rfl, by rw [HN0.out HQ.out]; exact HC2.out, HK2.out.trans (KeptB.of (by have := HK2.out.2.2; omega) (belowN (Below.refl _ _) _))⟩
    | false =>
    have H1 := Lib.hid (show decide (n < st) = true by simp only [decide_eq_false_iff_not] at q1; simp; omega)
    cases q2 : decide ((4611686018427387904 : Int) < (st : Int)) with
    | true =>
      have HQ := Lib.hid (show (true && (decide (n < st) && (decide (st ≤ 4611686018427387904) && decide (st % 2 = place)))) = false by
        have : decide (st ≤ 4611686018427387904) = false := by simp only [decide_eq_true_eq] at q2; simp; omega
        rw [this]; simp)
      go_wp2
      go_quiet (fail)
      go_wp2
      refine bodyPost_ret (v := .tuple #[]) (by simp [results, go_sem]; try rfl) rfl ?_
      exact ⟨rfl, by rw [HN0.out HQ.out]; exact HC2.out, HK2.out.trans (KeptB.of (by have := HK2.out.2.2; omega) (belowN (Below.refl _ _) _))⟩
    | false =>
    have H2 := Lib.hid (show decide (st ≤ 4611686018427387904) = true by simp only [decide_eq_false_iff_not] at q2; simp; omega)
    cases q3 : ((st : Int) % 2 != (place : Int)) with
    | true =>
      have HQ := Lib.hid (show (true && (decide (n < st) && (decide (st ≤ 4611686018427387904) && decide (st % 2 = place)))) = false by
        have : decide (st % 2 = place) = false := by simp only [bne_iff_ne, ne_eq] at q3; simp; omega
        rw [this]; simp)
      go_wp2
      go_quiet (fail)
      go_wp2
      refine bodyPost_ret (v := .tuple #[]) (by simp [results, go_sem]; try rfl) rfl ?_
      exact ⟨rfl, by rw [HN0.out HQ.out]; exact HC2.out, HK2.out.trans (KeptB.of (by have := HK2.out.2.2; omega) (belowN (Below.refl _ _) _))⟩
    | false =>
    have H3 := Lib.hid (show decide (st % 2 = place) = true by
      have q4 : ¬ ((st : Int) % 2 ≠ (place : Int)) := fun h => by
        have : ((st : Int) % 2 != (place : Int)) = true := by simpa using h
        rw [this] at q3
        cases q3
      simp
      omega)
    have HL := Lib.hid (show ldC ⟨n, kt, kb⟩ s place = if doneB (two dt).2.2 = true then ⟨st, (two dt).1, (two dt).2.1⟩ else ⟨n, kt, kb⟩ by
      rw [HE.out, HMP.out, H1.out, H2.out, H3.out, HTK.out]
      rfl)
    have hX0 := BlkIs.alloc w2 [.int .u64 (st : Int), .int .i64 ge, .int .i64 no, .int .i64 ix, .int .i64 tt, .string ⟨dt.toArray⟩] 196
    have HX := Lib.hid (hX0.below (below1 _ (.cells #[.int .u64 (st : Int), .int .i64 0, .int .i64 0, .int .i64 0, .int .i64 1, .string ⟨dt.toArray⟩] 196)))
    clear hX0
    go_wp2
    go_quiet (fail)
    have hbn := belowN (Below.refl (((w2.alloc (.cells #[.int .u64 (st : Int), .int .i64 ge, .int .i64 no, .int .i64 ix, .int .i64 tt, .string ⟨dt.toArray⟩] 196)).alloc (.cells #[.int .u64 (st : Int), .int .i64 0, .int .i64 0, .int .i64 0, .int .i64 1, .string ⟨dt.toArray⟩] 196))).heap.size ((w2.alloc (.cells #[.int .u64 (st : Int), .int .i64 ge, .int .i64 no, .int .i64 ix, .int .i64 tt, .string ⟨dt.toArray⟩] 196)).alloc (.cells #[.int .u64 (st : Int), .int .i64 0, .int .i64 0, .int .i64 0, .int .i64 1, .string ⟨dt.toArray⟩] 196))) nq
    have HX := Lib.hid (HX.out.below hbn)
    have HC := Lib.hid (HC2.out.below hbn)
    have HM := Lib.hid (HM2.out.below hbn)
    have HK := Lib.hid (HK2.out.trans (KeptB.of (by have := HK2.out.2.2; omega) hbn))
    clear hbn HC2 HM2 HK2 q1 q2 q3 c4 hcp
    have hqw : w2.heap.size < (((w2.alloc (.cells #[.int .u64 (st : Int), .int .i64 ge, .int .i64 no, .int .i64 ix, .int .i64 tt, .string ⟨dt.toArray⟩] 196)).alloc (.cells #[.int .u64 (st : Int), .int .i64 0, .int .i64 0, .int .i64 0, .int .i64 1, .string ⟨dt.toArray⟩] 196)).drewN nq).heap.size := HX.out.lt
    generalize (((w2.alloc (.cells #[.int .u64 (st : Int), .int .i64 ge, .int .i64 no, .int .i64 ix, .int .i64 tt, .string ⟨dt.toArray⟩] 196)).alloc (.cells #[.int .u64 (st : Int), .int .i64 0, .int .i64 0, .int .i64 0, .int .i64 1, .string ⟨dt.toArray⟩] 196)).drewN nq) = W3 at *
    generalize w2.heap.size = q at *
    have x5 := HX.out.cell 5
    simp only [List.getElem?_cons_zero, List.getElem?_cons_succ] at x5
    go_wp2_with fail
    have HKW := Lib.hid (show w.heap.size ≤ W3.heap.size from HK.out.2.2)
    refine (readerNew ⟨dt.toArray⟩ _).mono ?_
    rintro e w3 ⟨rfl, hr3, hb⟩
    have HX := Lib.hid (HX.out.below hb)
    have HC := Lib.hid (HC.out.below hb)
    have HM := Lib.hid (HM.out.below hb)
    have HK := Lib.hid (HK.out.trans (KeptB.of (by omega) hb))
    have HR := Lib.hid (show RdAt W3.heap.size dt false w3 from hr3)
    have h39 : 9 ≤ W3.heap.size := by omega
    have hcb : c ≠ W3.heap.size := by omega
    have hqb : q ≠ W3.heap.size := by omega
    have hcb2 : c ≤ W3.heap.size := by omega
    have hwb : w.heap.size ≤ W3.heap.size := HKW.out
    clear hb hr3 x5
    generalize W3.heap.size = b at *
    obtain ⟨R1, hR1⟩ : ∃ R, R = rdStep dt false 0 1000 := ⟨_, rfl⟩
    have hl1 := rdC_le dt false 0 1000
    have k1 := readerInt b dt false 0 1000 w3 HR.out HM.out h39 (by omega)
    unfold IntPost at k1
    rw [← hR1] at k1 hl1
    obtain ⟨R2, hR2⟩ : ∃ R, R = rdStep R1.2.1 R1.2.2 0 2147483648 := ⟨_, rfl⟩
    have h2E : two dt = (R1.1, R2.1, R2.2) := by rw [hR2, hR1]; rfl
    have k2 := fun W h hM => readerInt b R1.2.1 R1.2.2 0 2147483648 W h hM h39 (by omega)
    unfold IntPost at k2
    rw [← hR2] at k2
    rw [h2E] at HL
    clear hR1 hR2 h2E hl1
    obtain ⟨t1, s1, y1⟩ := R1
    obtain ⟨t2, s2, y2⟩ := R2
    dsimp only at k1 k2 HL
    have K1 := Lib.hid k1
    have K2 := Lib.hid k2
    clear k1 k2
    go_wp2_with fail
    refine K1.out.mono ?_
    rintro e w4 ⟨rfl, hr, hk⟩
    have HX := Lib.hid (HX.out.keptB hk hqb)
    have HC := Lib.hid (show CkAt c d base ⟨n, kt, kb⟩ w4 from BlkIs.keptB HC.out hk hcb)
    have HM := Lib.hid (hk.met HM.out h39)
    have HK := Lib.hid (HK.out.fresh hk hwb hcb2)
    have HR := Lib.hid hr
    clear hr hk
    go_wp2_with fail
    refine (K2.out _ HR.out HM.out).mono ?_
    rintro e w5 ⟨rfl, hr, hk⟩
    have HX := Lib.hid (HX.out.keptB hk hqb)
    have HC := Lib.hid (show CkAt c d base ⟨n, kt, kb⟩ w5 from BlkIs.keptB HC.out hk hcb)
    have HK := Lib.hid (HK.out.fresh hk hwb hcb2)
    have HR := Lib.hid hr
    clear hr hk
    go_wp2_with fail
    refine (readerDone b s2 y2 _ HR.out).mono ?_
    rintro e w6 ⟨rfl, rfl⟩
    have HDB := Lib.hid (show doneB (s2, y2) = (!y2 && s2.isEmpty) from rfl)
    generalize (!y2 && s2.isEmpty) = dn at HDB ⊢
    cases dn with
    | false =>
      go_wp2
      go_end0
      exact ⟨rfl, by rw [HL.out, HDB.out]; exact HC.out, HK.out⟩
    | true =>
      have x0 := HX.out.cell 0
      have y4 := HC.out.cell 4
      have y2 := HC.out.cell 2
      have y3 := HC.out.cell 3
      simp only [List.getElem?_cons_zero, List.getElem?_cons_succ] at x0 y2 y3 y4
      have f2 := HC.out.frozen 2
      have f3 := HC.out.frozen 3
      have f4 := HC.out.frozen 4
      have HE2 := Lib.hid (show CkAt c d base ⟨st, t1, t2⟩ (((w5.setCell ⟨c, 4, none⟩ (.int .u64 (st : Int))).setCell ⟨c, 2, none⟩ (.int .i64 t1)).setCell ⟨c, 3, none⟩ (.int .i64 t2)) by
        have := ((BlkIs.set HC.out (o := 4) (.int .u64 (st : Int))).set (o := 2) (.int .i64 t1)).set (o := 3) (.int .i64 t2)
        simpa [CkAt] using this)
      have HK2 := Lib.hid (HK.out.trans (((KeptG.set c 4 w5 (.int .u64 (st : Int))).trans (KeptG.set c 2 _ (.int .i64 t1))).trans (KeptG.set c 3 _ (.int .i64 t2))).toB)
      go_wp2
      go_end0
      exact ⟨rfl, by rw [HL.out, HDB.out]; exact HE2.out, HK2.out⟩
  · have HE := Lib.hid (ldC_none (k := k) (place := place) hr)
    clear hr
    have hb2 := below2 w2 (.cells #[.int .u64 0, .int .i64 0, .int .i64 0, .int .i64 0, .int .i64 0, .string ⟨#[]⟩] 196) (.cells #[.int .u64 0, .int .i64 0, .int .i64 0, .int .i64 0, .int .i64 1, .string ⟨#[]⟩] 196)
    have HC2 := Lib.hid (HC.out.below hb2)
    have HK2 := Lib.hid (HK.out.trans (KeptB.of hcz2 hb2))
    clear hb2
    go_wp2
    go_quiet (fail)
    go_wp2
    refine bodyPost_ret (v := .tuple #[]) (by simp [results, go_sem]; try rfl) rfl ?_
    exact ⟨rfl, by rw [HE.out]; exact HC2.out, HK2.out.trans (KeptB.of (by have := HK2.out.2.2; omega) (belowN (Below.refl _ _) _))⟩
end Go.Proofs.YtbbcicengfmhiaaDoor

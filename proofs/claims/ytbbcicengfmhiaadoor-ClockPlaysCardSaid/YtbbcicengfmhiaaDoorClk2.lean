/- clock.save. Conditions: sizes. -/
import Derived.Test.YtbbcicengfmhiaaDoorClk1
namespace Go.Proofs.YtbbcicengfmhiaaDoor
set_option maxRecDepth 100000
open Go.RowKit

/-- what turns a disk's and a clock's blocks alone -/
def KeptC (b g c : Nat) (w w' : World) : Prop := (∀ B, B ≤ g → Below B w w') ∧ (∀ q, q < w.heap.size → q ≠ b → q ≠ g → q ≠ c → w'.heap[q]? = w.heap[q]?) ∧ w.heap.size ≤ w'.heap.size
theorem KeptC.trans {b g c : Nat} {w w1 w2 : World} (h : KeptC b g c w w1) (k : KeptC b g c w1 w2) : KeptC b g c w w2 :=
  ⟨fun B hB => (h.1 B hB).trans (k.1 B hB), fun q h1 h2 h3 h4 => (k.2.1 q (Nat.lt_of_lt_of_le h1 h.2.2) h2 h3 h4).trans (h.2.1 q h1 h2 h3 h4), Nat.le_trans h.2.2 k.2.2⟩
theorem KeptC.of {b g c : Nat} {w w' : World} (hg : g < w.heap.size) (h : Below w.heap.size w w') : KeptC b g c w w' := ⟨fun B hB => h.mono (by omega), fun q h1 _ _ _ => h.block q h1, h.size⟩
theorem KeptC.ofB {b g c : Nat} {w w' : World} (hg : g < c) (h : KeptB c w w') : KeptC b g c w w' := ⟨fun B hB => h.1 B (by omega), fun q h1 _ _ h4 => h.2.1 q h1 h4, h.2.2⟩
theorem KeptC.of3 {b g c : Nat} {w w' : World} (hg : g < b) (h : Kept3 b (.slice none 0 0) w w') : KeptC b g c w w' := ⟨fun B hB => h.1 B (by omega), fun q h1 h2 _ _ => h.2.1 q h1 h2 (by simp [Value.ownBlock]), h.2.2⟩
theorem KeptC.of4 {b g c : Nat} {w w' : World} (h : Kept4 b g (.slice none 0 0) w w') : KeptC b g c w w' := ⟨h.1, fun q h1 h2 h3 _ => h.2.1 q h1 h2 h3 (by simp [Value.ownBlock]), h.2.2⟩
theorem KeptC.of2 {b g c : Nat} {w w' : World} (h : Kept2 b g w w') : KeptC b g c w w' := ⟨h.1, fun q h1 h2 h3 _ => h.2.1 q h1 h2 h3, h.2.2⟩
def SC (c n : Nat) (X : World) : Prop := X.cell? ⟨c, 4, none⟩ = some (.int .u64 (n : Int)) ∧ c < X.heap.size
theorem SC.below {c n : Nat} {X X' : World} (h : SC c n X) (hb : Below X.heap.size X X') : SC c n X' := ⟨(hb.cell (p := ⟨c, 4, none⟩) h.2).trans h.1, Nat.lt_of_lt_of_le h.2 hb.size⟩
theorem SC.keptS {c n R T : Nat} {X X' : World} (h : SC c n X) (hk : KeptS R T X X') (hc : c < R) : SC c n X' := ⟨(World.cell?_of_block (w := X) (a := ⟨c, 4, none⟩) (hk.2 c (.inl hc))).trans h.1, Nat.lt_of_lt_of_le h.2 hk.1.size⟩
theorem DkAt.keptW {b g : Nat} {K : List (List UInt8)} {off : Bool} {armed : Int} {bits : Nat} {writes : Int} {R wb : Nat} {w w' : World} (h : DkAt b g K (.slice none 0 0) [] off armed bits writes w) (hk : KeptW R wb w w') (hb : b < wb) (hR : wb ≤ R) : DkAt b g K (.slice none 0 0) [] off armed bits writes w' :=
  ⟨h.1, h.2.1.of (hk.2.1 b (.inl (by omega)) (by omega)), h.2.2.1.of (hk.2.1 g (.inl (by have := h.1.1; omega)) (by have := h.1.1; omega)), ⟨rfl, .inl ⟨rfl, rfl⟩⟩⟩
theorem DkAt.keptS {b g : Nat} {K : List (List UInt8)} {off : Bool} {armed : Int} {bits : Nat} {writes : Int} {R T : Nat} {w w' : World} (h : DkAt b g K (.slice none 0 0) [] off armed bits writes w) (hk : KeptS R T w w') (hb : b < R) : DkAt b g K (.slice none 0 0) [] off armed bits writes w' :=
  ⟨h.1, h.2.1.of (hk.2 b (.inl hb)), h.2.2.1.of (hk.2 g (.inl (by have := h.1.1; omega))), ⟨rfl, .inl ⟨rfl, rfl⟩⟩⟩
/-- so much has been saved -/
def SavePost (c b g base : Nat) (k : Ck) (K : List (List UInt8)) (armed : Int) (bits : Nat) (writes time boot : Int) (w : World) (e : Ending) (w' : World) : Prop :=
  ((armed = 1 ∧ e = .returned (.int .i64 5) ∧ DkAt b g (crash1 bits K (base + (k.n + 1) % 2, secOf (k.n + 1) time boot) 0) (.slice none 0 0) [] true 0 bits (writes + 1) w' ∧ CkAt c b base k w') ∨
   (armed ≠ 1 ∧ e = .returned (.int .i64 0) ∧ DkAt b g (K.set (base + (k.n + 1) % 2) (secOf (k.n + 1) time boot)) (.slice none 0 0) [] false (if armed = 0 then 0 else armed - 1) bits (writes + 1) w' ∧ CkAt c b base ⟨k.n + 1, time, boot⟩ w')) ∧ KeptC b g c w w'
def SaveEnd (c b g base n : Nat) (kt kb : Int) (K : List (List UInt8)) (_ : Int) (bits : Nat) (writes time boot : Int) (pl : Nat) (w : World) (armed' : Int) (w4 : World) (cv' : Value) : Prop :=
  DkAt b g K cv' [(base + pl, secOf (n + 1) time boot)] false armed' bits (writes + 1) w4 ∧ CkAt c b base ⟨n, kt, kb⟩ w4 ∧ KeptC b g c w w4
set_option maxHeartbeats 4000000 in
theorem clkSave (c b g base : Nat) (k : Ck) (K : List (List UInt8)) (armed : Int) (bits : Nat) (writes time boot : Int) (w : World) (hC : CkAt c b base k w) (hD : DkAt b g K (.slice none 0 0) [] false armed bits writes w)
    (hp : base + 1 < K.length) (hK : K.length ≤ 4096) (hn : k.n ≤ 4611686018427387904) (hM : Met w) (h9 : 9 ≤ g) (hbc : b < c) (ha : 0 ≤ armed) (ha2 : armed ≤ 9223372036854775807) (hw0 : 0 ≤ writes) (hw1 : writes ≤ 1000000000)
    (ht : 0 ≤ time ∧ time ≤ 1000) (hb : 0 ≤ boot ∧ boot ≤ 2147483648) :
    Calls Tryd.prog 103 #[.pointer (some ⟨c, 0, none⟩), .int .i64 time, .int .i64 boot] w (SavePost c b g base k K armed bits writes time boot w) := by
  have hcz := hC.lt
  have hbz := hD.2.1.lt
  have hgb := hD.1.1
  obtain ⟨n, kt, kb⟩ := k
  dsimp only at hn
  have hb1 := below1 w (.cells #[.pointer none, .slice none 0 0] 60)
  have hb2 := below2 w (.cells #[.pointer none, .slice none 0 0] 60) (.cells #[.int .i64 time, .int .i64 boot] 3)
  have HW0 := (WrAt.fresh (b := w.heap.size) (w.heap.size + 1) (by omega) (by simp) (MapKept.heap_alloc w (.cells #[.pointer none, .slice none 0 0] 60)).1).below (below1 _ (.cells #[.int .i64 time, .int .i64 boot] 3))
  have hsf : Safe ((w.alloc (.cells #[.pointer none, .slice none 0 0] 60)).alloc (.cells #[.int .i64 time, .int .i64 boot] 3)) (w.heap.size + 1) := by
    have := Safe.alloc (w.alloc (.cells #[.pointer none, .slice none 0 0] 60)) #[.int .i64 time, .int .i64 boot] (t := 3) (by decide)
    simpa using this
  have KW := Lib.hid (writerInt (w.heap.size + 1) (w.heap.size + 1) w.heap.size (w.heap.size + 1) 0 2 [] [time, boot] _ HW0 (hM.below hb2) (by have := hM.size; omega) (fun j hj => by
    match j, hj with
    | 0, _ => exact okI_c (by show _ ≤ time; omega) (by show time ≤ _; omega)
    | 1, _ => exact okI_c (by show _ ≤ boot; omega) (by show boot ≤ _; omega)) (by simp) (by omega) (.inr (.inr hsf)) (fun j hj => by
    match j, hj with
    | 0, _ => go_simp
    | 1, _ => go_simp))
  have HC := Lib.hid (hC.below hb2)
  have HD := Lib.hid (hD.below hb2)
  have HM := Lib.hid (hM.below hb2)
  have HB := Lib.hid hb2
  have h9w := hM.size
  have hcl : (clkL time boot).length ≤ 37 := clkL_len ht hb
  have hne : clkL time boot ≠ [] := clkL_ne time boot
  have KP := Lib.hid (fun W => show Calls Tryd.prog 138 #[.agg #[.int .u64 ((n : Int) + 1), .int .i64 0, .int .i64 0, .int .i64 0, .int .i64 1, .string ⟨(clkL time boot).toArray⟩]] W fun e w' => e = .returned (.tuple #[.string ⟨(secOf (n + 1) time boot).toArray⟩, .int .i64 0]) ∧ Below W.heap.size W w' from
    secPrint (n + 1) 0 0 0 1 (clkL time boot) W (by omega) (pcOf_right (n := n + 1) hcl))
  clear hC hD hM HW0 hsf hb1 hb2
  go_enter Tryd.func103, Tryd.ntmps103
  go_wp2_with fail
  refine KW.out.mono ?_
  rintro e w1 ⟨rfl, ⟨T1, hw1⟩, hk1⟩
  rw [List.nil_append] at hw1
  have HK := Lib.hid (show KeptC b g c w w1 from ⟨fun B hB => (HB.out.mono (by omega)).trans (hk1.1 B (by omega)), fun q h1 _ _ _ => (hk1.2.1 q (.inl (by omega)) (by omega)).trans (HB.out.block q h1), Nat.le_trans HB.out.size hk1.2.2⟩)
  have HC := Lib.hid (show CkAt c b base ⟨n, kt, kb⟩ w1 from BlkIs.of HC.out (hk1.2.1 c (.inl (by omega)) (by omega)))
  have HD := Lib.hid (HD.out.keptW hk1 hbz (by omega))
  have HM := Lib.hid (hk1.met HM.out h9w)
  have HW := Lib.hid (show WrAt (w.heap.size + 1) T1 w.heap.size (clkL time boot) w1 from hw1)
  have HC1 := Lib.hid (show c < w1.heap.size from HC.out.lt)
  clear hw1 hk1 KW
  have hS0 : SC c n w1.drew := ⟨HC.out.cell 4, HC.out.lt⟩
  have KS := Lib.hid (writerString (w.heap.size + 1) T1 w.heap.size (clkL time boot) w1.drew (HW.out.below (Below.refl _ _).drew) hne)
  have hcR : c < w.heap.size + 1 := by omega
  have hws : IntKind.u64.wrap ((n : Int) + 1) = (n : Int) + 1 := by simp [IntKind.wrap, IntKind.signed, IntKind.bits]; omega
  obtain ⟨s1, hs1⟩ : ∃ s : ByteArray, s = ⟨(clkL time boot).toArray⟩ := ⟨_, rfl⟩
  rw [← hs1] at KS KP
  clear hs1
  generalize hwbe : w.heap.size = wb at *
  have HWB := Lib.hid hwbe
  clear hwbe
  go_wp2_with fail
  go_region_held3 (fun X => X.cell? ⟨c, 4, none⟩ = some (.int .u64 (n : Int)) ∧ c < X.heap.size) (first | exact hS0 | exact SC.keptS ‹_› ‹_› hcR | exact SC.below ‹_› ‹_›)
    (first
      | (go_at_call 28; (with_reducible refine KS.out.mono ?_); rintro e w2 ⟨rfl, hk2⟩)
      | (go_at_call 138; (with_reducible refine (KP.out _).mono ?_); rintro e w3 ⟨rfl, hb3⟩))
  have HC := Lib.hid (show CkAt c b base ⟨n, kt, kb⟩ w3 from CkAt.below (show CkAt c b base ⟨n, kt, kb⟩ w2 from BlkIs.of (show BlkIs w1.drew c _ 156 from HC.out) (hk2.2 c (.inl hcR))) hb3)
  have HD := Lib.hid (((show DkAt b g K (.slice none 0 0) [] false armed bits writes w1.drew from HD.out.below (Below.refl _ _).drew).keptS hk2 (by omega)).below hb3)
  have HM := Lib.hid (((show Met w1.drew from HM.out.below (Below.refl _ _).drew).belowB hk2.1 (by omega)).below hb3)
  have HK := Lib.hid (show KeptC b g c w w3 from ⟨fun B hB => (HK.out.1 B hB).trans ((((Below.refl B w1).drew).trans (hk2.1.mono (by omega))).trans (hb3.mono (by have := HC1.out; have := hk2.1.size; have e : w1.drew.heap.size = w1.heap.size := rfl; omega))), fun q h1 h2 h3 h4 => (hb3.block q (by have := HC1.out; have := hk2.1.size; have := HK.out.2.2; have e : w1.drew.heap.size = w1.heap.size := rfl; omega)).trans ((hk2.2 q (.inl (by have := HWB.out; omega))).trans (HK.out.2.1 q h1 h2 h3 h4)), by have := hk2.1.size; have := hb3.size; have := HK.out.2.2; have e : w1.drew.heap.size = w1.heap.size := rfl; omega⟩)
  clear hk2 hb3 hS0 KS KP hne
  go_wp2_with fail
  have c0 := HC.out.cell 0
  have c1 := HC.out.cell 1
  have c4 := HC.out.cell 4
  simp only [List.getElem?_cons_zero, List.getElem?_cons_succ] at c0 c1 c4
  obtain ⟨pl, hpl⟩ : ∃ pl, pl = (n + 1) % 2 := ⟨_, rfl⟩
  have hrem : ((n : Int) + 1).tmod 2 = (pl : Int) := by
    rw [Int.tmod_eq_emod_of_nonneg (by omega)]
    omega
  have hwp : IntKind.i64.wrap (pl : Int) = (pl : Int) := by simp [IntKind.wrap, IntKind.signed, IntKind.bits]; omega
  have hws2 : IntKind.i64.wrap ((base : Int) + (pl : Int)) = (base : Int) + (pl : Int) := by simp [IntKind.wrap, IntKind.signed, IntKind.bits]; omega
  have KWr := Lib.hid (show Calls Tryd.prog 139 #[.pointer (some ⟨b, 0, none⟩), .int .i64 ((base : Int) + (pl : Int)), .string ⟨(secOf (n + 1) time boot).toArray⟩] w3.drew (WritePost b g K (.slice none 0 0) [] armed bits writes (base + pl) (secOf (n + 1) time boot) w3.drew) from
    dskWrite b g K (.slice none 0 0) [] armed bits writes (base + pl) (secOf (n + 1) time boot) w3.drew (HD.out.below (Below.refl _ _).drew) (by omega) (secOf_len hcl) hK (by simp) ha ha2 hw0 hw1)
  have HPL := Lib.hid hpl
  clear hpl
  go_still_tail 17, (by kernel_rfl)
  change wpList _ _ _ _ _ w3.drew
  clear hrem hwp hws2 hws c0 c1 c4
  go_wp2_with fail
  (with_reducible refine KWr.out.mono ?_)
  rintro e w4 (⟨ha0, rfl, cv', hd4, hk4⟩ | ⟨ha0, rfl, cv', hd4, hk4⟩ | ⟨ha0, rfl, hd4, hk4⟩)
  · have HX := Lib.hid (show (if armed = 0 then (0 : Int) else armed - 1) = 0 by rw [if_pos ha0])
    have HA := Lib.hid (show armed ≠ 1 by omega)
    have HAX := Lib.hid (show SaveEnd c b g base n kt kb K armed bits writes time boot pl w 0 w4 cv' from ⟨hd4, BlkIs.of (show BlkIs w3.drew c _ 156 from HC.out) (hk4.2.1 c HC.out.lt (by omega) (by simp [Value.ownBlock])), HK.out.trans (KeptC.of3 hgb ⟨fun B hB => ((Below.refl B w3).drew).trans (hk4.1 B hB), hk4.2.1, hk4.2.2⟩)⟩)
    clear hd4 hk4 ha0
    have c0 := HAX.out.2.1.cell 0
    simp only [List.getElem?_cons_zero] at c0
    go_wp2_with fail
    refine (dskFlush b g K cv' [(base + pl, secOf (n + 1) time boot)] 0 bits (writes + 1) w4 HAX.out.1 (by omega) hK (by simp)).mono ?_
    rintro e w5 ⟨rfl, hd5, hk5⟩
    have HD5 := Lib.hid (show DkAt b g (K.set (base + pl) (secOf (n + 1) time boot)) (.slice none 0 0) [] false 0 bits (writes + 1) w5 from hd5)
    have HC5 := Lib.hid (show CkAt c b base ⟨n, kt, kb⟩ w5 from BlkIs.of (show BlkIs w4 c _ 156 from HAX.out.2.1) (hk5.2.1 c HAX.out.2.1.lt (by omega) (by omega)))
    have HK5 := Lib.hid (HAX.out.2.2.trans (KeptC.of2 (c := c) hk5))
    clear hd5 hk5
    have c4 := HC5.out.cell 4
    have c2 := HC5.out.cell 2
    have c3 := HC5.out.cell 3
    simp only [List.getElem?_cons_zero, List.getElem?_cons_succ] at c2 c3 c4
    have f2 := HC5.out.frozen 2
    have f3 := HC5.out.frozen 3
    have f4 := HC5.out.frozen 4
    have hws : IntKind.u64.wrap ((n : Int) + 1) = (n : Int) + 1 := by simp [IntKind.wrap, IntKind.signed, IntKind.bits]; omega
    have hkg := ((KeptG.set c 4 w5 (.int .u64 ((n : Int) + 1))).trans (KeptG.set c 2 _ (.int .i64 time))).trans (KeptG.set c 3 _ (.int .i64 boot))
    have HE := Lib.hid (show CkAt c b base ⟨n + 1, time, boot⟩ (((w5.setCell ⟨c, 4, none⟩ (.int .u64 ((n : Int) + 1))).setCell ⟨c, 2, none⟩ (.int .i64 time)).setCell ⟨c, 3, none⟩ (.int .i64 boot)) by
      have := ((BlkIs.set HC5.out (o := 4) (.int .u64 ((n : Int) + 1))).set (o := 2) (.int .i64 time)).set (o := 3) (.int .i64 boot)
      simpa [CkAt] using this)
    have HD6 := Lib.hid (HD5.out.other hkg (by omega) (by omega) (by simp [Value.ownBlock]))
    have HK6 := Lib.hid (HK5.out.trans (KeptC.ofB (by omega) hkg.toB))
    clear hkg c0
    go_wp2
    go_ret
    refine ⟨.inr ⟨HA.out, rfl, ?_, HE.out⟩, HK6.out⟩
    have := HD6.out
    rw [HPL.out] at this
    rw [HX.out]
    exact this
  · have HX := Lib.hid (show (if armed = 0 then (0 : Int) else armed - 1) = armed - 1 by rw [if_neg (by omega)])
    have HA := Lib.hid (show armed ≠ 1 by omega)
    have HAX := Lib.hid (show SaveEnd c b g base n kt kb K armed bits writes time boot pl w (armed - 1) w4 cv' from ⟨hd4, BlkIs.of (show BlkIs w3.drew c _ 156 from HC.out) (hk4.2.1 c HC.out.lt (by omega) (by simp [Value.ownBlock])), HK.out.trans (KeptC.of3 hgb ⟨fun B hB => ((Below.refl B w3).drew).trans (hk4.1 B hB), hk4.2.1, hk4.2.2⟩)⟩)
    clear hd4 hk4 ha0
    have c0 := HAX.out.2.1.cell 0
    simp only [List.getElem?_cons_zero] at c0
    go_wp2_with fail
    refine (dskFlush b g K cv' [(base + pl, secOf (n + 1) time boot)] (armed - 1) bits (writes + 1) w4 HAX.out.1 (by omega) hK (by simp)).mono ?_
    rintro e w5 ⟨rfl, hd5, hk5⟩
    have HD5 := Lib.hid (show DkAt b g (K.set (base + pl) (secOf (n + 1) time boot)) (.slice none 0 0) [] false (armed - 1) bits (writes + 1) w5 from hd5)
    have HC5 := Lib.hid (show CkAt c b base ⟨n, kt, kb⟩ w5 from BlkIs.of (show BlkIs w4 c _ 156 from HAX.out.2.1) (hk5.2.1 c HAX.out.2.1.lt (by omega) (by omega)))
    have HK5 := Lib.hid (HAX.out.2.2.trans (KeptC.of2 (c := c) hk5))
    clear hd5 hk5
    have c4 := HC5.out.cell 4
    have c2 := HC5.out.cell 2
    have c3 := HC5.out.cell 3
    simp only [List.getElem?_cons_zero, List.getElem?_cons_succ] at c2 c3 c4
    have f2 := HC5.out.frozen 2
    have f3 := HC5.out.frozen 3
    have f4 := HC5.out.frozen 4
    have hws : IntKind.u64.wrap ((n : Int) + 1) = (n : Int) + 1 := by simp [IntKind.wrap, IntKind.signed, IntKind.bits]; omega
    have hkg := ((KeptG.set c 4 w5 (.int .u64 ((n : Int) + 1))).trans (KeptG.set c 2 _ (.int .i64 time))).trans (KeptG.set c 3 _ (.int .i64 boot))
    have HE := Lib.hid (show CkAt c b base ⟨n + 1, time, boot⟩ (((w5.setCell ⟨c, 4, none⟩ (.int .u64 ((n : Int) + 1))).setCell ⟨c, 2, none⟩ (.int .i64 time)).setCell ⟨c, 3, none⟩ (.int .i64 boot)) by
      have := ((BlkIs.set HC5.out (o := 4) (.int .u64 ((n : Int) + 1))).set (o := 2) (.int .i64 time)).set (o := 3) (.int .i64 boot)
      simpa [CkAt] using this)
    have HD6 := Lib.hid (HD5.out.other hkg (by omega) (by omega) (by simp [Value.ownBlock]))
    have HK6 := Lib.hid (HK5.out.trans (KeptC.ofB (by omega) hkg.toB))
    clear hkg c0
    go_wp2
    go_ret
    refine ⟨.inr ⟨HA.out, rfl, ?_, HE.out⟩, HK6.out⟩
    have := HD6.out
    rw [HPL.out] at this
    rw [HX.out]
    exact this
  · have HE := Lib.hid (show crashN bits K ([] ++ [(base + pl, secOf (n + 1) time boot)]) ([] ++ [(base + pl, secOf (n + 1) time boot)]).length = crash1 bits K (base + pl, secOf (n + 1) time boot) 0 from rfl)
    have HD := Lib.hid hd4
    have HC := Lib.hid (show CkAt c b base ⟨n, kt, kb⟩ w4 from BlkIs.of (show BlkIs w3.drew c _ 156 from HC.out) (hk4.2.1 c HC.out.lt (by omega) (by omega) (by simp [Value.ownBlock])))
    have HK := Lib.hid (HK.out.trans (KeptC.of4 (c := c) ⟨fun B hB => ((Below.refl B w3).drew).trans (hk4.1 B hB), hk4.2.1, hk4.2.2⟩))
    clear hd4 hk4
    go_wp2
    go_ret
    refine ⟨.inl ⟨ha0, rfl, ?_, HC.out⟩, HK.out⟩
    have := HD.out
    rw [HE.out, HPL.out] at this
    exact this
end Go.Proofs.YtbbcicengfmhiaaDoor

/- A codec's labels; a list of calls. -/
import Derived.Test.YtpkmgdpnimecfabDoorCbk1
import Derived.Test.YtpkmgdpnimecfabDoorOpn
namespace Go.Proofs.YtpkmgdpnimecfabDoor
open Go.RowKit

set_option maxRecDepth 100000 in
set_option maxHeartbeats 2000000 in
theorem writerLabel (R T b : Nat) (l : List UInt8) (a : Int) (x : Nat) (w : World) (hW : WrAt R T b l w) (hM : Met w) (h5 : 7 ≤ b) (ha : okI a) (hx : x < 65536) (hlen : l.length + 44 ≤ 140737488355328) :
    Calls Tryd.prog 54 #[.pointer (some ⟨b, 0, none⟩), (.agg #[.int .i64 (a), .int .u16 ((x : Nat) : Int)])] w fun e w' => e = .returned (.tuple #[]) ∧ (∃ T', WrAt R T' b (l ++ numsL [a, (x : Int)]) w') ∧ KeptW R b w w' := by
  have hbR := hW.1.1
  have hRz := hW.1.2.1
  have b1 := below1 w (.cells #[.int .i64 a, .int .u16 (x : Int)] 26)
  have b2 := below1 (w.alloc (.cells #[.int .i64 a, .int .u16 (x : Int)] 26)) (.cells #[.int .i64 a, .int .i64 (x : Int)] 3)
  have bb := b1.trans (b2.mono b1.size)
  have ez : (w.alloc (.cells #[.int .i64 a, .int .u16 (x : Int)] 26)).heap.size = w.heap.size + 1 := by simp
  have hs : Safe ((w.alloc (.cells #[.int .i64 a, .int .u16 (x : Int)] 26)).alloc (.cells #[.int .i64 a, .int .i64 (x : Int)] 3)) (w.heap.size + 1) := by
    rw [← ez]
    exact Safe.alloc _ _ (by decide)
  have q := writerInt R T b (w.heap.size + 1) 0 2 l [a, (x : Int)] _ ((hW.below b1).below b2) (hM.below bb) h5 (fun j hj => by
    match j, hj with
    | 0, _ => exact ha
    | 1, _ => exact (show okI (x : Int) from ⟨by omega, by omega⟩)) (by simpa using hlen) (by omega) (.inr (.inr hs)) (fun j hj => by
    match j, hj with
    | 0, _ => go_simp
    | 1, _ => go_simp)
  have hw : wrap64 (x : Int) = (x : Int) := by unfold wrap64; omega
  have hw2 : IntKind.i64.wrap (x : Int) = (x : Int) := IntWalk.i64_in _ (by omega)
  have HK0 := Lib.hid (KeptW.of (R := R) (b := b) hRz hbR bb)
  clear hW hM hs bb b1 b2 ez
  go_enter Tryd.func54, Tryd.ntmps54
  go_wp2_with fail
  refine q.mono ?_
  rintro e w2 ⟨rfl, hT, hK⟩
  have HT := Lib.hid hT
  have HK := Lib.hid (HK0.out.trans hK)
  clear q hT hK
  go_wp2
  go_end0
  exact ⟨rfl, HT.out, HK.out⟩

theorem results_cellX {fn : Func} {p : Tmp} {ty : TypeId} (h : fn.results = #[.cell p ty]) (tmps : Array Value) (P : Program) (w : World) :
    (results fn tmps).run P w = ((asAddr (tmps.getD p undef)).run P w).andThen fun a w₁ => (loadVar ty a).run P w₁ := by
  simp only [results, h]
  simp [Sem.run_bind, Result.andThen]
def rdLabel (s : List UInt8) (bad : Bool) : (Int × Nat) × List UInt8 × Bool :=
  if (rdStep (rdStep s bad 0 7).2.1 (rdStep s bad 0 7).2.2 0 65535).2.2 = true then ((0, 0), (rdStep (rdStep s bad 0 7).2.1 (rdStep s bad 0 7).2.2 0 65535).2.1, true)
  else (((rdStep s bad 0 7).1, (rdStep (rdStep s bad 0 7).2.1 (rdStep s bad 0 7).2.2 0 65535).1.toNat), (rdStep (rdStep s bad 0 7).2.1 (rdStep s bad 0 7).2.2 0 65535).2.1, false)
def labelOf (n1 : Int) (r2 : Int × List UInt8 × Bool) : (Int × Nat) × List UInt8 × Bool := if r2.2.2 = true then ((0, 0), r2.2.1, true) else ((n1, r2.1.toNat), r2.2.1, false)
theorem rdLabel_eq (s : List UInt8) (bad : Bool) : rdLabel s bad = labelOf (rdStep s bad 0 7).1 (rdStep (rdStep s bad 0 7).2.1 (rdStep s bad 0 7).2.2 0 65535) := rfl
def LblPost (b : Nat) (s : List UInt8) (bad : Bool) (w : World) (e : Ending) (w' : World) : Prop :=
  e = .returned (.agg #[.int .i64 ((rdLabel s bad).1.1), .int .u16 (((rdLabel s bad).1.2 : Nat) : Int)]) ∧ RdAt b (rdLabel s bad).2.1 (rdLabel s bad).2.2 w' ∧ KeptB b w w'
theorem rdStep_len (s : List UInt8) (bad : Bool) (lo hi : Int) : (rdStep s bad lo hi).2.1.length ≤ s.length := by
  cases h : (rdStep s bad lo hi).2.2 with
  | false => exact (rdStep_bounds h).2.2
  | true =>
    unfold rdStep at h ⊢
    split at h
    · rename_i hb; rw [if_pos hb]; exact Nat.le_refl _
    · rename_i hb
      rw [if_neg hb]
      split at h
      · cases h
      · exact Nat.le_refl _
theorem rdStep_bad {s : List UInt8} {lo hi : Int} : (rdStep s true lo hi) = (0, s, true) := rfl
theorem RdAt.setO {b c : Nat} {s : List UInt8} {bad : Bool} {w : World} (h : RdAt b s bad w) (hne : b ≠ c) (i : Nat) (v : Value) : RdAt b s bad (w.setCell ⟨c, i, none⟩ v) := h.kept (KeptB.set i v) hne
theorem KeptB.setN {b c : Nat} {w w1 : World} (h : KeptB b w w1) (hb : b < w.heap.size) (hc : w.heap.size ≤ c) (i : Nat) (v : Value) : KeptB b w (w1.setCell ⟨c, i, none⟩ v) :=
  ⟨fun B hB => (h.1 B hB).setCell (p := ⟨c, i, none⟩) (show B ≤ c by omega) v, fun q h1 h2 => (Below.heap_setCell _ _ _ _ (show q ≠ c by omega)).trans (h.2.1 q h1 h2), by simpa using h.2.2⟩
/-- a box of a label that another block's writes leave as it was -/
def BxAt (c : Nat) (a : Int) (x : Int) (w : World) : Prop :=
  c < w.heap.size ∧ w.cell? ⟨c, 0, none⟩ = some (.int .i64 a) ∧ w.cell? ⟨c, 1, none⟩ = some (.int .u16 x) ∧ w.frozen? ⟨c, 0, none⟩ = false ∧ w.frozen? ⟨c, 1, none⟩ = false
theorem BxAt.mk (w : World) (a x : Int) : BxAt w.heap.size a x (w.alloc (.cells #[.int .i64 a, .int .u16 x] 26)) := by
  refine ⟨by simp, ?_, ?_, ?_, ?_⟩ <;> go_simp
theorem BxAt.kept {b c : Nat} {a x : Int} {w w' : World} (h : BxAt c a x w) (hk : KeptB b w w') (hne : c ≠ b) : BxAt c a x w' := by
  obtain ⟨h0, h1, h2, h3, h4⟩ := h
  have e := hk.2.1 c h0 hne
  exact ⟨Nat.lt_of_lt_of_le h0 hk.2.2, (World.cell?_of_block e).trans h1, (World.cell?_of_block e).trans h2, (World.frozen?_of_block e).trans h3, (World.frozen?_of_block e).trans h4⟩
theorem BxAt.below {c : Nat} {a x : Int} {w w' : World} (h : BxAt c a x w) (hb : Below w.heap.size w w') : BxAt c a x w' := by
  obtain ⟨h0, h1, h2, h3, h4⟩ := h
  exact ⟨Nat.lt_of_lt_of_le h0 hb.size, (hb.cell (p := ⟨c, 0, none⟩) h0).trans h1, (hb.cell (p := ⟨c, 1, none⟩) h0).trans h2, (hb.frozen (p := ⟨c, 0, none⟩) h0).trans h3, (hb.frozen (p := ⟨c, 1, none⟩) h0).trans h4⟩
set_option maxRecDepth 100000 in
set_option maxHeartbeats 4000000 in
theorem readerLabel (b : Nat) (s : List UInt8) (bad : Bool) (w : World) (h : RdAt b s bad w) (hM : Met w) (h5 : 7 ≤ b) (hs : s.length < 4294967281) :
    Calls Tryd.prog 51 #[.pointer (some ⟨b, 0, none⟩)] w (LblPost b s bad w) := by
  have bz := h.1
  have b1 := below1 w (.cells #[.int .i64 0, .int .u16 0] 26)
  have q1 := readerInt b s bad 0 7 _ (h.below b1) (hM.below b1) h5 hs
  have HM1 := Lib.hid (hM.below b1)
  have HK1 := Lib.hid (KeptB.of bz b1)
  have hl := rdStep_len s bad 0 7
  have hbd := @rdStep_bounds s bad 0 7
  have HX1 := Lib.hid (BxAt.mk w 0 0)
  clear b1 h hM
  unfold IntPost at q1
  have hrl2 := rdLabel_eq s bad
  generalize rdStep s bad 0 7 = r1 at q1 hl hrl2
  obtain ⟨n1, s1, bad1⟩ := r1
  simp only at q1 hl hrl2
  have HRL := Lib.hid hrl2
  clear hbd hrl2
  go_enter Tryd.func51, Tryd.ntmps51
  go_wp2_with fail
  refine q1.mono ?_
  rintro e w2 ⟨rfl, hr, hk⟩
  have HX1 := Lib.hid (HX1.out.kept hk (by omega))
  have HM2 := Lib.hid (hk.met HM1.out h5)
  have HK2 := Lib.hid (HK1.out.trans hk)
  have hz2 : w.heap.size < w2.heap.size := HX1.out.1
  have b2 := below1 w2 (.cells #[.int .i64 n1, .int .u16 0] 26)
  have q2 := readerInt b s1 bad1 0 65535 _ (hr.below b2) (HM2.out.below b2) h5 (by omega)
  have HX1 := Lib.hid (HX1.out.below b2)
  have HX2 := Lib.hid (BxAt.mk w2 n1 0)
  have HK3 := Lib.hid (HK2.out.trans (KeptB.of (show b < w2.heap.size by omega) b2))
  clear q1 hr hk b2
  have hbd2 := @rdStep_bounds s1 bad1 0 65535
  unfold IntPost at q2
  have hrl := HRL.out
  generalize rdStep s1 bad1 0 65535 = r2 at q2 hbd2 hrl
  obtain ⟨n2, s2, bad2⟩ := r2
  simp only at q2 hbd2 hrl
  have HBD2 := Lib.hid hbd2
  have HRL := Lib.hid hrl
  clear hbd2 hrl
  go_wp2_with fail
  refine q2.mono ?_
  rintro e w3 ⟨rfl, hr, hk⟩
  have HX1 := Lib.hid (HX1.out.kept hk (by omega))
  have HX2 := Lib.hid (HX2.out.kept hk (by omega))
  have HK := Lib.hid (HK3.out.trans hk)
  have HR := Lib.hid hr
  clear q2 hr hk
  obtain ⟨y1, c10, c11, f10, f11⟩ := HX1.out
  obtain ⟨y2, c20, c21, f20, f21⟩ := HX2.out
  have hne : w.heap.size ≠ w2.heap.size := by omega
  cases bad2 with
  | true =>
    go_wp2_with fail
    refine (readerOk b s2 true _ (HR.out.setO (show b ≠ w2.heap.size by omega) 1 _)).mono ?_
    rintro e w' ⟨rfl, rfl⟩
    go_wp2
    refine bodyPost_ret (v := (.agg #[.int .i64 (0), .int .u16 ((0 : Nat) : Int)])) (by rw [results_cellX rfl]; go_simp) rfl ?_
    unfold LblPost
    rw [HRL.out]
    exact ⟨rfl, ((HR.out.setO (show b ≠ w2.heap.size by omega) 1 _).setO (show b ≠ w.heap.size by omega) 0 _).setO (show b ≠ w.heap.size by omega) 1 _, ((HK.out.setN bz (by omega) 1 _).setN bz (Nat.le_refl _) 0 _).setN bz (Nat.le_refl _) 1 _⟩
  | false =>
    have hn2 := HBD2.out rfl
    have hw2 : IntKind.u16.wrap n2 = n2 := by simp [IntKind.wrap, IntKind.signed, IntKind.bits]; omega
    have hn2' : ((n2.toNat : Nat) : Int) = n2 := by omega
    go_wp2_with fail
    refine (readerOk b s2 false _ (HR.out.setO (show b ≠ w2.heap.size by omega) 1 _)).mono ?_
    rintro e w' ⟨rfl, rfl⟩
    go_wp2
    refine bodyPost_ret (v := .agg #[.int .i64 n1, .int .u16 n2]) (by rw [results_cellX rfl]; go_simp) rfl ?_
    unfold LblPost
    rw [HRL.out]
    refine ⟨?_, ((HR.out.setO (show b ≠ w2.heap.size by omega) 1 _).setO (show b ≠ w.heap.size by omega) 0 _).setO (show b ≠ w.heap.size by omega) 1 _, ((HK.out.setN bz (by omega) 1 _).setN bz (Nat.le_refl _) 0 _).setN bz (Nat.le_refl _) 1 _⟩
    unfold labelOf
    simp only [Bool.false_eq_true, if_false]
    rw [hn2']
end Go.Proofs.YtpkmgdpnimecfabDoor

/- A codec's labels; a list of calls. A fresh writer's text is empty. A try written, a try read. A try read. -/
import Derived.Test.YtbbcicengfmhiaaGreatDoorM3
import Derived.Test.YtbbcicengfmhiaaGreatDoorTk
import Derived.Lib.SmallJoins
namespace Go.Proofs.YtbbcicengfmhiaaGreatDoor
open Go.RowKit

set_option maxRecDepth 100000 in
set_option maxHeartbeats 2000000 in
theorem writerLabel (R T b : Nat) (l : List UInt8) (a : Int) (x : Nat) (w : World) (hW : WrAt R T b l w) (hM : Met w) (h5 : 9 ≤ b) (ha : okI a) (hx : x < 65536) (hlen : l.length + 44 ≤ 140737488355328) :
    Calls Tryz.prog 91 #[.pointer (some ⟨b, 0, none⟩), (.agg #[.int .i64 (a), .int .u16 ((x : Nat) : Int)])] w fun e w' => e = .returned (.tuple #[]) ∧ (∃ T', WrAt R T' b (l ++ numsL [a, (x : Int)]) w') ∧ KeptW R b w w' := by
  have hbR := hW.1.1
  have hRz := hW.1.2.1
  have b1 := below1 w (.cells #[.int .i64 a, .int .u16 (x : Int)] 80)
  have b2 := below1 (w.alloc (.cells #[.int .i64 a, .int .u16 (x : Int)] 80)) (.cells #[.int .i64 a, .int .i64 (x : Int)] 3)
  have bb := b1.trans (b2.mono b1.size)
  have ez : (w.alloc (.cells #[.int .i64 a, .int .u16 (x : Int)] 80)).heap.size = w.heap.size + 1 := by simp
  have hs : Safe ((w.alloc (.cells #[.int .i64 a, .int .u16 (x : Int)] 80)).alloc (.cells #[.int .i64 a, .int .i64 (x : Int)] 3)) (w.heap.size + 1) := by
    rw [← ez]
    exact Safe.alloc _ _ (by decide)
  have q := writerInt R T b (w.heap.size + 1) 0 2 l [a, (x : Int)] _ ((hW.below b1).below b2) (hM.below bb) h5 (fun j hj => by
    match j, hj with
    | 0, _ => exact ha
    | 1, _ => exact (show okI (x : Int) from ⟨by omega, by omega⟩)) (by simpa using hlen) (by omega) (.inr (.inr hs)) (fun j hj => by
    match j, hj with
    | 0, _ => go_simp
    | 1, _ => go_simp)
  have hw : wrap64 (x : Int) = (x : Int) := by unfold wrap64; omega
  have hw2 : IntKind.i64.wrap (x : Int) = (x : Int) := IntWalk.i64_in _ (by omega)
  have HK0 := Lib.hid (KeptW.of (R := R) (b := b) hRz hbR bb)
  clear hW hM hs bb b1 b2 ez
  go_enter Tryz.func91, Tryz.ntmps91
  go_wp2_with fail
  refine q.mono ?_
  rintro e w2 ⟨rfl, hT, hK⟩
  have HT := Lib.hid hT
  have HK := Lib.hid (HK0.out.trans hK)
  clear q hT hK
  go_wp2
  go_end0
  exact ⟨rfl, HT.out, HK.out⟩

theorem results_cellX {fn : Func} {p : Tmp} {ty : TypeId} (h : fn.results = #[.cell p ty]) (tmps : Array Value) (P : Program) (w : World) :
    (results fn tmps).run P w = ((asAddr (tmps.getD p undef)).run P w).andThen fun a w₁ => (loadVar ty a).run P w₁ := by
  simp only [results, h]
  simp [Sem.run_bind, Result.andThen]
def rdLabel (s : List UInt8) (bad : Bool) : (Int × Nat) × List UInt8 × Bool :=
  if (rdStep (rdStep s bad 0 7).2.1 (rdStep s bad 0 7).2.2 0 65535).2.2 = true then ((0, 0), (rdStep (rdStep s bad 0 7).2.1 (rdStep s bad 0 7).2.2 0 65535).2.1, true)
  else (((rdStep s bad 0 7).1, (rdStep (rdStep s bad 0 7).2.1 (rdStep s bad 0 7).2.2 0 65535).1.toNat), (rdStep (rdStep s bad 0 7).2.1 (rdStep s bad 0 7).2.2 0 65535).2.1, false)
def labelOf (n1 : Int) (r2 : Int × List UInt8 × Bool) : (Int × Nat) × List UInt8 × Bool := if r2.2.2 = true then ((0, 0), r2.2.1, true) else ((n1, r2.1.toNat), r2.2.1, false)
theorem rdLabel_eq (s : List UInt8) (bad : Bool) : rdLabel s bad = labelOf (rdStep s bad 0 7).1 (rdStep (rdStep s bad 0 7).2.1 (rdStep s bad 0 7).2.2 0 65535) := rfl
def LblPost (b : Nat) (s : List UInt8) (bad : Bool) (w : World) (e : Ending) (w' : World) : Prop :=
  e = .returned (.agg #[.int .i64 ((rdLabel s bad).1.1), .int .u16 (((rdLabel s bad).1.2 : Nat) : Int)]) ∧ RdAt b (rdLabel s bad).2.1 (rdLabel s bad).2.2 w' ∧ KeptB b w w'
theorem rdStep_len (s : List UInt8) (bad : Bool) (lo hi : Int) : (rdStep s bad lo hi).2.1.length ≤ s.length := by
  cases h : (rdStep s bad lo hi).2.2 with
  | false => exact (rdStep_bounds h).2.2
  | true =>
    unfold rdStep at h ⊢
    split at h
    · rename_i hb; rw [if_pos hb]; exact Nat.le_refl _
    · rename_i hb
      rw [if_neg hb]
      split at h
      · cases h
      · exact Nat.le_refl _
theorem rdStep_bad {s : List UInt8} {lo hi : Int} : (rdStep s true lo hi) = (0, s, true) := rfl
theorem RdAt.setO {b c : Nat} {s : List UInt8} {bad : Bool} {w : World} (h : RdAt b s bad w) (hne : b ≠ c) (i : Nat) (v : Value) : RdAt b s bad (w.setCell ⟨c, i, none⟩ v) := h.kept (KeptB.set i v) hne
theorem KeptB.setN {b c : Nat} {w w1 : World} (h : KeptB b w w1) (hb : b < w.heap.size) (hc : w.heap.size ≤ c) (i : Nat) (v : Value) : KeptB b w (w1.setCell ⟨c, i, none⟩ v) :=
  ⟨fun B hB => (h.1 B hB).setCell (p := ⟨c, i, none⟩) (show B ≤ c by omega) v, fun q h1 h2 => (Below.heap_setCell _ _ _ _ (show q ≠ c by omega)).trans (h.2.1 q h1 h2), by simpa using h.2.2⟩
/-- a box of a label that another block's writes leave as it was -/
def BxAt (c : Nat) (a : Int) (x : Int) (w : World) : Prop :=
  c < w.heap.size ∧ w.cell? ⟨c, 0, none⟩ = some (.int .i64 a) ∧ w.cell? ⟨c, 1, none⟩ = some (.int .u16 x) ∧ w.frozen? ⟨c, 0, none⟩ = false ∧ w.frozen? ⟨c, 1, none⟩ = false
theorem BxAt.mk (w : World) (a x : Int) : BxAt w.heap.size a x (w.alloc (.cells #[.int .i64 a, .int .u16 x] 80)) := by
  refine ⟨by simp, ?_, ?_, ?_, ?_⟩ <;> go_simp
theorem BxAt.kept {b c : Nat} {a x : Int} {w w' : World} (h : BxAt c a x w) (hk : KeptB b w w') (hne : c ≠ b) : BxAt c a x w' := by
  obtain ⟨h0, h1, h2, h3, h4⟩ := h
  have e := hk.2.1 c h0 hne
  exact ⟨Nat.lt_of_lt_of_le h0 hk.2.2, (World.cell?_of_block e).trans h1, (World.cell?_of_block e).trans h2, (World.frozen?_of_block e).trans h3, (World.frozen?_of_block e).trans h4⟩
theorem BxAt.below {c : Nat} {a x : Int} {w w' : World} (h : BxAt c a x w) (hb : Below w.heap.size w w') : BxAt c a x w' := by
  obtain ⟨h0, h1, h2, h3, h4⟩ := h
  exact ⟨Nat.lt_of_lt_of_le h0 hb.size, (hb.cell (p := ⟨c, 0, none⟩) h0).trans h1, (hb.cell (p := ⟨c, 1, none⟩) h0).trans h2, (hb.frozen (p := ⟨c, 0, none⟩) h0).trans h3, (hb.frozen (p := ⟨c, 1, none⟩) h0).trans h4⟩
set_option maxRecDepth 100000 in
set_option maxHeartbeats 4000000 in
theorem readerLabel (b : Nat) (s : List UInt8) (bad : Bool) (w : World) (h : RdAt b s bad w) (hM : Met w) (h5 : 9 ≤ b) (hs : s.length < 4294967281) :
    Calls Tryz.prog 83 #[.pointer (some ⟨b, 0, none⟩)] w (LblPost b s bad w) := by
  have bz := h.1
  have b1 := below1 w (.cells #[.int .i64 0, .int .u16 0] 80)
  have q1 := readerInt b s bad 0 7 _ (h.below b1) (hM.below b1) h5 hs
  have HM1 := Lib.hid (hM.below b1)
  have HK1 := Lib.hid (KeptB.of bz b1)
  have hl := rdStep_len s bad 0 7
  have hbd := @rdStep_bounds s bad 0 7
  have HX1 := Lib.hid (BxAt.mk w 0 0)
  clear b1 h hM
  unfold IntPost at q1
  have hrl2 := rdLabel_eq s bad
  generalize rdStep s bad 0 7 = r1 at q1 hl hrl2
  obtain ⟨n1, s1, bad1⟩ := r1
  simp only at q1 hl hrl2
  have HRL := Lib.hid hrl2
  clear hbd hrl2
  go_enter Tryz.func83, Tryz.ntmps83
  go_wp2_with fail
  refine q1.mono ?_
  rintro e w2 ⟨rfl, hr, hk⟩
  have HX1 := Lib.hid (HX1.out.kept hk (by omega))
  have HM2 := Lib.hid (hk.met HM1.out h5)
  have HK2 := Lib.hid (HK1.out.trans hk)
  have hz2 : w.heap.size < w2.heap.size := HX1.out.1
  have b2 := below1 w2 (.cells #[.int .i64 n1, .int .u16 0] 80)
  have q2 := readerInt b s1 bad1 0 65535 _ (hr.below b2) (HM2.out.below b2) h5 (by omega)
  have HX1 := Lib.hid (HX1.out.below b2)
  have HX2 := Lib.hid (BxAt.mk w2 n1 0)
  have HK3 := Lib.hid (HK2.out.trans (KeptB.of (show b < w2.heap.size by omega) b2))
  clear q1 hr hk b2
  have hbd2 := @rdStep_bounds s1 bad1 0 65535
  unfold IntPost at q2
  have hrl := HRL.out
  generalize rdStep s1 bad1 0 65535 = r2 at q2 hbd2 hrl
  obtain ⟨n2, s2, bad2⟩ := r2
  simp only at q2 hbd2 hrl
  have HBD2 := Lib.hid hbd2
  have HRL := Lib.hid hrl
  clear hbd2 hrl
  go_wp2_with fail
  refine q2.mono ?_
  rintro e w3 ⟨rfl, hr, hk⟩
  have HX1 := Lib.hid (HX1.out.kept hk (by omega))
  have HX2 := Lib.hid (HX2.out.kept hk (by omega))
  have HK := Lib.hid (HK3.out.trans hk)
  have HR := Lib.hid hr
  clear q2 hr hk
  obtain ⟨y1, c10, c11, f10, f11⟩ := HX1.out
  obtain ⟨y2, c20, c21, f20, f21⟩ := HX2.out
  have hne : w.heap.size ≠ w2.heap.size := by omega
  cases bad2 with
  | true =>
    go_wp2_with fail
    refine (readerOk b s2 true _ (HR.out.setO (show b ≠ w2.heap.size by omega) 1 _)).mono ?_
    rintro e w' ⟨rfl, rfl⟩
    go_wp2
    refine bodyPost_ret (v := (.agg #[.int .i64 (0), .int .u16 ((0 : Nat) : Int)])) (by rw [results_cellX rfl]; go_simp) rfl ?_
    unfold LblPost
    rw [HRL.out]
    exact ⟨rfl, ((HR.out.setO (show b ≠ w2.heap.size by omega) 1 _).setO (show b ≠ w.heap.size by omega) 0 _).setO (show b ≠ w.heap.size by omega) 1 _, ((HK.out.setN bz (by omega) 1 _).setN bz (Nat.le_refl _) 0 _).setN bz (Nat.le_refl _) 1 _⟩
  | false =>
    have hn2 := HBD2.out rfl
    have hw2 : IntKind.u16.wrap n2 = n2 := by simp [IntKind.wrap, IntKind.signed, IntKind.bits]; omega
    have hn2' : ((n2.toNat : Nat) : Int) = n2 := by omega
    go_wp2_with fail
    refine (readerOk b s2 false _ (HR.out.setO (show b ≠ w2.heap.size by omega) 1 _)).mono ?_
    rintro e w' ⟨rfl, rfl⟩
    go_wp2
    refine bodyPost_ret (v := .agg #[.int .i64 n1, .int .u16 n2]) (by rw [results_cellX rfl]; go_simp) rfl ?_
    unfold LblPost
    rw [HRL.out]
    refine ⟨?_, ((HR.out.setO (show b ≠ w2.heap.size by omega) 1 _).setO (show b ≠ w.heap.size by omega) 0 _).setO (show b ≠ w.heap.size by omega) 1 _, ((HK.out.setN bz (by omega) 1 _).setN bz (Nat.le_refl _) 0 _).setN bz (Nat.le_refl _) 1 _⟩
    unfold labelOf
    simp only [Bool.false_eq_true, if_false]
    rw [hn2']
end Go.Proofs.YtbbcicengfmhiaaGreatDoor

namespace Go.Proofs.YtbbcicengfmhiaaGreatDoor
open Go.RowKit

set_option maxRecDepth 100000 in
set_option maxHeartbeats 2000000 in
theorem builderString0 (b : Nat) (w : World) (hbk : w.heap[b]? = some (.cells #[.pointer none, .slice none 0 0] 117 (0, 0))) :
    Calls Tryz.prog 95 #[.pointer (some ⟨b, 0, none⟩)] w fun e w' => e = .returned (.string ⟨#[]⟩) ∧ Below w.heap.size w w' := by
  have c1 : w.drew.cell? ⟨b, 1, none⟩ = some (.slice none 0 0) := by
    have : w.drew.heap[b]? = some (.cells #[.pointer none, .slice none 0 0] 117 (0, 0)) := hbk
    rw [Lib.cell_of_heap this]; rfl
  have hSD : ∀ ty, (Builtin.unsafeSliceData_ #[113] ty #[.slice none 0 0]).run Tryz.prog w.drew = .ok (.pointer none) w.drew := fun ty => Lib.run_unsafeSliceData_nil _ _ _ _ _
  have hUS : (Builtin.unsafeString_ #[211, 3] 9 #[.pointer none, .int .i64 0]).run Tryz.prog w.drew = .ok (.string ⟨#[]⟩) w.drew := Lib.run_unsafeString_none _ _ _ _ _
  go_enter Tryz.func95, Tryz.ntmps95
  go_wp2_with fail
  go_region
  all_goals (go_wp2; go_ret; exact ⟨rfl, Below.drew (Below.refl _ w)⟩)
set_option maxRecDepth 100000 in
theorem writerString0 (b : Nat) (w : World) (hbk : w.heap[b]? = some (.cells #[.pointer none, .slice none 0 0] 117 (0, 0))) :
    Calls Tryz.prog 52 #[.pointer (some ⟨b, 0, none⟩)] w fun e w' => e = .returned (.string ⟨#[]⟩) ∧ Below w.heap.size w w' := by
  go_enter Tryz.func52, Tryz.ntmps52
  go_wp2_with fail
  refine (builderString0 b w hbk).mono ?_
  rintro e w' ⟨rfl, hk⟩
  go_wp2
  go_ret
  exact ⟨rfl, hk⟩
end Go.Proofs.YtbbcicengfmhiaaGreatDoor

namespace Go.Proofs.YtbbcicengfmhiaaGreatDoor
open Go.RowKit

set_option maxRecDepth 100000 in
set_option maxHeartbeats 4000000 in
theorem leaseWrite (R T b : Nat) (l0 : List UInt8) (s si m k l u : Int) (w : World) (hW : WrAt R T b l0 w) (hM : Met w) (h5 : 9 ≤ b) (o1 : okI s) (o2 : okI si) (o3 : okI m) (o4 : okI k) (o5 : okI l) (o6 : okI u) (hlen : l0.length + 132 ≤ 140737488355328) :
    Calls Tryz.prog 92 #[.pointer (some ⟨b, 0, none⟩), (.agg #[.int .i64 (s), .int .i64 (si), .int .i64 (m), .int .i64 (k), .int .i64 (l), .int .i64 (u)])] w fun e w' => e = .returned (.tuple #[]) ∧ (∃ T', WrAt R T' b (l0 ++ numsL [s, si, m, k, l, u]) w') ∧ KeptW R b w w' := by
  have hbR := hW.1.1
  have hRz := hW.1.2.1
  have b1 := below1 w (.cells #[.int .i64 (s), .int .i64 (si), .int .i64 (m), .int .i64 (k), .int .i64 (l), .int .i64 (u)] 103)
  have b2 := below1 (w.alloc (.cells #[.int .i64 (s), .int .i64 (si), .int .i64 (m), .int .i64 (k), .int .i64 (l), .int .i64 (u)] 103)) (.cells #[.int .i64 (s), .int .i64 (si), .int .i64 (m), .int .i64 (k), .int .i64 (l), .int .i64 (u)] 3)
  have bb := b1.trans (b2.mono b1.size)
  have ez : (w.alloc (.cells #[.int .i64 (s), .int .i64 (si), .int .i64 (m), .int .i64 (k), .int .i64 (l), .int .i64 (u)] 103)).heap.size = w.heap.size + 1 := by simp
  have hs : Safe ((w.alloc (.cells #[.int .i64 (s), .int .i64 (si), .int .i64 (m), .int .i64 (k), .int .i64 (l), .int .i64 (u)] 103)).alloc (.cells #[.int .i64 (s), .int .i64 (si), .int .i64 (m), .int .i64 (k), .int .i64 (l), .int .i64 (u)] 3)) (w.heap.size + 1) := by
    rw [← ez]
    exact Safe.alloc _ _ (by decide)
  have q := writerInt R T b (w.heap.size + 1) 0 6 l0 [s, si, m, k, l, u] _ ((hW.below b1).below b2) (hM.below bb) h5 (fun j hj => by
    match j, hj with
    | 0, _ => exact o1
    | 1, _ => exact o2
    | 2, _ => exact o3
    | 3, _ => exact o4
    | 4, _ => exact o5
    | 5, _ => exact o6) (by simpa using hlen) (by omega) (.inr (.inr hs)) (fun j hj => by
    match j, hj with
    | 0, _ => go_simp
    | 1, _ => go_simp
    | 2, _ => go_simp
    | 3, _ => go_simp
    | 4, _ => go_simp
    | 5, _ => go_simp)
  have HK0 := Lib.hid (KeptW.of (R := R) (b := b) hRz hbR bb)
  clear hW hM hs bb b1 b2 ez o1 o2 o3 o4 o5 o6
  go_enter Tryz.func92, Tryz.ntmps92
  go_wp2_with fail
  refine q.mono ?_
  rintro e w2 ⟨rfl, hT, hK⟩
  have HT := Lib.hid hT
  have HK := Lib.hid (HK0.out.trans hK)
  clear q hT hK
  go_wp2
  go_end0
  exact ⟨rfl, HT.out, HK.out⟩

/-- a state of a reader, and what was read -/
def rd (st : List UInt8 × Bool) (hi : Int) : Int × (List UInt8 × Bool) := rdStep st.1 st.2 0 hi
structure Six where
  s : Int
  si : Int
  m : Int
  k : Int
  l : Int
  u : Int
  st : List UInt8 × Bool
def six (st : List UInt8 × Bool) : Six :=
  let r1 := rd st 4
  let r2 := rd r1.2 1000000
  let r3 := rd r2.2 6
  let r4 := rd r3.2 1000000
  let r5 := rd r4.2 1000000
  let r6 := rd r5.2 1000000
  ⟨r1.1, r2.1, r3.1, r4.1, r5.1, r6.1, r6.2⟩
def okSix (x : Six) : Bool := !x.st.2 && rightT x.s x.si x.m x.k x.l x.u
theorem rd_len (st : List UInt8 × Bool) (hi : Int) : (rd st hi).2.1.length ≤ st.1.length := rdStep_len st.1 st.2 0 hi
theorem rdStep_never (s : List UInt8) (bad : Bool) : rdStep s bad 1 0 = (0, s, true) := by
  cases bad with
  | true => rfl
  | false =>
    cases h : rdInt s 1 0 with
    | none => exact rdStep_none h
    | some v =>
      obtain ⟨n, r⟩ := v
      have hb := rdStep_bounds (s := s) (bad := false) (lo := 1) (hi := 0) (by rw [rdStep_some h])
      omega
def SixPost (b : Nat) (st : List UInt8 × Bool) (w : World) (e : Ending) (w' : World) : Prop :=
  (okSix (six st) = true ∧ e = .returned (.agg #[.int .i64 ((six st).s), .int .i64 ((six st).si), .int .i64 ((six st).m), .int .i64 ((six st).k), .int .i64 ((six st).l), .int .i64 ((six st).u)]) ∧ RdAt b (six st).st.1 false w' ∧ KeptB b w w') ∨
  (okSix (six st) = false ∧ e = .returned (.agg #[.int .i64 (0), .int .i64 (0), .int .i64 (0), .int .i64 (0), .int .i64 (0), .int .i64 (0)]) ∧ RdAt b (six st).st.1 true w' ∧ KeptB b w w')
/-- a try's box that another block's writes leave as it was -/
def TxAt (c : Nat) (s si m k l u : Int) (w : World) : Prop := w.heap[c]? = some (.cells #[.int .i64 s, .int .i64 si, .int .i64 m, .int .i64 k, .int .i64 l, .int .i64 u] 103 (0, 0))
theorem TxAt.lt {c : Nat} {s si m k l u : Int} {w : World} (h : TxAt c s si m k l u w) : c < w.heap.size := (Array.getElem?_eq_some_iff.1 h).1
theorem TxAt.mk (w : World) (s si m k l u : Int) : TxAt w.heap.size s si m k l u (w.alloc (.cells #[.int .i64 (s), .int .i64 (si), .int .i64 (m), .int .i64 (k), .int .i64 (l), .int .i64 (u)] 103)) := (MapKept.heap_alloc w _).1
theorem TxAt.kept {b c : Nat} {s si m k l u : Int} {w w' : World} (h : TxAt c s si m k l u w) (hk : KeptB b w w') (hne : c ≠ b) : TxAt c s si m k l u w' := (hk.2.1 c h.lt hne).trans h
theorem TxAt.below {c : Nat} {s si m k l u : Int} {w w' : World} (h : TxAt c s si m k l u w) (hb : Below w.heap.size w w') : TxAt c s si m k l u w' := (hb.block c h.lt).trans h
theorem TxAt.cells {c : Nat} {s si m k l u : Int} {w : World} (h : TxAt c s si m k l u w) : (w.cell? ⟨c, 0, none⟩ = some (.int .i64 s) ∧ w.cell? ⟨c, 1, none⟩ = some (.int .i64 si) ∧ w.cell? ⟨c, 2, none⟩ = some (.int .i64 m) ∧
    w.cell? ⟨c, 3, none⟩ = some (.int .i64 k) ∧ w.cell? ⟨c, 4, none⟩ = some (.int .i64 l) ∧ w.cell? ⟨c, 5, none⟩ = some (.int .i64 u)) := by
  refine ⟨?_, ?_, ?_, ?_, ?_, ?_⟩ <;> (rw [Lib.cell_of_heap h]; rfl)
theorem TxAt.frozen {c : Nat} {s si m k l u : Int} {w : World} (h : TxAt c s si m k l u w) (i : Nat) : w.frozen? ⟨c, i, none⟩ = false := Lib.frozen_of_heap h i
end Go.Proofs.YtbbcicengfmhiaaGreatDoor

namespace Go.Proofs.YtbbcicengfmhiaaGreatDoor
open Go.RowKit

theorem results_cellY {fn : Func} {p : Tmp} {ty : TypeId} (h : fn.results = #[.cell p ty]) (tmps : Array Value) (P : Program) (w : World) :
    (results fn tmps).run P w = ((asAddr (tmps.getD p undef)).run P w).andThen fun a w₁ => (loadVar ty a).run P w₁ := by
  simp only [results, h]
  simp [Sem.run_bind, Result.andThen]
theorem readK (b : Nat) (st : List UInt8 × Bool) (hi : Int) (h5 : 9 ≤ b) (hs : st.1.length < 4294967281) (r : Int × (List UInt8 × Bool)) (hr : r = rd st hi) (W : World) (h : RdAt b st.1 st.2 W) (hM : Met W) :
    Calls Tryz.prog 46 #[.pointer (some ⟨b, 0, none⟩), .int .i64 0, .int .i64 hi] W fun e w' => e = .returned (.int .i64 r.1) ∧ RdAt b r.2.1 r.2.2 w' ∧ KeptB b W w' := by
  have := readerInt b st.1 st.2 0 hi W h hM h5 hs
  unfold IntPost at this
  rw [hr]
  exact this
theorem readN (b : Nat) (s : List UInt8) (bad : Bool) (h5 : 9 ≤ b) (hs : s.length < 4294967281) (W : World) (h : RdAt b s bad W) (hM : Met W) :
    Calls Tryz.prog 46 #[.pointer (some ⟨b, 0, none⟩), .int .i64 1, .int .i64 0] W fun e w' => e = .returned (.int .i64 0) ∧ RdAt b s true w' ∧ KeptB b W w' := by
  have := readerInt b s bad 1 0 W h hM h5 hs
  unfold IntPost at this
  rw [rdStep_never] at this
  exact this
set_option maxRecDepth 100000 in
set_option maxHeartbeats 8000000 in
theorem leaseRead (b : Nat) (s0 : List UInt8) (bad : Bool) (w : World) (h : RdAt b s0 bad w) (hM : Met w) (h5 : 9 ≤ b) (hs : s0.length < 4294967281) : Calls Tryz.prog 48 #[.pointer (some ⟨b, 0, none⟩)] w (SixPost b (s0, bad) w) := by
  have bz := h.1
  obtain ⟨r1, h11⟩ : ∃ r, r = rd (s0, bad) 4 := ⟨_, rfl⟩
  obtain ⟨r2, h12⟩ : ∃ r, r = rd r1.2 1000000 := ⟨_, rfl⟩
  obtain ⟨r3, h13⟩ : ∃ r, r = rd r2.2 6 := ⟨_, rfl⟩
  obtain ⟨r4, h14⟩ : ∃ r, r = rd r3.2 1000000 := ⟨_, rfl⟩
  obtain ⟨r5, h15⟩ : ∃ r, r = rd r4.2 1000000 := ⟨_, rfl⟩
  obtain ⟨r6, h16⟩ : ∃ r, r = rd r5.2 1000000 := ⟨_, rfl⟩
  have HSX : six (s0, bad) = ⟨r1.1, r2.1, r3.1, r4.1, r5.1, r6.1, r6.2⟩ := by rw [h16, h15, h14, h13, h12, h11]; rfl
  have l1 : r1.2.1.length < 4294967281 := by have := rd_len (s0, bad) 4; rw [← h11] at this; have h0 := hs; (try simp only at this); (try simp only at h0); omega
  have k1 := readK b (s0, bad) 4 h5 hs r1 h11
  have l2 : r2.2.1.length < 4294967281 := by have := rd_len r1.2 1000000; rw [← h12] at this; have h0 := l1; (try simp only at this); (try simp only at h0); omega
  have k2 := readK b r1.2 1000000 h5 l1 r2 h12
  have l3 : r3.2.1.length < 4294967281 := by have := rd_len r2.2 6; rw [← h13] at this; have h0 := l2; (try simp only at this); (try simp only at h0); omega
  have k3 := readK b r2.2 6 h5 l2 r3 h13
  have l4 : r4.2.1.length < 4294967281 := by have := rd_len r3.2 1000000; rw [← h14] at this; have h0 := l3; (try simp only at this); (try simp only at h0); omega
  have k4 := readK b r3.2 1000000 h5 l3 r4 h14
  have l5 : r5.2.1.length < 4294967281 := by have := rd_len r4.2 1000000; rw [← h15] at this; have h0 := l4; (try simp only at this); (try simp only at h0); omega
  have k5 := readK b r4.2 1000000 h5 l4 r5 h15
  have l6 : r6.2.1.length < 4294967281 := by have := rd_len r5.2 1000000; rw [← h16] at this; have h0 := l5; (try simp only at this); (try simp only at h0); omega
  have k6 := readK b r5.2 1000000 h5 l5 r6 h16
  have k7 := readN b r6.2.1 r6.2.2 h5 l6
  clear h11 h12 h13 h14 h15 h16 l1 l2 l3 l4 l5 l6
  obtain ⟨n1, s1, b1⟩ := r1
  obtain ⟨n2, s2, b2⟩ := r2
  obtain ⟨n3, s3, b3⟩ := r3
  obtain ⟨n4, s4, b4⟩ := r4
  obtain ⟨n5, s5, b5⟩ := r5
  obtain ⟨n6, s6, b6⟩ := r6
  simp only at k1 k2 k3 k4 k5 k6 k7 HSX
  have HSX2 := Lib.hid HSX
  have K1 := Lib.hid k1
  have K2 := Lib.hid k2
  have K3 := Lib.hid k3
  have K4 := Lib.hid k4
  have K5 := Lib.hid k5
  have K6 := Lib.hid k6
  have K7 := Lib.hid k7
  have KO := Lib.hid (leaseRight n1 n2 n3 n4 n5 n6)
  generalize hrt : rightT n1 n2 n3 n4 n5 n6 = rt at KO
  have HRT := Lib.hid hrt
  have b1 := below1 w (.cells #[.int .i64 (0), .int .i64 (0), .int .i64 (0), .int .i64 (0), .int .i64 (0), .int .i64 (0)] 103)
  have HT := Lib.hid (TxAt.mk w 0 0 0 0 0 0)
  have HR := Lib.hid (h.below b1)
  have HM := Lib.hid (hM.below b1)
  have HK := Lib.hid (KeptB.of bz b1)
  have hne : w.heap.size ≠ b := by omega
  clear HSX hrt b1 h hM k1 k2 k3 k4 k5 k6 k7
  go_enter Tryz.func48, Tryz.ntmps48
  go_wp2_with fail
  refine (K1.out _ HR.out HM.out).mono ?_
  rintro e w1 ⟨rfl, hr, hk⟩
  have HT := Lib.hid (HT.out.kept hk hne)
  have HM := Lib.hid (hk.met HM.out h5)
  have HK := Lib.hid (HK.out.trans hk)
  have HR := Lib.hid hr
  clear hr hk
  go_wp2_with fail
  refine (K2.out _ HR.out HM.out).mono ?_
  rintro e w2 ⟨rfl, hr, hk⟩
  have HT := Lib.hid (HT.out.kept hk hne)
  have HM := Lib.hid (hk.met HM.out h5)
  have HK := Lib.hid (HK.out.trans hk)
  have HR := Lib.hid hr
  clear hr hk
  go_wp2_with fail
  refine (K3.out _ HR.out HM.out).mono ?_
  rintro e w3 ⟨rfl, hr, hk⟩
  have HT := Lib.hid (HT.out.kept hk hne)
  have HM := Lib.hid (hk.met HM.out h5)
  have HK := Lib.hid (HK.out.trans hk)
  have HR := Lib.hid hr
  clear hr hk
  go_wp2_with fail
  refine (K4.out _ HR.out HM.out).mono ?_
  rintro e w4 ⟨rfl, hr, hk⟩
  have HT := Lib.hid (HT.out.kept hk hne)
  have HM := Lib.hid (hk.met HM.out h5)
  have HK := Lib.hid (HK.out.trans hk)
  have HR := Lib.hid hr
  clear hr hk
  go_wp2_with fail
  refine (K5.out _ HR.out HM.out).mono ?_
  rintro e w5 ⟨rfl, hr, hk⟩
  have HT := Lib.hid (HT.out.kept hk hne)
  have HM := Lib.hid (hk.met HM.out h5)
  have HK := Lib.hid (HK.out.trans hk)
  have HR := Lib.hid hr
  clear hr hk
  go_wp2_with fail
  refine (K6.out _ HR.out HM.out).mono ?_
  rintro e w6 ⟨rfl, hr, hk⟩
  have HT := Lib.hid (HT.out.kept hk hne)
  have HM := Lib.hid (hk.met HM.out h5)
  have HK := Lib.hid (HK.out.trans hk)
  have HR := Lib.hid hr
  clear hr hk
  go_wp2_with fail
  have b2 := below1 w6 (.cells #[.int .i64 (n1), .int .i64 (n2), .int .i64 (n3), .int .i64 (n4), .int .i64 (n5), .int .i64 (n6)] 103)
  have HX := Lib.hid (TxAt.mk w6 n1 n2 n3 n4 n5 n6)
  have HT := Lib.hid (HT.out.below b2)
  have HR := Lib.hid (HR.out.below b2)
  have HM := Lib.hid (HM.out.below b2)
  have hbz6 : b < w6.heap.size := Nat.lt_of_lt_of_le bz HK.out.2.2
  have hw6 : w.heap.size ≤ w6.heap.size := HK.out.2.2
  have HK := Lib.hid (HK.out.trans (KeptB.of hbz6 b2))
  have HR7z := HR.out.1
  clear b2
  refine (readerOk b s6 b6 _ HR.out).mono ?_
  rintro e w7 ⟨rfl, rfl⟩
  cases b6 with
  | true =>
    go_wp2_with fail
    refine (K7.out _ HR.out HM.out).mono ?_
    rintro e w8 ⟨rfl, hr, hk⟩
    have HT := Lib.hid (HT.out.kept hk hne)
    have HK := Lib.hid (HK.out.trans hk)
    have HR := Lib.hid hr
    clear hr hk
    obtain ⟨d0, d1, d2, d3, d4, d5⟩ := HT.out.cells
    have f0 := HT.out.frozen 0
    have f1 := HT.out.frozen 1
    have f2 := HT.out.frozen 2
    have f3 := HT.out.frozen 3
    have f4 := HT.out.frozen 4
    have f5 := HT.out.frozen 5
    go_wp2
    refine bodyPost_ret (v := (.agg #[.int .i64 (0), .int .i64 (0), .int .i64 (0), .int .i64 (0), .int .i64 (0), .int .i64 (0)])) (by rw [results_cellY rfl]; go_simp) rfl ?_
    unfold SixPost
    rw [HSX2.out]
    refine .inr ⟨?_, rfl, ((((((HR.out).setO (show b ≠ w.heap.size by omega) 0 _).setO (show b ≠ w.heap.size by omega) 1 _).setO (show b ≠ w.heap.size by omega) 2 _).setO (show b ≠ w.heap.size by omega) 3 _).setO (show b ≠ w.heap.size by omega) 4 _).setO (show b ≠ w.heap.size by omega) 5 _, ((((((HK.out).setN bz (Nat.le_refl _) 0 _).setN bz (Nat.le_refl _) 1 _).setN bz (Nat.le_refl _) 2 _).setN bz (Nat.le_refl _) 3 _).setN bz (Nat.le_refl _) 4 _).setN bz (Nat.le_refl _) 5 _⟩
    unfold okSix
    simp only
    rfl
  | false =>
    obtain ⟨c0, c1, c2, c3, c4, c5⟩ := HX.out.cells
    go_wp2_with fail
    refine (KO.out _).mono ?_
    rintro e w8 ⟨rfl, hb⟩
    have HT := Lib.hid (HT.out.below hb)
    have HX := Lib.hid (HX.out.below hb)
    have HR := Lib.hid (HR.out.below hb)
    have HM := Lib.hid (HM.out.below hb)
    have HK := Lib.hid (HK.out.trans (KeptB.of HR7z hb))
    clear hb c0 c1 c2 c3 c4 c5
    cases rt with
    | false =>
      go_wp2_with fail
      refine (K7.out _ HR.out HM.out).mono ?_
      rintro e w9 ⟨rfl, hr, hk⟩
      have HT := Lib.hid (HT.out.kept hk hne)
      have HK := Lib.hid (HK.out.trans hk)
      have HR := Lib.hid hr
      clear hr hk
      obtain ⟨d0, d1, d2, d3, d4, d5⟩ := HT.out.cells
      have f0 := HT.out.frozen 0
      have f1 := HT.out.frozen 1
      have f2 := HT.out.frozen 2
      have f3 := HT.out.frozen 3
      have f4 := HT.out.frozen 4
      have f5 := HT.out.frozen 5
      go_wp2
      refine bodyPost_ret (v := (.agg #[.int .i64 (0), .int .i64 (0), .int .i64 (0), .int .i64 (0), .int .i64 (0), .int .i64 (0)])) (by rw [results_cellY rfl]; go_simp) rfl ?_
      unfold SixPost
      rw [HSX2.out]
      refine .inr ⟨?_, rfl, ((((((HR.out).setO (show b ≠ w.heap.size by omega) 0 _).setO (show b ≠ w.heap.size by omega) 1 _).setO (show b ≠ w.heap.size by omega) 2 _).setO (show b ≠ w.heap.size by omega) 3 _).setO (show b ≠ w.heap.size by omega) 4 _).setO (show b ≠ w.heap.size by omega) 5 _, ((((((HK.out).setN bz (Nat.le_refl _) 0 _).setN bz (Nat.le_refl _) 1 _).setN bz (Nat.le_refl _) 2 _).setN bz (Nat.le_refl _) 3 _).setN bz (Nat.le_refl _) 4 _).setN bz (Nat.le_refl _) 5 _⟩
      unfold okSix
      simp only
      rw [HRT.out]
      rfl
    | true =>
      obtain ⟨c0, c1, c2, c3, c4, c5⟩ := HX.out.cells
      obtain ⟨d0, d1, d2, d3, d4, d5⟩ := HT.out.cells
      have f0 := HT.out.frozen 0
      have f1 := HT.out.frozen 1
      have f2 := HT.out.frozen 2
      have f3 := HT.out.frozen 3
      have f4 := HT.out.frozen 4
      have f5 := HT.out.frozen 5
      go_wp2
      refine bodyPost_ret (v := (.agg #[.int .i64 (n1), .int .i64 (n2), .int .i64 (n3), .int .i64 (n4), .int .i64 (n5), .int .i64 (n6)])) (by rw [results_cellY rfl]; go_simp) rfl ?_
      unfold SixPost
      rw [HSX2.out]
      refine .inl ⟨?_, rfl, ((((((HR.out).setO (show b ≠ w.heap.size by omega) 0 _).setO (show b ≠ w.heap.size by omega) 1 _).setO (show b ≠ w.heap.size by omega) 2 _).setO (show b ≠ w.heap.size by omega) 3 _).setO (show b ≠ w.heap.size by omega) 4 _).setO (show b ≠ w.heap.size by omega) 5 _, ((((((HK.out).setN bz (Nat.le_refl _) 0 _).setN bz (Nat.le_refl _) 1 _).setN bz (Nat.le_refl _) 2 _).setN bz (Nat.le_refl _) 3 _).setN bz (Nat.le_refl _) 4 _).setN bz (Nat.le_refl _) 5 _⟩
      unfold okSix
      simp only
      rw [HRT.out]
      rfl
end Go.Proofs.YtbbcicengfmhiaaGreatDoor

/- A try written, a try read. -/
import Derived.Test.YtpkmgdpnimecfabDoorLea4
import Derived.Test.YtpkmgdpnimecfabDoorCbk2
namespace Go.Proofs.YtpkmgdpnimecfabDoor
open Go.RowKit

set_option maxRecDepth 100000 in
set_option maxHeartbeats 4000000 in
theorem leaseWrite (R T b : Nat) (l0 : List UInt8) (s si m k l u : Int) (w : World) (hW : WrAt R T b l0 w) (hM : Met w) (h5 : 7 ≤ b) (o1 : okI s) (o2 : okI si) (o3 : okI m) (o4 : okI k) (o5 : okI l) (o6 : okI u) (hlen : l0.length + 132 ≤ 140737488355328) :
    Calls Tryd.prog 56 #[.pointer (some ⟨b, 0, none⟩), (.agg #[.int .i64 (s), .int .i64 (si), .int .i64 (m), .int .i64 (k), .int .i64 (l), .int .i64 (u)])] w fun e w' => e = .returned (.tuple #[]) ∧ (∃ T', WrAt R T' b (l0 ++ numsL [s, si, m, k, l, u]) w') ∧ KeptW R b w w' := by
  have hbR := hW.1.1
  have hRz := hW.1.2.1
  have b1 := below1 w (.cells #[.int .i64 (s), .int .i64 (si), .int .i64 (m), .int .i64 (k), .int .i64 (l), .int .i64 (u)] 84)
  have b2 := below1 (w.alloc (.cells #[.int .i64 (s), .int .i64 (si), .int .i64 (m), .int .i64 (k), .int .i64 (l), .int .i64 (u)] 84)) (.cells #[.int .i64 (s), .int .i64 (si), .int .i64 (m), .int .i64 (k), .int .i64 (l), .int .i64 (u)] 3)
  have bb := b1.trans (b2.mono b1.size)
  have ez : (w.alloc (.cells #[.int .i64 (s), .int .i64 (si), .int .i64 (m), .int .i64 (k), .int .i64 (l), .int .i64 (u)] 84)).heap.size = w.heap.size + 1 := by simp
  have hs : Safe ((w.alloc (.cells #[.int .i64 (s), .int .i64 (si), .int .i64 (m), .int .i64 (k), .int .i64 (l), .int .i64 (u)] 84)).alloc (.cells #[.int .i64 (s), .int .i64 (si), .int .i64 (m), .int .i64 (k), .int .i64 (l), .int .i64 (u)] 3)) (w.heap.size + 1) := by
    rw [← ez]
    exact Safe.alloc _ _ (by decide)
  have q := writerInt R T b (w.heap.size + 1) 0 6 l0 [s, si, m, k, l, u] _ ((hW.below b1).below b2) (hM.below bb) h5 (fun j hj => by
    match j, hj with
    | 0, _ => exact o1
    | 1, _ => exact o2
    | 2, _ => exact o3
    | 3, _ => exact o4
    | 4, _ => exact o5
    | 5, _ => exact o6) (by simpa using hlen) (by omega) (.inr (.inr hs)) (fun j hj => by
    match j, hj with
    | 0, _ => go_simp
    | 1, _ => go_simp
    | 2, _ => go_simp
    | 3, _ => go_simp
    | 4, _ => go_simp
    | 5, _ => go_simp)
  have HK0 := Lib.hid (KeptW.of (R := R) (b := b) hRz hbR bb)
  clear hW hM hs bb b1 b2 ez o1 o2 o3 o4 o5 o6
  go_enter Tryd.func56, Tryd.ntmps56
  go_wp2_with fail
  refine q.mono ?_
  rintro e w2 ⟨rfl, hT, hK⟩
  have HT := Lib.hid hT
  have HK := Lib.hid (HK0.out.trans hK)
  clear q hT hK
  go_wp2
  go_end0
  exact ⟨rfl, HT.out, HK.out⟩

/-- a state of a reader, and what was read -/
def rd (st : List UInt8 × Bool) (hi : Int) : Int × (List UInt8 × Bool) := rdStep st.1 st.2 0 hi
structure Six where
  s : Int
  si : Int
  m : Int
  k : Int
  l : Int
  u : Int
  st : List UInt8 × Bool
def six (st : List UInt8 × Bool) : Six :=
  let r1 := rd st 4
  let r2 := rd r1.2 1000000
  let r3 := rd r2.2 6
  let r4 := rd r3.2 1000000
  let r5 := rd r4.2 1000000
  let r6 := rd r5.2 1000000
  ⟨r1.1, r2.1, r3.1, r4.1, r5.1, r6.1, r6.2⟩
def okSix (x : Six) : Bool := !x.st.2 && rightT x.s x.si x.m x.k x.l x.u
theorem rd_len (st : List UInt8 × Bool) (hi : Int) : (rd st hi).2.1.length ≤ st.1.length := rdStep_len st.1 st.2 0 hi
theorem rdStep_never (s : List UInt8) (bad : Bool) : rdStep s bad 1 0 = (0, s, true) := by
  cases bad with
  | true => rfl
  | false =>
    cases h : rdInt s 1 0 with
    | none => exact rdStep_none h
    | some v =>
      obtain ⟨n, r⟩ := v
      have hb := rdStep_bounds (s := s) (bad := false) (lo := 1) (hi := 0) (by rw [rdStep_some h])
      omega
def SixPost (b : Nat) (st : List UInt8 × Bool) (w : World) (e : Ending) (w' : World) : Prop :=
  (okSix (six st) = true ∧ e = .returned (.agg #[.int .i64 ((six st).s), .int .i64 ((six st).si), .int .i64 ((six st).m), .int .i64 ((six st).k), .int .i64 ((six st).l), .int .i64 ((six st).u)]) ∧ RdAt b (six st).st.1 false w' ∧ KeptB b w w') ∨
  (okSix (six st) = false ∧ e = .returned (.agg #[.int .i64 (0), .int .i64 (0), .int .i64 (0), .int .i64 (0), .int .i64 (0), .int .i64 (0)]) ∧ RdAt b (six st).st.1 true w' ∧ KeptB b w w')
/-- a try's box that another block's writes leave as it was -/
def TxAt (c : Nat) (s si m k l u : Int) (w : World) : Prop := w.heap[c]? = some (.cells #[.int .i64 s, .int .i64 si, .int .i64 m, .int .i64 k, .int .i64 l, .int .i64 u] 84 (0, 0))
theorem TxAt.lt {c : Nat} {s si m k l u : Int} {w : World} (h : TxAt c s si m k l u w) : c < w.heap.size := (Array.getElem?_eq_some_iff.1 h).1
theorem TxAt.mk (w : World) (s si m k l u : Int) : TxAt w.heap.size s si m k l u (w.alloc (.cells #[.int .i64 (s), .int .i64 (si), .int .i64 (m), .int .i64 (k), .int .i64 (l), .int .i64 (u)] 84)) := (MapKept.heap_alloc w _).1
theorem TxAt.kept {b c : Nat} {s si m k l u : Int} {w w' : World} (h : TxAt c s si m k l u w) (hk : KeptB b w w') (hne : c ≠ b) : TxAt c s si m k l u w' := (hk.2.1 c h.lt hne).trans h
theorem TxAt.below {c : Nat} {s si m k l u : Int} {w w' : World} (h : TxAt c s si m k l u w) (hb : Below w.heap.size w w') : TxAt c s si m k l u w' := (hb.block c h.lt).trans h
theorem TxAt.cells {c : Nat} {s si m k l u : Int} {w : World} (h : TxAt c s si m k l u w) : (w.cell? ⟨c, 0, none⟩ = some (.int .i64 s) ∧ w.cell? ⟨c, 1, none⟩ = some (.int .i64 si) ∧ w.cell? ⟨c, 2, none⟩ = some (.int .i64 m) ∧
    w.cell? ⟨c, 3, none⟩ = some (.int .i64 k) ∧ w.cell? ⟨c, 4, none⟩ = some (.int .i64 l) ∧ w.cell? ⟨c, 5, none⟩ = some (.int .i64 u)) := by
  refine ⟨?_, ?_, ?_, ?_, ?_, ?_⟩ <;> (rw [Lib.cell_of_heap h]; rfl)
theorem TxAt.frozen {c : Nat} {s si m k l u : Int} {w : World} (h : TxAt c s si m k l u w) (i : Nat) : w.frozen? ⟨c, i, none⟩ = false := Lib.frozen_of_heap h i
end Go.Proofs.YtpkmgdpnimecfabDoor

/- strings.SplitSeq at a separator of one byte: the iterator's contract. -/
import Derived.RangeFuncFrom
import Derived.RangeFuncBound
import Derived.RangeFuncCalls
import Derived.RangeFuncLeaves
import Derived.Shelf.Abstract
import Derived.Shelf.RegionOpen
import Derived.WalkKit
import Derived.OwnWalkIn
import Derived.TacticsInMore
import Derived.LoopNIn
import Derived.LoopIn
import Derived.Test.YtefnkoofgpmmmaaGreatDoorSqW
import Derived.Test.YtefnkoofgpmmmaaGreatDoorSqM
import Derived.Test.YtefnkoofgpmmmaaGreatDoorBlk
import Derived.Test.YtefnkoofgpmmmaaGreatDoorSh
namespace Go.Proofs.YtefnkoofgpmmmaaGreatDoor
set_option maxRecDepth 100000
open Go.RowKit Go.Shelf
attribute [local go_sem] Oper.semAt_some

theorem strIdx (s : ByteArray) (c : UInt8) (w : World) : Calls Tryz.prog 151 #[.string s, .string ⟨#[c]⟩] w fun e w' => e = .returned (.int .i64 (Lib.indexByte s.data.toList c)) ∧ w' = w := by
  go_enter Tryz.func151, Tryz.ntmps151
  go_wp2_with (go_at_call 204; refine (Any.stringslite_Index_one (ρ := Tryz.lays145_ren) { Tryz.lays145 with } _ _ _).mono ?_; rintro e w' ⟨rfl, rfl⟩)
  go_ret
  exact ⟨rfl, rfl⟩
/-- how much of the text is left, read off the world -/
def leftQ (q : Nat) (w : World) : Nat := match w.cell? ⟨q, 0, none⟩ with
  | some (.string r) => r.size
  | _ => 0
theorem leftQ_eq {q : Nat} {w : World} {r : ByteArray} (h : BlkIs w q [.string r] 9) : leftQ q w = r.size := by
  unfold leftQ
  rw [h.cell 0]
  rfl
set_option maxHeartbeats 2000000 in
theorem seq119 (n : Nat) (hn : 1 ≤ n) (q : Nat) (c : UInt8) (r0 : ByteArray) (w : World) (hs : r0.size ≤ maxLen) (h0 : BlkIs w q [.string r0] 9) (h1 : BlkIs w (q + 1) [.string ⟨#[c]⟩] 9) (h2 : BlkIs w (q + 2) [.int .i64 0] 3) :
    SeqQ Fence.wide n Tryz.prog 149 #[.pointer (some ⟨q + 1, 0, none⟩), .pointer (some ⟨q, 0, none⟩), .pointer (some ⟨q + 2, 0, none⟩)] q (pcsB c r0) w := fun l J Jx W hW hJ hJx hY hj0 => by
  refine callsIn_of_wp Tryz.func149 rfl trivial ?_ rfl
  replace h0 := h0.below hW
  replace h1 := h1.below hW
  replace h2 := h2.below hW
  simp only [Tryz.ntmps149, List.size_toArray, List.length_cons, List.length_nil, Nat.reduceAdd, Nat.reduceSub, Array.replicate_succ, Array.replicate_zero, List.push_toArray, List.append_toArray, List.nil_append, List.cons_append]
  have HB0 := Lib.hid h0
  have HB1 := Lib.hid h1
  have HB2 := Lib.hid h2
  have c1 := h1.cell 0
  simp only [List.getElem?_cons_zero] at c1
  have c0 := h0.cell 0
  simp only [List.getElem?_cons_zero] at c0
  clear h0 h1 h2
  gi_wp2
  gi_loopw [7] (fun _ wr => ∃ (pre : List ByteArray) (r : ByteArray), r.size ≤ maxLen ∧ pcsB c r0 = pre ++ pcsB c r ∧ BlkIs wr q [.string r] 9 ∧ BlkIs wr (q + 1) [.string ⟨#[c]⟩] 9 ∧ BlkIs wr (q + 2) [.int .i64 0] 3 ∧ J pre wr) (fun _ wr => leftQ q wr)
  case atStart => exact ⟨[], r0, hs, rfl, HB0.out, HB1.out, HB2.out, hj0⟩
  case round =>
    obtain ⟨pre, r, hr, hx, k0, k1, k2, hj⟩ := hrel
    clear c0 c1
    have c1 := k1.cell 0
    simp only [List.getElem?_cons_zero] at c1
    have c0 := k0.cell 0
    simp only [List.getElem?_cons_zero] at c0
    have c2 := k2.cell 0
    simp only [List.getElem?_cons_zero] at c2
    have HM := Lib.hid (leftQ_eq k0)
    have HK0 := Lib.hid k0
    have HK1 := Lib.hid k1
    have HK2 := Lib.hid k2
    have HX := Lib.hid hx
    have HJ := Lib.hid hj
    clear k0 k1 k2 hx hj
    obtain ⟨z, hz⟩ : ∃ z, z = Lib.indexByte r.data.toList c := ⟨_, rfl⟩
    have hge : -1 ≤ z := by rw [hz]; exact Lib.indexByte_ge _ _
    have HZ := Lib.hid hz
    by_cases hneg : z < 0
    · have HP := Lib.hid (pcsB_none (show Lib.indexByte r.data.toList c < 0 by rw [← hz]; exact hneg))
      obtain ⟨fn, tmps, assign, body, hy, hR⟩ := hY pre r [] wr (by rw [HX.out, HP.out]) HJ.out
      clear hz
      gi_wp2_with (refine ⟨trivial, ?_⟩; gi_at_call 151; refine (callsIn_wide.2 (strIdx _ _ _)).mono ?_; rintro e w' ⟨rfl, rfl⟩; rw [← HZ.out])
      refine hR.mono ?_
      rintro e W3 (⟨rfl, hJ3, _⟩ | ⟨rfl, hJx3⟩)
      · gi_wp2
        go_end0
        exact ⟨⟨_, rfl⟩, .inl (by rw [HX.out, HP.out]; exact hJ3)⟩
      · gi_wp2
        go_end0
        exact ⟨⟨_, rfl⟩, .inr ⟨pre ++ [r], by rw [HX.out, HP.out]; exact List.prefix_refl _, hJx3⟩⟩
    · obtain ⟨i, rfl⟩ := Int.eq_ofNat_of_zero_le (show 0 ≤ z by omega)
      obtain ⟨hi, hpc⟩ := pcsB_some hz.symm
      have HP := Lib.hid hpc
      obtain ⟨fn, tmps, assign, body, hy, hR⟩ := hY pre (r.extract 0 i) _ wr (by rw [HX.out, HP.out]) HJ.out
      clear hz hpc hge
      unfold maxLen at hr
      have hi1 : (i : Int) ≤ (r.size : Int) := by omega
      have hi2 : (i : Int) + 1 ≤ (r.size : Int) := by omega
      have e2 : wrap64 ((i : Int) + 1) = (i : Int) + 1 := by unfold wrap64; omega
      gi_wp2_with (refine ⟨trivial, ?_⟩; gi_at_call 151; refine (callsIn_wide.2 (strIdx _ _ _)).mono ?_; rintro e w' ⟨rfl, rfl⟩; rw [← HZ.out])
      refine hR.mono ?_
      rintro e W3 (⟨rfl, hJ3, hk3⟩ | ⟨rfl, hJx3⟩)
      · have n0 := HK0.out.of (hk3 q (Nat.le_refl _) (by omega))
        have n1 := HK1.out.of (hk3 (q + 1) (by omega) (by omega))
        have n2 := HK2.out.of (hk3 (q + 2) (by omega) (by omega))
        clear c0 c1 c2 hk3
        have c1 := n1.cell 0
        simp only [List.getElem?_cons_zero] at c1
        have c0 := n0.cell 0
        simp only [List.getElem?_cons_zero] at c0
        have f0 := n0.frozen 0
        have HK0 := Lib.hid n0
        have HK1 := Lib.hid n1
        have HK2 := Lib.hid n2
        have HJ3 := Lib.hid hJ3
        clear n0 n1 n2 hJ3
        gi_wp2
        go_roundw
        case rel =>
          refine ⟨pre ++ [r.extract 0 i], r.extract (i + 1) r.size, by rw [ByteArray.size_extract]; unfold maxLen; omega, by rw [HX.out, HP.out]; simp, ?_, ?_, ?_, hJ _ _ _ HJ3.out⟩
          · exact HK0.out.set _
          · exact HK1.out.of (Below.heap_setCell _ _ _ _ (show q + 1 ≠ q by omega))
          · exact HK2.out.of (Below.heap_setCell _ _ _ _ (show q + 2 ≠ q by omega))
        case measure =>
          rw [leftQ_eq (HK0.out.set (o := 0) _)]
          rw [HM.out, ByteArray.size_extract]
          omega
      · gi_wp2
        refine bodyPost_ret (results_none rfl _ _ _) rfl ?_
        exact ⟨⟨_, rfl⟩, .inr ⟨pre ++ [r.extract 0 i], by rw [HX.out, HP.out]; exact ⟨_, List.append_assoc _ _ _⟩, hJx3⟩⟩
end Go.Proofs.YtefnkoofgpmmmaaGreatDoor

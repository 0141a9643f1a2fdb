/- The disk's small functions. Conditions: said at each. -/
import Derived.Test.YtbbcicengfmhiaaDoorSec3
import Derived.Test.YtbbcicengfmhiaaDoorDsk0
import Derived.Test.YtbbcicengfmhiaaDoorCod3
import Derived.BigRegion
import Derived.RegionTactic
import Derived.ChangeAlike
namespace Go.Proofs.YtbbcicengfmhiaaDoor
set_option maxRecDepth 100000
open Go.RowKit

theorem infoSec : (Tryd.prog.info? 163).map (fun i => (i.zero, i.size, i.bytes)) = some (some (.agg (bcs (zeros 64)).toArray), 64, 64) := by kernel_rfl
theorem made_zeros (n : Nat) : (madeCells (bcs (zeros 64)).toArray (n * 64)).toList = bcs (List.replicate n (zeros 64)).flatten := by
  have h1 : (bcs (zeros 64)) = List.replicate 64 (.int .u8 0) := rfl
  have h2 : (List.replicate n (zeros 64)).flatten = List.replicate (n * 64) 0 := by
    induction n with
    | zero => rfl
    | succ n ih =>
      rw [List.replicate_succ, List.flatten_cons, ih, zeros, List.replicate_append_replicate]
      congr 1
      omega
  rw [h2, h1]
  unfold madeCells bcs
  rw [List.map_replicate]
  apply List.ext_getElem
  · simp
  · intro i hi _
    simp at hi
    simp only [Array.toList_map, List.getElem_map, List.getElem_replicate]
    have hm : i % 64 < 64 := Nat.mod_lt _ (by decide)
    have hz : (List.replicate 64 (Value.int .u8 0)).toArray.size = 64 := by simp
    rw [Array.getElem_toList, Array.getElem_range, hz]
    rw [getElem!_pos _ _ (by rw [hz]; exact hm), List.getElem_toArray, List.getElem_replicate]
    rfl
theorem AllS.zeros (n : Nat) : AllS (List.replicate n (zeros 64)) := fun i hi => by
  rw [List.length_replicate] at hi
  rw [getElem!_pos _ i (by simpa using hi), List.getElem_replicate]
  rfl
theorem OkW.nil (n : Nat) : OkW n [] := fun i hi => by simp at hi
def NewDk (n : Nat) (w : World) (e : Ending) (w' : World) : Prop :=
  ∃ b, e = .returned (.tuple #[.pointer (some ⟨b, 0, none⟩), .int .i64 0]) ∧ DkAt b w.heap.size (List.replicate n (zeros 64)) (.slice none 0 0) [] false 0 0 0 w' ∧ Below w.heap.size w w'
set_option maxHeartbeats 1000000 in
theorem dskNew (n : Nat) (w : World) (h1 : 1 ≤ n) (h2 : n ≤ 4096) : Calls Tryd.prog 48 #[.int .i64 (n : Nat)] w (NewDk n w) := by
  have hi1 : 1 ≤ (n : Int) := by omega
  have hi2 : (n : Int) ≤ 4096 := by omega
  obtain ⟨i0, hi, hz0, hz1, hz2⟩ := info_parts infoSec
  go_enter Tryd.func48, Tryd.ntmps48
  go_wp2_with (with_reducible refine wpList_make_full _ rfl _ _ 151 rfl w.heap.size 163 i0 (.agg (bcs (zeros 64)).toArray) 64 Tryd.underlying151 hi hz0 hz1 .i64 .i64 (n : Int) (n : Int) n rfl rfl rfl rfl (by rw [hz2]; omega) (by unfold maxLen; omega) (Nat.le_refl _) ?_)
  intro w1 hown hgrow
  have hB : BlkIs w1 w.heap.size (bcs (List.replicate n (zeros 64)).flatten) 163 := by
    rcases hown.2 with ⟨e, _⟩ | ⟨g, cap, cur, hv, _, hh, _, _, hcs, htake⟩
    · cases e
    · simp only [Value.slice.injEq, Option.some.injEq, Addr.mk.injEq, true_and, and_true] at hv
      obtain ⟨rfl, rfl⟩ := hv
      rw [← made_zeros]
      unfold BlkIs
      rw [hh]
      rw [List.take_of_length_le (by rw [Array.length_toList]; omega)] at htake
      rw [← htake]
  have hbl := (Below.refl w.heap.size w).grown hgrow (Nat.le_refl _) (fun q hq => by cases hq)
  have HD := Lib.hid (show DkAt w1.heap.size w.heap.size (List.replicate n (zeros 64)) (.slice none 0 0) [] false 0 0 0 (w1.alloc (.cells #[.slice (some ⟨w.heap.size, 0, none⟩) n n, .slice none 0 0, .bool false, .int .i64 0, .int .u64 0, .int .i64 0] 154)) from by
    have ha := BlkIs.alloc w1 [.slice (some ⟨w.heap.size, 0, none⟩) n n, .slice none 0 0, .bool false, .int .i64 0, .int .u64 0, .int .i64 0] 154
    exact ⟨⟨hB.lt, AllS.zeros n, OkW.nil _⟩, by rw [List.length_replicate]; exact ha, hB.below (below1 _ _), ⟨rfl, .inl ⟨rfl, rfl⟩⟩⟩)
  have HB := Lib.hid (hbl.alloc hbl.size (.cells #[.slice (some ⟨w.heap.size, 0, none⟩) n n, .slice none 0 0, .bool false, .int .i64 0, .int .u64 0, .int .i64 0] 154))
  clear hown hgrow hB hbl hi hz0 hz1 hz2
  go_wp2
  go_ret2
  exact ⟨_, rfl, HD.out, HB.out⟩
theorem dskLen (b g : Nat) (K : List (List UInt8)) (cv : Value) (C : List Wr) (off : Bool) (armed : Int) (bits : Nat) (writes : Int) (w : World) (h : DkAt b g K cv C off armed bits writes w) :
    Calls Tryd.prog 100 #[.pointer (some ⟨b, 0, none⟩)] w fun e w' => e = .returned (.int .i64 (K.length : Nat)) ∧ w = w' := by
  have c0 := h.2.1.cell 0
  simp only [List.getElem?_cons_zero] at c0
  clear h
  go_enter Tryd.func100, Tryd.ntmps100
  go_wp2
  go_ret
  exact ⟨rfl, rfl⟩
theorem dskDown (b g : Nat) (K : List (List UInt8)) (cv : Value) (C : List Wr) (off : Bool) (armed : Int) (bits : Nat) (writes : Int) (w : World) (h : DkAt b g K cv C off armed bits writes w) :
    Calls Tryd.prog 101 #[.pointer (some ⟨b, 0, none⟩)] w fun e w' => e = .returned (.bool off) ∧ w = w' := by
  have c0 := h.2.1.cell 2
  simp only [List.getElem?_cons_zero, List.getElem?_cons_succ] at c0
  clear h
  go_enter Tryd.func101, Tryd.ntmps101
  go_wp2
  go_ret
  exact ⟨rfl, rfl⟩
theorem i64_and7 (n : Int) : bits .and .i64 n 7 = n % 8 := by
  have h7 : (BitVec.ofInt 64 7).toNat = 2 ^ 3 - 1 := by decide
  have key : (BitVec.ofInt 64 n &&& BitVec.ofInt 64 7).toNat = (n % ((2 ^ 64 : Nat) : Int)).toNat % 2 ^ 3 := by
    rw [BitVec.toNat_and, BitVec.toNat_ofInt, h7, Nat.and_two_pow_sub_one_eq_mod]
  show IntKind.i64.wrap ((BitVec.ofInt 64 n &&& BitVec.ofInt 64 7).toNat : Nat) = n % 8
  rw [key, IntKind.wrap_i64]
  omega
theorem i64_and1 (n : Int) : bits .and .i64 n 1 = n % 2 := by
  have h7 : (BitVec.ofInt 64 1).toNat = 2 ^ 1 - 1 := by decide
  have key : (BitVec.ofInt 64 n &&& BitVec.ofInt 64 1).toNat = (n % ((2 ^ 64 : Nat) : Int)).toNat % 2 ^ 1 := by
    rw [BitVec.toNat_and, BitVec.toNat_ofInt, h7, Nat.and_two_pow_sub_one_eq_mod]
  show IntKind.i64.wrap ((BitVec.ofInt 64 n &&& BitVec.ofInt 64 1).toNat : Nat) = n % 2
  rw [key, IntKind.wrap_i64]
  omega
theorem dskFate (bits i : Nat) (w : World) (hi : i < 1000000) : Calls Tryd.prog 106 #[.int .u64 (bits : Nat), .int .i64 (i : Nat)] w fun e w' => e = .returned (.int .i64 (fateN bits i : Nat)) ∧ w' = w := by
  have hi2 : (i : Int) ≤ 1000000 := by omega
  obtain ⟨c, hc⟩ : ∃ c, c = bits / 2 ^ (3 * (i % 21)) % 8 := ⟨_, rfl⟩
  have hE : Go.bits .and .i64 (wrap64 ((bits : Int) / 2 ^ (3 * (i % 21)))) 7 = ((c : Nat) : Int) := by
    have e : ((bits : Int) / 2 ^ (3 * (i % 21))) = ((bits / 2 ^ (3 * (i % 21)) : Nat) : Int) := by simp
    rw [i64_and7, e, hc]
    unfold wrap64
    omega
  have hF : Go.bits .and .i64 (c : Int) 1 = ((c % 2 : Nat) : Int) := by rw [i64_and1]; simp
  have HF := Lib.hid (show fateN bits i = if c % 2 = 0 then 0 else if c = 1 then 64 else 16 * (c / 2) by unfold fateN; rw [← hc])
  have hc7 : (c : Int) ≤ 7 := by omega
  generalize fateN bits i = F at HF ⊢
  clear hc hi
  by_cases h1 : c % 2 = 0
  · obtain rfl : F = 0 := by rw [HF.out, if_pos h1]
    rw [h1] at hF
    clear h1
    go_enter Tryd.func106, Tryd.ntmps106
    go_wp2
    go_ret
    exact ⟨rfl, rfl⟩
  · have h2 : c % 2 = 1 := by omega
    rw [h2] at hF
    by_cases h3 : c = 1
    · obtain rfl : F = 64 := by rw [HF.out, if_neg h1, if_pos h3]
      subst h3
      clear h1 h2
      go_enter Tryd.func106, Tryd.ntmps106
      go_wp2
      go_ret
      exact ⟨rfl, rfl⟩
    · obtain rfl : F = 16 * (c / 2) := by rw [HF.out, if_neg h1, if_neg h3]
      have h4 : ((c : Int) == 1) = false := by simp; omega
      clear h1 h2 h3
      go_enter Tryd.func106, Tryd.ntmps106
      go_wp2
      go_ret
      exact ⟨by simp, rfl⟩
/-- what is wrong with a place: nothing -/
theorem dskCheck (b g : Nat) (K : List (List UInt8)) (cv : Value) (C : List Wr) (armed : Int) (bits : Nat) (writes : Int) (p : Nat) (w : World) (h : DkAt b g K cv C false armed bits writes w) (hp : p < K.length) :
    Calls Tryd.prog 157 #[.pointer (some ⟨b, 0, none⟩), .int .i64 (p : Nat)] w fun e w' => e = .returned (.int .i64 0) ∧ w = w' := by
  have c0 := h.2.1.cell 0
  have c2 := h.2.1.cell 2
  simp only [List.getElem?_cons_zero, List.getElem?_cons_succ] at c0 c2
  have hpz : ¬ ((K.length : Int) ≤ (p : Int)) := by omega
  clear h
  go_enter Tryd.func157, Tryd.ntmps157
  go_wp2
  go_ret
  exact ⟨rfl, rfl⟩
theorem DkAt.set {b g : Nat} {K : List (List UInt8)} {cv : Value} {C : List Wr} {off : Bool} {armed : Int} {bits : Nat} {writes : Int} {w w' : World} {cv' : Value} {C' : List Wr} {off' : Bool} {armed' : Int} {bits' : Nat} {writes' : Int}
    (h : DkAt b g K cv C off armed bits writes w) (hk : KeptG b w w') (hb : BlkIs w' b [.slice (some ⟨g, 0, none⟩) K.length K.length, cv', .bool off', .int .i64 armed', .int .u64 (bits' : Int), .int .i64 writes'] 154)
    (hC : OkW K.length C') (ho : w'.ownsRow (b + 1) 165 65 cv' C'.length (C'.flatMap encW)) : DkAt b g K cv' C' off' armed' bits' writes' w' :=
  ⟨⟨h.1.1, h.1.2.1, hC⟩, hb, hk.blk h.2.2.1 (by have := h.1.1; omega), ho⟩
theorem KeptG.toB {g : Nat} {w w' : World} (h : KeptG g w w') : KeptB g w w' := ⟨h.1, fun q _ h2 => h.2.1 q h2, by have := h.2.2; omega⟩
theorem owns_kept2 {w w' : World} {base : Nat} {e : TypeId} {size : Nat} {v : Value} {n : Nat} {xs : List Value} (h : w.ownsRow base e size v n xs) {b : Nat} (hk : KeptG b w w') (hb : b < base) : w'.ownsRow base e size v n xs := by
  obtain ⟨h1, h2⟩ := h
  refine ⟨h1, ?_⟩
  rcases h2 with h2 | ⟨g, cap, cur, rfl, hg, hh, hr⟩
  · exact .inl h2
  · exact .inr ⟨g, cap, cur, rfl, hg, (hk.2.1 g (by omega)).trans hh, hr⟩
set_option maxHeartbeats 1000000 in
theorem dskArm (b g : Nat) (K : List (List UInt8)) (cv : Value) (C : List Wr) (off : Bool) (armed : Int) (bits : Nat) (writes : Int) (a : Int) (bt : Nat) (w : World) (h : DkAt b g K cv C off armed bits writes w) :
    Calls Tryd.prog 55 #[.pointer (some ⟨b, 0, none⟩), .agg #[.int .i64 a, .int .u64 (bt : Nat)]] w fun e w' => e = .returned (.tuple #[]) ∧ DkAt b g K cv C off (max a 0) bt writes w' ∧ KeptB b w w' := by
  have hb1 := below1 w (.cells #[.int .i64 a, .int .u64 (bt : Int)] 105)
  have HD := Lib.hid (h.below hb1)
  have HQ := Lib.hid (BlkIs.alloc w [.int .i64 a, .int .u64 (bt : Int)] 105)
  have hlt := h.2.1.lt
  have c3 := HD.out.2.1.cell 3
  have c4 := HD.out.2.1.cell 4
  have f3 := HD.out.2.1.frozen 3
  have f4 := HD.out.2.1.frozen 4
  have q0 := HQ.out.cell 0
  have q1 := HQ.out.cell 1
  simp only [List.getElem?_cons_zero, List.getElem?_cons_succ] at c3 c4 q0 q1
  have hne : w.heap.size ≠ b := by omega
  have HK0 := Lib.hid (KeptB.of hlt hb1)
  clear hb1 h hlt
  go_enter Tryd.func55, Tryd.ntmps55
  go_wp2_with fail
  generalize w.alloc (.cells #[.int .i64 a, .int .u64 (bt : Int)] 105) = W at *
  generalize hqe : w.heap.size = q at *
  have HK1 := Lib.hid (((KeptG.set b 3 W (.int .i64 (max a 0))).trans (KeptG.set b 4 _ (.int .u64 (bt : Int)))).trans (KeptG.drew b _))
  have HE := Lib.hid (HD.out.set HK1.out (cv' := cv) (off' := off) (armed' := max a 0) (bits' := bt) (writes' := writes) (show BlkIs ((W.setCell ⟨b, 3, none⟩ (.int .i64 (max a 0))).setCell ⟨b, 4, none⟩ (.int .u64 (bt : Int))) b _ 154 by
    have := (HD.out.2.1.set (o := 3) (.int .i64 (max a 0))).set (o := 4) (.int .u64 (bt : Int))
    simpa using this) HD.out.1.2.2 (owns_kept2 HD.out.2.2.2 HK1.out (by omega)))
  have HK2 := Lib.hid (HK0.out.trans HK1.out.toB)
  have HQE := Lib.hid hqe
  clear hqe
  go_region
  go_wp2
  go_end0
  exact ⟨rfl, HE.out, HK2.out⟩
theorem dskStart (b g : Nat) (K : List (List UInt8)) (cv : Value) (C : List Wr) (off : Bool) (armed : Int) (bits : Nat) (writes : Int) (w : World) (h : DkAt b g K cv C off armed bits writes w) :
    Calls Tryd.prog 56 #[.pointer (some ⟨b, 0, none⟩)] w fun e w' => e = .returned (.tuple #[]) ∧ DkAt b g K cv C false 0 bits writes w' ∧ KeptG b w w' := by
  have c2 := h.2.1.cell 2
  have c3 := h.2.1.cell 3
  simp only [List.getElem?_cons_zero, List.getElem?_cons_succ] at c2 c3
  have f2 := h.2.1.frozen 2
  have f3 := h.2.1.frozen 3
  have HB := Lib.hid (((h.2.1.set (o := 2) (.bool false)).set (o := 3) (.int .i64 0)))
  have HK := Lib.hid ((KeptG.set b 2 w (.bool false)).trans (KeptG.set b 3 _ (.int .i64 0)))
  have HD := Lib.hid (h.set HK.out (by simpa using HB.out) h.1.2.2 (owns_kept2 h.2.2.2 HK.out (by have := h.1.1; omega)))
  clear h
  go_enter Tryd.func56, Tryd.ntmps56
  go_wp2
  go_end0
  exact ⟨rfl, HD.out, HK.out⟩
set_option maxHeartbeats 1000000 in
theorem dskKept (b g : Nat) (K : List (List UInt8)) (cv : Value) (C : List Wr) (off : Bool) (armed : Int) (bits : Nat) (writes : Int) (p : Nat) (w : World) (h : DkAt b g K cv C off armed bits writes w) (hp : p < K.length) (hK : K.length ≤ 4096) :
    Calls Tryd.prog 104 #[.pointer (some ⟨b, 0, none⟩), .int .i64 (p : Nat)] w fun e w' => e = .returned (.string ⟨(K[p]!).toArray⟩) ∧ w = w' := by
  have c0 := h.2.1.cell 0
  simp only [List.getElem?_cons_zero] at c0
  have HL := Lib.hid (dskLen b g K cv C off armed bits writes w h)
  have hpz : ¬ ((K.length : Int) ≤ (p : Int)) := by omega
  have hpz2 : (p : Int) < (K.length : Int) := by omega
  have hcv := run_bytes (P := Tryd.prog) (w := w) (b := g) (o := p * 64) (k := 64) (cap := 64) (src := 56) (dst := 9) (e := 5) (l := K[p]!) Tryd.underlying56 Tryd.underlying5 Tryd.underlying9 h.2.2.1 (h.1.2.1 p hp).symm (fun j hj => flatS_get h.1.2.1 hp hj)
  clear h
  generalize K[p]! = s at hcv ⊢
  go_enter Tryd.func104, Tryd.ntmps104
  go_wp2_with fail
  refine HL.out.mono ?_
  rintro e w1 ⟨rfl, rfl⟩
  go_wp2
  go_ret
  exact ⟨rfl, rfl⟩
end Go.Proofs.YtbbcicengfmhiaaDoor

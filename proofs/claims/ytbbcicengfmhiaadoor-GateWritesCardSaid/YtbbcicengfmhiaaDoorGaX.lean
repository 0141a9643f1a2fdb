/- GateWrites' own walk. Conditions: sizes. -/
import Derived.Test.YtbbcicengfmhiaaDoorGaP
namespace Go.Proofs.YtbbcicengfmhiaaDoor
set_option maxRecDepth 100000
open Go.RowKit

theorem WrAt.keptB {R T b c : Nat} {l : List UInt8} {w w' : World} (h : WrAt R T b l w) (hk : KeptB c w w') (h1 : T ≤ c) (h2 : b < c) : WrAt R T b l w' := by
  obtain ⟨⟨a1, a2, a3⟩, p, v, hp, hb, ho, hT⟩ := h
  exact ⟨⟨a1, Nat.le_trans a2 hk.2.2, Nat.le_trans a3 hk.2.2⟩, p, v, hp, (hk.2.1 b (by omega) (by omega)).trans hb, owns_keptI ho (fun k hk' => hk.2.1 k (owns_lt ho hk') (by have := hT k hk'; omega)), hT⟩
theorem SlAt.keptB2 {α : Type} [Inhabited α] {k : Nat} {enc : α → List Value} {b : Nat} {w w' : World} {v : Value} {xs : List α} (h : SlAt k enc w v xs) (hk : KeptB b w w') (hne : 0 < xs.length → v.ownBlock ≠ some b) : SlAt k enc w' v xs := by
  obtain ⟨p, c, rfl, hn, hc⟩ := h
  refine ⟨p, c, rfl, hn, fun hl => ?_⟩
  obtain ⟨q, off, rfl, hlt, hcell⟩ := hc hl
  have hb : q ≠ b := fun e => hne hl (by simp [Value.ownBlock, e])
  exact ⟨q, off, rfl, Nat.lt_of_lt_of_le hlt hk.2.2, fun j hj m u' hu => (World.cell?_of_block (w := w) (hk.2.1 q hlt hb)).trans (hcell j hj m u' hu)⟩
/-- what lies about there -/
def GwA (w : World) (v : Value) (no : Bool) (xs : List Int) (W : World) : Prop := Below w.heap.size w W ∧ Met W ∧ Bx w.heap.size v no xs W
theorem GwA.next {w W W' : World} {v : Value} {no : Bool} {xs : List Int} (h : GwA w v no xs W) (hb : Below W.heap.size W W') : GwA w v no xs W' :=
  ⟨h.1.trans (hb.mono h.1.size), h.2.1.below hb, h.2.2.below hb⟩
theorem GwA.kept {w W W' : World} {v : Value} {no : Bool} {xs : List Int} {b : Nat} (h : GwA w v no xs W) (hk : KeptB b W W') (h9 : 9 ≤ b) (hb : w.heap.size < b) (hne : 0 < xs.length → v.ownBlock ≠ some b) : GwA w v no xs W' := by
  obtain ⟨h1, h2, z, c0, c1, hs⟩ := h
  have hbl := hk.2.1 w.heap.size z (by omega)
  exact ⟨h1.trans (hk.1 w.heap.size (by omega)), hk.met h2 h9, Nat.lt_of_lt_of_le z hk.2.2, (World.cell?_of_block (w := W) (a := ⟨w.heap.size, 0, none⟩) hbl).trans c0, (World.cell?_of_block (w := W) (a := ⟨w.heap.size, 1, none⟩) hbl).trans c1, hs.keptB2 hk hne⟩
theorem Bx.keptB {B b : Nat} {v : Value} {no : Bool} {xs : List Int} {w w' : World} (h : Bx B v no xs w) (hk : KeptB b w w') (hB : B < b) (hne : 0 < xs.length → v.ownBlock ≠ some b) : Bx B v no xs w' := by
  obtain ⟨z, c0, c1, hs⟩ := h
  have hbl := hk.2.1 B z (by omega)
  exact ⟨Nat.lt_of_lt_of_le z hk.2.2, (World.cell?_of_block (w := w) (a := ⟨B, 0, none⟩) hbl).trans c0, (World.cell?_of_block (w := w) (a := ⟨B, 1, none⟩) hbl).trans c1, hs.keptB2 hk hne⟩
theorem SlAt.own_lt {w : World} {v : Value} {xs : List Int} (h : SlAt 1 encI w v xs) : ∀ q, 0 < xs.length → v.ownBlock = some q → q < w.heap.size := fun q h0 hq => by
  obtain ⟨p', c', rfl, _, hc⟩ := h
  obtain ⟨b', o', rfl, hb', _⟩ := hc h0
  simp [Value.ownBlock] at hq
  omega
theorem Bx.keptS {B R T : Nat} {v : Value} {no : Bool} {xs : List Int} {w w' : World} (h : Bx B v no xs w) (hk : KeptS R T w w') (hB : B < R ∨ T ≤ B) (ho : 0 < xs.length → ∀ q, v.ownBlock = some q → q < R ∨ T ≤ q) : Bx B v no xs w' := by
  obtain ⟨z, c0, c1, hs⟩ := h
  have hbl := hk.2 B hB
  refine ⟨Nat.lt_of_lt_of_le z hk.1.size, (World.cell?_of_block (w := w) (a := ⟨B, 0, none⟩) hbl).trans c0, (World.cell?_of_block (w := w) (a := ⟨B, 1, none⟩) hbl).trans c1, ?_⟩
  obtain ⟨p, c, rfl, hn, hc⟩ := hs
  refine ⟨p, c, rfl, hn, fun hl => ?_⟩
  obtain ⟨q, off, rfl, hlt, hcell⟩ := hc hl
  have hb := ho hl q (by simp [Value.ownBlock])
  exact ⟨q, off, rfl, Nat.lt_of_lt_of_le hlt hk.1.size, fun j hj m u' hu => (World.cell?_of_block (w := w) (hk.2 q hb)).trans (hcell j hj m u' hu)⟩
/-- all that the last row of the law asks for -/
def Fin6 (w : World) (v : Value) (no : Bool) (xs : List Int) (B10 : Nat) (v1 : Value) (n1 : Bool) (l1 : List Int) (B13 : Nat) (v2 : Value) (n2 : Bool) (l2 : List Int) (b6 : Nat) (s1 : List UInt8) (b1 : Bool) (b12 : Nat) (s2 : List UInt8) (b2 : Bool) (W : World) : Prop :=
  Below w.heap.size w W ∧ Bx w.heap.size v no xs W ∧ Bx B10 v1 n1 l1 W ∧ Bx B13 v2 n2 l2 W ∧ RdAt b6 s1 b1 W ∧ RdAt b12 s2 b2 W
theorem Fin6.next {w : World} {v : Value} {no : Bool} {xs : List Int} {B10 : Nat} {v1 : Value} {n1 : Bool} {l1 : List Int} {B13 : Nat} {v2 : Value} {n2 : Bool} {l2 : List Int} {b6 : Nat} {s1 : List UInt8} {b1 : Bool} {b12 : Nat} {s2 : List UInt8} {b2 : Bool} {W W' : World}
    (h : Fin6 w v no xs B10 v1 n1 l1 B13 v2 n2 l2 b6 s1 b1 b12 s2 b2 W) (hb : Below W.heap.size W W') : Fin6 w v no xs B10 v1 n1 l1 B13 v2 n2 l2 b6 s1 b1 b12 s2 b2 W' :=
  ⟨h.1.trans (hb.mono h.1.size), h.2.1.below hb, h.2.2.1.below hb, h.2.2.2.1.below hb, h.2.2.2.2.1.below hb, h.2.2.2.2.2.below hb⟩
theorem addL (A B : List UInt8) (hA : A.length ≤ 100000) (hB : B.length ≤ 100000) : ∀ W, (Op.stringOp .add ⟨A.toArray⟩ ⟨B.toArray⟩).run Tryd.prog W = .ok (.string ⟨(A ++ B).toArray⟩) W := fun W =>
  run_string_add_lists W A B (by omega) (by omega)
set_option maxHeartbeats 8000000 in
theorem gateWrites_walk (v : Value) (no : Bool) (xs : List Int) (s2 : ByteArray) (w : World) (hS : SlAt 1 encI w v xs) (hok : ∀ j, j < xs.length → okI xs[j]!) (hml : xs.length ≤ maxLen) (hs : s2.size ≤ maxLen) (hM : Met w) :
    Calls Tryd.prog 5 #[.agg #[v, .bool no], .string s2] w fun e w' => e = .returned (.bool true) ∧ Below w.heap.size w w' := by
  unfold maxLen at hml hs
  have HV := Lib.hid (show GwA w v no xs (w.alloc (.cells #[v, .bool no] 54)) from ⟨below1 _ _, hM.below (below1 _ _), Bx.mk w hS⟩)
  have HOK := Lib.hid hok
  have HOB := Lib.hid (show ∀ q, 0 < xs.length → v.ownBlock = some q → q < w.heap.size from fun q h0 hq => by
    obtain ⟨p', c', rfl, _, hc⟩ := hS
    obtain ⟨b', o', rfl, hb', _⟩ := hc h0
    simp [Value.ownBlock] at hq
    omega)
  obtain ⟨p, c, rfl, _, _⟩ := id hS
  clear hS hok hM
  go_enter Tryd.func5, Tryd.ntmps5
  go_wp2_with fail
  generalize w.alloc (.cells #[.slice p xs.length c, .bool no] 54) = W0 at HV ⊢
  refine (awake12 W0).mono ?_
  rintro e w1 ⟨rfl, hb1⟩
  have HV := Lib.hid (HV.out.next hb1)
  clear hb1
  obtain ⟨_, c0, c1, _⟩ := id HV.out.2.2
  by_cases h50 : 50 < xs.length
  · have h50z : (50 : Int) < (xs.length : Int) := by omega
    go_wp2_with fail
    refine (awake12 w1).mono ?_
    rintro e w2 ⟨rfl, hb2⟩
    go_wp2
    go_ret
    exact ⟨rfl, HV.out.1.trans (hb2.mono HV.out.1.size)⟩
  have h50z : ¬ (50 : Int) < (xs.length : Int) := by omega
  by_cases h300 : 300 < s2.size
  · have h300z : (300 : Int) < (s2.size : Int) := by omega
    go_wp2_with fail
    refine (awake12 w1).mono ?_
    rintro e w2 ⟨rfl, hb2⟩
    go_wp2
    go_ret
    exact ⟨rfl, HV.out.1.trans (hb2.mono HV.out.1.size)⟩
  have h300z : ¬ (300 : Int) < (s2.size : Int) := by omega
  go_wp2_with fail
  obtain ⟨n, hn⟩ : ∃ n : Int, n = (xs.length : Int) := ⟨_, rfl⟩
  have hwr : WrAt (w1.heap.size + 1) (w1.heap.size + 1) w1.heap.size [] (w1.alloc (.cells #[.pointer none, .slice none 0 0] 60)) := WrAt.fresh _ (by omega) (by simp) (MapKept.heap_alloc w1 _).1
  have hv1 := HV.out.next (below1 w1 (.cells #[.pointer none, .slice none 0 0] 60))
  have hsz := HV.out.2.1.size
  have hlt : ∀ q, 0 < xs.length → (Value.slice p xs.length c).ownBlock = some q → q < w1.heap.size := by
    intro q h0 hq
    obtain ⟨p', c', hv, _, hc⟩ := HV.out.2.2.2.2.2
    simp only [Value.slice.injEq] at hv
    obtain ⟨rfl, _, rfl⟩ := hv
    obtain ⟨b', o', rfl, hb', _⟩ := hc h0
    simp [Value.ownBlock] at hq
    omega
  refine (gateWrite (w1.heap.size + 1) (w1.heap.size + 1) w1.heap.size [] _ no xs _ hwr hv1.2.1 hsz hv1.2.2.2.2.2 (fun h0 q hq => by have := hlt q h0 hq; omega) HOK.out (by simp; omega)).mono ?_
  rintro e w2 ⟨rfl, ⟨T2, hw2⟩, hk2⟩
  rw [List.nil_append] at hw2
  have HV1 := HV
  have HV := Lib.hid (HV.out.next ((below1 w1 _).trans (hk2.1 w1.heap.size (Nat.le_refl _))))
  have HW := Lib.hid hw2
  clear hwr hv1 hsz hlt hw2 hk2 c0 c1
  have HWB := Lib.hid (show w.heap.size ≤ w1.heap.size from by have := HV1.out.1.size; omega)
  generalize w1.heap.size = b at HW HWB ⊢
  obtain ⟨_, c0, c1, _⟩ := id HV.out.2.2
  rw [← hn] at h50z
  go_wp2_with fail
  rw [← hn]
  refine (ref06Int n ⟨by omega, by omega⟩ _).mono ?_
  rintro e w3 ⟨rfl, hb3⟩
  have HV := Lib.hid (HV.out.next hb3)
  have HW := Lib.hid (HW.out.below hb3)
  clear hb3 c0 c1
  obtain ⟨_, c0, c1, _⟩ := id HV.out.2.2
  have HLI := Lib.hid (show ∀ k, k ≤ xs.length → (numsL (xs.take k)).length ≤ k * 22 from fun k hk => by
    have := numsL_lenB (xs := xs.take k) (fun j hj => by
      have hj' : j < xs.length := by simp at hj; omega
      rw [getElem!_pos (xs.take k) j hj, List.getElem_take, ← getElem!_pos xs j hj']
      exact HOK.out j hj')
    rw [List.length_take, Nat.min_eq_left hk] at this
    exact this)
  have HLA := Lib.hid (show (numL n ++ numsL xs).length ≤ 2000 by
    have h1 := HLI.out xs.length (Nat.le_refl _)
    rw [List.take_length] at h1
    have h2 := numL_len (n := n) ⟨by omega, by omega⟩
    rw [List.length_append]
    omega)
  go_wp2_with fail
  clear c0 c1
  go_loopw [6, 37] (fun s t wr => ∃ i : Nat, i ≤ xs.length ∧ t = .int .i64 i ∧ s = .string ⟨(numL n ++ numsL (xs.take i)).toArray⟩ ∧ GwA w (.slice p xs.length c) no xs wr ∧ WrAt (b + 1) T2 b (gateL xs no) wr) (fun _ t _ => xs.length - (intOf t).toNat)
  case atStart => exact ⟨0, by omega, rfl, by rw [hn]; simp [numsL], HV.out, HW.out⟩
  case round =>
    obtain ⟨i, hi, rfl, rfl, hv, hw⟩ := hrel
    have HV := Lib.hid hv
    have HW := Lib.hid hw
    clear hv hw
    by_cases hlt : i < xs.length
    · have hltz : (i : Int) < (xs.length : Int) := by omega
      obtain ⟨p', c', hv, _, hc⟩ := HV.out.2.2.2.2.2
      simp only [Value.slice.injEq] at hv
      obtain ⟨rfl, _, rfl⟩ := hv
      obtain ⟨bq, oq, rfl, _, hcc⟩ := hc (by omega)
      have d0 : wr.cell? ⟨bq, oq + i, none⟩ = some (.int .i64 xs[i]!) := by have := hcc i hlt 0 _ rfl; simpa using this
      have hx := HOK.out i hlt
      have hE : numsL (xs.take (i + 1)) = numsL (xs.take i) ++ numL xs[i]! := by
        rw [List.take_succ_eq_append_getElem hlt, getElem!_pos xs i hlt]
        simp only [numsL, List.flatMap_append, List.flatMap_cons, List.flatMap_nil, List.append_nil]
      have hl1 := HLI.out i hi
      have hl2 := numL_len hx
      have hl3 := numL_len (n := n) ⟨by omega, by omega⟩
      have hadd := addL (numL n ++ numsL (xs.take i)) (numL xs[i]!) (by rw [List.length_append]; omega) (by omega)
      rw [List.append_assoc, ← hE] at hadd
      clear hc hcc hE hl1 hl2 hl3
      have KX := Lib.hid (fun W => ref06Int xs[i]! hx W)
      clear hx
      generalize xs[i]! = x at d0 hadd KX
      obtain ⟨sA, hsA⟩ : ∃ s : ByteArray, s = ⟨(numL n ++ numsL (xs.take i)).toArray⟩ := ⟨_, rfl⟩
      obtain ⟨sB, hsB⟩ : ∃ s : ByteArray, s = ⟨(numL x).toArray⟩ := ⟨_, rfl⟩
      obtain ⟨sC, hsC⟩ : ∃ s : ByteArray, s = ⟨(numL n ++ numsL (xs.take (i + 1))).toArray⟩ := ⟨_, rfl⟩
      rw [← hsA, ← hsB, ← hsC] at hadd
      rw [← hsB] at KX
      rw [← hsA]
      have HSC := Lib.hid hsC
      clear hsA hsB hsC
      go_wp2_with fail
      refine (KX.out _).mono ?_
      rintro e w4 ⟨rfl, hb4⟩
      have HV := Lib.hid (HV.out.next hb4)
      have HW := Lib.hid (HW.out.below hb4)
      clear hb4 d0
      go_wp2
      go_roundw
      case rel => first | exact ⟨i + 1, by omega, by go_num, by rw [HSC.out], HV.out, HW.out⟩ | trace_state
      case measure => simp [intOf] <;> omega
    · obtain rfl : i = xs.length := by omega
      rw [List.take_length]
      obtain ⟨_, c0, c1, _⟩ := id HV.out.2.2
      cases no with
      | true =>
        have hnv : (numL (fl01 true)) = numL 1 := rfl
        go_wp2_with fail
        refine (ref06Int 1 ⟨by decide, by decide⟩ _).mono ?_
        rintro e w5 ⟨rfl, hb5⟩
        have HV := Lib.hid (HV.out.next hb5)
        have HW := Lib.hid (HW.out.below hb5)
        have hadd := addL (numL n ++ numsL xs) (numL 1) (by have := HLA.out; omega) (by have := numL_len (n := 1) ⟨by decide, by decide⟩; omega)
        have hgl : (numL n ++ numsL xs) ++ numL 1 = gateL xs true := by rw [List.append_assoc]; rw [hn]; rfl
        rw [hgl] at hadd
        have hlg : (gateL xs true).length ≤ 100000 := by rw [← hgl, List.length_append]; have := HLA.out; have := numL_len (n := 1) ⟨by decide, by decide⟩; omega
        have HGR := Lib.hid (fun h => gateRd_right (no := true) h HOK.out)
        have HGW := Lib.hid (fun h => gateRd_wrong (no := true) h HOK.out (by omega))
        have hne : gateL xs true ≠ [] := fun e => by rw [← hgl] at e; simp [numL] at e
        generalize gateL xs true = L at HW hadd hlg HGR HGW hne
        clear hb5 hnv hgl
        obtain ⟨sA, hsA⟩ : ∃ s : ByteArray, s = ⟨(numL n ++ numsL xs).toArray⟩ := ⟨_, rfl⟩
        obtain ⟨sB, hsB⟩ : ∃ s : ByteArray, s = ⟨(numL 1).toArray⟩ := ⟨_, rfl⟩
        obtain ⟨sL, hsL⟩ : ∃ s : ByteArray, s = ⟨L.toArray⟩ := ⟨_, rfl⟩
        rw [← hsA, ← hsB, ← hsL] at hadd
        rw [← hsA, ← hsB]
        have HSL := Lib.hid hsL
        clear hsA hsB hsL
        go_wp2_with fail
        refine (readerNew sL _).mono ?_
        rintro e w6 ⟨rfl, hr6, hb6⟩
        have HV5 := HV
        have HW5 := HW
        have HV := Lib.hid (HV.out.next hb6)
        have HW := Lib.hid (HW.out.below hb6)
        rw [show sL.data.toList = L by rw [HSL.out]] at hr6
        have HR6 := Lib.hid hr6
        clear hadd hr6 hb6
        have h59 : 9 ≤ w5.heap.size := HV5.out.2.1.size
        have hwl : w.heap.size < w5.heap.size := HV5.out.2.2.1
        have hT5 := HW5.out.1
        generalize w5.heap.size = b6 at HR6 h59 hwl hT5 ⊢
        go_wp2_with fail
        refine (gateRead b6 L false w6 HR6.out HV.out.2.1 h59 (by omega)).mono ?_
        rintro e w7 ⟨vx, rfl, hsl, hrd, hk, hox⟩
        have HOX := Lib.hid hox
        have h66 := HR6.out.1
        clear hox
        have HV := Lib.hid (HV.out.kept hk h59 hwl (fun h0 e => by have := HOB.out b6 h0 e; omega))
        have HW := Lib.hid (HW.out.keptB hk (by omega) (by omega))
        obtain ⟨X, hX⟩ : ∃ X, X = gateRd (L, false) := ⟨_, rfl⟩
        rw [← hX] at hsl hrd ⊢
        have HX := Lib.hid hX
        obtain ⟨l1, n1, s1, b1⟩ := X
        dsimp only at hsl hrd ⊢
        obtain ⟨px, cx, rfl, _⟩ := id hsl
        have HR6 := Lib.hid (hrd.below (below1 w7 (.cells #[.slice px l1.length cx, .bool n1] 54)))
        have HB10 := Lib.hid (Bx.mk (no := n1) w7 hsl)
        have HV := Lib.hid (HV.out.next (below1 w7 (.cells #[.slice px l1.length cx, .bool n1] 54)))
        have HW := Lib.hid (HW.out.below (below1 w7 (.cells #[.slice px l1.length cx, .bool n1] 54)))
        have h67 : b6 < w7.heap.size := hrd.1
        clear hX hk hrd hsl HV5 HW5
        go_upto_region 16 with fail
        generalize w7.alloc (.cells #[.slice px l1.length cx, .bool n1] 54) = W8 at HV HW HR6 HB10 ⊢
        generalize w7.heap.size = B10 at HB10 h67 ⊢
        obtain ⟨_, c0, c1, hsv⟩ := id HV.out.2.2
        have HSV := Lib.hid hsv
        clear hsv
        go_wp2_with fail
        refine (ref12Right _ xs W8 HSV.out (by omega)).mono ?_
        rintro e w9 ⟨rfl, hb9⟩
        have HV := Lib.hid (HV.out.next hb9)
        have HW := Lib.hid (HW.out.below hb9)
        have HR6 := Lib.hid (HR6.out.below hb9)
        have HB10 := Lib.hid (HB10.out.below hb9)
        clear hb9 c0 c1 HSV
        go_wp2_with fail
        refine (readerNew s2 w9).mono ?_
        rintro e w10 ⟨rfl, hr10, hb10⟩
        have h99 : 9 ≤ w9.heap.size := HV.out.2.1.size
        have hwl9 : w.heap.size < w9.heap.size := HV.out.2.2.1
        have hT9 := HW.out.1
        have hb69 := HR6.out.1
        have hB19 := HB10.out.1
        have HO10 := Lib.hid (SlAt.own_lt HB10.out.2.2.2)
        have HV := Lib.hid (HV.out.next hb10)
        have HW := Lib.hid (HW.out.below hb10)
        have HR6 := Lib.hid (HR6.out.below hb10)
        have HB10 := Lib.hid (HB10.out.below hb10)
        have HR12 := Lib.hid hr10
        clear hr10 hb10
        generalize w9.heap.size = b12 at HR12 h99 hwl9 hT9 hb69 hB19 HO10 ⊢
        go_wp2_with fail
        refine (gateRead b12 _ false w10 HR12.out HV.out.2.1 h99 (by simp; omega)).mono ?_
        rintro e w11 ⟨vy, rfl, hsl, hrd, hk, hoy⟩
        have HOY := Lib.hid hoy
        have h120 := HR12.out.1
        have h121 := hrd.1
        clear hoy
        have HV := Lib.hid (HV.out.kept hk h99 hwl9 (fun h0 e => by have := HOB.out b12 h0 e; omega))
        have HW := Lib.hid (HW.out.keptB hk (by omega) (by omega))
        have HR6 := Lib.hid (HR6.out.kept hk (by omega))
        have HB10 := Lib.hid (HB10.out.keptB hk (by omega) (fun h0 e => by have := HO10.out b12 h0 e; omega))
        obtain ⟨Y, hY⟩ : ∃ Y, Y = gateRd (s2.data.toList, false) := ⟨_, rfl⟩
        rw [← hY] at hsl hrd ⊢
        have HY := Lib.hid hY
        obtain ⟨l2, n2, t2, b2⟩ := Y
        dsimp only at hsl hrd ⊢
        obtain ⟨py, cy, rfl, _⟩ := id hsl
        have hb13 := below1 w11 (.cells #[.slice py l2.length cy, .bool n2] 54)
        have HR12 := Lib.hid (hrd.below hb13)
        have HB13 := Lib.hid (Bx.mk (no := n2) w11 hsl)
        have HV := Lib.hid (HV.out.next hb13)
        have HW := Lib.hid (HW.out.below hb13)
        have HR6 := Lib.hid (HR6.out.below hb13)
        have HB10 := Lib.hid (HB10.out.below hb13)
        clear hY hk hrd hsl hb13
        go_upto_region 19 with fail
        dsimp only [List.append]
        generalize hb13 : w11.heap.size = B13 at *
        have hk13 := hb13
        go_wp2_with fail
        refine (writerString (b + 1) T2 b L _ HW.out hne).mono ?_
        rintro e w14 ⟨rfl, hk14⟩
        rw [← HSL.out]
        have hwb : w.heap.size ≤ b := HWB.out
        have HF := Lib.hid (show Fin6 w _ true xs B10 _ n1 l1 B13 _ n2 l2 b6 s1 b1 b12 t2 b2 w14 from ⟨HV.out.1.trans (hk14.1.mono (by omega)), HV.out.2.2.keptS hk14 (.inl (by omega)) (fun h0 q hq => .inl (by have := HOB.out q h0 hq; omega)), HB10.out.keptS hk14 (.inr (by omega)) (fun _ q hq => .inr (by have := HOX.out q hq; omega)), HB13.out.keptS hk14 (.inr (by omega)) (fun _ q hq => .inr (by have := HOY.out q hq; omega)), HR6.out.of_block hk14.1.size (hk14.2 b6 (.inr (by omega))), HR12.out.of_block hk14.1.size (hk14.2 b12 (.inr (by omega)))⟩)
        clear hk14 HV HW HR6 HR12 HB10 HB13
        have HL2 := Lib.hid (show rightG l2 = true → l2.length ≤ 12 from fun h => (rightG_all h).2)
        cases hq : rightG xs with
        | true =>
          have e := HX.out.trans (HGR.out hq)
          simp only [Prod.mk.injEq] at e
          obtain ⟨e1, rfl, rfl, rfl⟩ := e
          obtain rfl : xs = l1 := e1.symm
          clear e1
          rcases gateRd_cases (s2.data.toList, false) with h | h
          · rw [← HY.out] at h
            dsimp only at h
            obtain ⟨rfl, hr2⟩ := h
            have HL2 := Lib.hid (HL2.out hr2)
            obtain ⟨_, ⟨_, c0, c1, hsa⟩, ⟨_, d0, d1, hsb⟩, ⟨_, f0, f1, hsc⟩, hra, hrb⟩ := id HF.out
            go_wp2_with fail
            refine (gateRight _ _ xs _ hsa (by omega)).mono ?_
            rintro e w15 ⟨rfl, hb⟩
            rw [hq]
            clear c0 c1 d0 d1 f0 f1 hsa hsb hsc hra hrb
            have HF := Lib.hid (HF.out.next hb)
            clear hb
            obtain ⟨_, ⟨_, c0, c1, hsa⟩, ⟨_, d0, d1, hsb⟩, ⟨_, f0, f1, hsc⟩, hra, hrb⟩ := id HF.out
            go_wp2_with fail
            refine (readerDone b6 _ _ _ hra).mono ?_
            rintro e w16 ⟨rfl, rfl⟩
            rw [show (!false && ([] : List UInt8).isEmpty) = true from rfl]
            go_wp2_with fail
            refine (same02 _ _ xs xs _ hsb hsa (by omega) (by omega)).mono ?_
            rintro e w17 ⟨rfl, hb⟩
            rw [show decide (xs = xs) = true by simp]
            clear c0 c1 d0 d1 f0 f1 hsa hsb hsc hra hrb
            have HF := Lib.hid (HF.out.next hb)
            clear hb
            obtain ⟨_, ⟨_, c0, c1, hsa⟩, ⟨_, d0, d1, hsb⟩, ⟨_, f0, f1, hsc⟩, hra, hrb⟩ := id HF.out
            go_wp2_with fail
            refine (readerOk b12 _ _ _ hrb).mono ?_
            rintro e w18 ⟨rfl, rfl⟩
            go_wp2_with fail
            refine (gateRight _ _ l2 _ hsc (by have := HL2.out; omega)).mono ?_
            rintro e w19 ⟨rfl, hb⟩
            rw [hr2]
            clear c0 c1 d0 d1 f0 f1 hsa hsb hsc hra hrb
            have HF := Lib.hid (HF.out.next hb)
            clear hb
            go_wp2
            go_ret
            exact ⟨rfl, HF.out.1⟩
          · rw [← HY.out] at h
            dsimp only at h
            obtain ⟨rfl, rfl, rfl⟩ := h
            obtain ⟨_, ⟨_, c0, c1, hsa⟩, ⟨_, d0, d1, hsb⟩, ⟨_, f0, f1, hsc⟩, hra, hrb⟩ := id HF.out
            go_wp2_with fail
            refine (gateRight _ _ xs _ hsa (by omega)).mono ?_
            rintro e w15 ⟨rfl, hb⟩
            rw [hq]
            clear c0 c1 d0 d1 f0 f1 hsa hsb hsc hra hrb
            have HF := Lib.hid (HF.out.next hb)
            clear hb
            obtain ⟨_, ⟨_, c0, c1, hsa⟩, ⟨_, d0, d1, hsb⟩, ⟨_, f0, f1, hsc⟩, hra, hrb⟩ := id HF.out
            go_wp2_with fail
            refine (readerDone b6 _ _ _ hra).mono ?_
            rintro e w16 ⟨rfl, rfl⟩
            rw [show (!false && ([] : List UInt8).isEmpty) = true from rfl]
            go_wp2_with fail
            refine (same02 _ _ xs xs _ hsb hsa (by omega) (by omega)).mono ?_
            rintro e w17 ⟨rfl, hb⟩
            rw [show decide (xs = xs) = true by simp]
            clear c0 c1 d0 d1 f0 f1 hsa hsb hsc hra hrb
            have HF := Lib.hid (HF.out.next hb)
            clear hb
            obtain ⟨_, ⟨_, c0, c1, hsa⟩, ⟨_, d0, d1, hsb⟩, ⟨_, f0, f1, hsc⟩, hra, hrb⟩ := id HF.out
            go_wp2_with fail
            refine (readerOk b12 _ _ _ hrb).mono ?_
            rintro e w18 ⟨rfl, rfl⟩
            go_wp2_with fail
            refine (readerOk b12 _ _ _ hrb).mono ?_
            rintro e w19 ⟨rfl, rfl⟩
            go_wp2
            go_ret
            exact ⟨rfl, HF.out.1⟩
        | false =>
          have e := HGW.out hq
          rw [← HX.out] at e
          dsimp only at e
          obtain ⟨rfl, rfl, rfl⟩ := e
          rcases gateRd_cases (s2.data.toList, false) with h | h
          · rw [← HY.out] at h
            dsimp only at h
            obtain ⟨rfl, hr2⟩ := h
            have HL2 := Lib.hid (HL2.out hr2)
            obtain ⟨_, ⟨_, c0, c1, hsa⟩, ⟨_, d0, d1, hsb⟩, ⟨_, f0, f1, hsc⟩, hra, hrb⟩ := id HF.out
            go_wp2_with fail
            refine (gateRight _ _ xs _ hsa (by omega)).mono ?_
            rintro e w15 ⟨rfl, hb⟩
            rw [hq]
            clear c0 c1 d0 d1 f0 f1 hsa hsb hsc hra hrb
            have HF := Lib.hid (HF.out.next hb)
            clear hb
            obtain ⟨_, ⟨_, c0, c1, hsa⟩, ⟨_, d0, d1, hsb⟩, ⟨_, f0, f1, hsc⟩, hra, hrb⟩ := id HF.out
            go_wp2_with fail
            refine (readerDone b6 _ _ _ hra).mono ?_
            rintro e w16 ⟨rfl, rfl⟩
            rw [show (!true && s1.isEmpty) = false from rfl]
            go_wp2_with fail
            refine (readerOk b12 _ _ _ hrb).mono ?_
            rintro e w18 ⟨rfl, rfl⟩
            go_wp2_with fail
            refine (gateRight _ _ l2 _ hsc (by have := HL2.out; omega)).mono ?_
            rintro e w19 ⟨rfl, hb⟩
            rw [hr2]
            clear c0 c1 d0 d1 f0 f1 hsa hsb hsc hra hrb
            have HF := Lib.hid (HF.out.next hb)
            clear hb
            go_wp2
            go_ret
            exact ⟨rfl, HF.out.1⟩
          · rw [← HY.out] at h
            dsimp only at h
            obtain ⟨rfl, rfl, rfl⟩ := h
            obtain ⟨_, ⟨_, c0, c1, hsa⟩, ⟨_, d0, d1, hsb⟩, ⟨_, f0, f1, hsc⟩, hra, hrb⟩ := id HF.out
            go_wp2_with fail
            refine (gateRight _ _ xs _ hsa (by omega)).mono ?_
            rintro e w15 ⟨rfl, hb⟩
            rw [hq]
            clear c0 c1 d0 d1 f0 f1 hsa hsb hsc hra hrb
            have HF := Lib.hid (HF.out.next hb)
            clear hb
            obtain ⟨_, ⟨_, c0, c1, hsa⟩, ⟨_, d0, d1, hsb⟩, ⟨_, f0, f1, hsc⟩, hra, hrb⟩ := id HF.out
            go_wp2_with fail
            refine (readerDone b6 _ _ _ hra).mono ?_
            rintro e w16 ⟨rfl, rfl⟩
            rw [show (!true && s1.isEmpty) = false from rfl]
            go_wp2_with fail
            refine (readerOk b12 _ _ _ hrb).mono ?_
            rintro e w18 ⟨rfl, rfl⟩
            go_wp2_with fail
            refine (readerOk b12 _ _ _ hrb).mono ?_
            rintro e w19 ⟨rfl, rfl⟩
            go_wp2
            go_ret
            exact ⟨rfl, HF.out.1⟩
      | false =>
        have hnv : (numL (fl01 false)) = numL 0 := rfl
        go_wp2_with fail
        refine (ref06Int 0 ⟨by decide, by decide⟩ _).mono ?_
        rintro e w5 ⟨rfl, hb5⟩
        have HV := Lib.hid (HV.out.next hb5)
        have HW := Lib.hid (HW.out.below hb5)
        have hadd := addL (numL n ++ numsL xs) (numL 0) (by have := HLA.out; omega) (by have := numL_len (n := 0) ⟨by decide, by decide⟩; omega)
        have hgl : (numL n ++ numsL xs) ++ numL 0 = gateL xs false := by rw [List.append_assoc]; rw [hn]; rfl
        rw [hgl] at hadd
        have hlg : (gateL xs false).length ≤ 100000 := by rw [← hgl, List.length_append]; have := HLA.out; have := numL_len (n := 0) ⟨by decide, by decide⟩; omega
        have HGR := Lib.hid (fun h => gateRd_right (no := false) h HOK.out)
        have HGW := Lib.hid (fun h => gateRd_wrong (no := false) h HOK.out (by omega))
        have hne : gateL xs false ≠ [] := fun e => by rw [← hgl] at e; simp [numL] at e
        generalize gateL xs false = L at HW hadd hlg HGR HGW hne
        clear hb5 hnv hgl
        obtain ⟨sA, hsA⟩ : ∃ s : ByteArray, s = ⟨(numL n ++ numsL xs).toArray⟩ := ⟨_, rfl⟩
        obtain ⟨sB, hsB⟩ : ∃ s : ByteArray, s = ⟨(numL 0).toArray⟩ := ⟨_, rfl⟩
        obtain ⟨sL, hsL⟩ : ∃ s : ByteArray, s = ⟨L.toArray⟩ := ⟨_, rfl⟩
        rw [← hsA, ← hsB, ← hsL] at hadd
        rw [← hsA, ← hsB]
        have HSL := Lib.hid hsL
        clear hsA hsB hsL
        go_wp2_with fail
        refine (readerNew sL _).mono ?_
        rintro e w6 ⟨rfl, hr6, hb6⟩
        have HV5 := HV
        have HW5 := HW
        have HV := Lib.hid (HV.out.next hb6)
        have HW := Lib.hid (HW.out.below hb6)
        rw [show sL.data.toList = L by rw [HSL.out]] at hr6
        have HR6 := Lib.hid hr6
        clear hadd hr6 hb6
        have h59 : 9 ≤ w5.heap.size := HV5.out.2.1.size
        have hwl : w.heap.size < w5.heap.size := HV5.out.2.2.1
        have hT5 := HW5.out.1
        generalize w5.heap.size = b6 at HR6 h59 hwl hT5 ⊢
        go_wp2_with fail
        refine (gateRead b6 L false w6 HR6.out HV.out.2.1 h59 (by omega)).mono ?_
        rintro e w7 ⟨vx, rfl, hsl, hrd, hk, hox⟩
        have HOX := Lib.hid hox
        have h66 := HR6.out.1
        clear hox
        have HV := Lib.hid (HV.out.kept hk h59 hwl (fun h0 e => by have := HOB.out b6 h0 e; omega))
        have HW := Lib.hid (HW.out.keptB hk (by omega) (by omega))
        obtain ⟨X, hX⟩ : ∃ X, X = gateRd (L, false) := ⟨_, rfl⟩
        rw [← hX] at hsl hrd ⊢
        have HX := Lib.hid hX
        obtain ⟨l1, n1, s1, b1⟩ := X
        dsimp only at hsl hrd ⊢
        obtain ⟨px, cx, rfl, _⟩ := id hsl
        have HR6 := Lib.hid (hrd.below (below1 w7 (.cells #[.slice px l1.length cx, .bool n1] 54)))
        have HB10 := Lib.hid (Bx.mk (no := n1) w7 hsl)
        have HV := Lib.hid (HV.out.next (below1 w7 (.cells #[.slice px l1.length cx, .bool n1] 54)))
        have HW := Lib.hid (HW.out.below (below1 w7 (.cells #[.slice px l1.length cx, .bool n1] 54)))
        have h67 : b6 < w7.heap.size := hrd.1
        clear hX hk hrd hsl HV5 HW5
        go_upto_region 16 with fail
        generalize w7.alloc (.cells #[.slice px l1.length cx, .bool n1] 54) = W8 at HV HW HR6 HB10 ⊢
        generalize w7.heap.size = B10 at HB10 h67 ⊢
        obtain ⟨_, c0, c1, hsv⟩ := id HV.out.2.2
        have HSV := Lib.hid hsv
        clear hsv
        go_wp2_with fail
        refine (ref12Right _ xs W8 HSV.out (by omega)).mono ?_
        rintro e w9 ⟨rfl, hb9⟩
        have HV := Lib.hid (HV.out.next hb9)
        have HW := Lib.hid (HW.out.below hb9)
        have HR6 := Lib.hid (HR6.out.below hb9)
        have HB10 := Lib.hid (HB10.out.below hb9)
        clear hb9 c0 c1 HSV
        go_wp2_with fail
        refine (readerNew s2 w9).mono ?_
        rintro e w10 ⟨rfl, hr10, hb10⟩
        have h99 : 9 ≤ w9.heap.size := HV.out.2.1.size
        have hwl9 : w.heap.size < w9.heap.size := HV.out.2.2.1
        have hT9 := HW.out.1
        have hb69 := HR6.out.1
        have hB19 := HB10.out.1
        have HO10 := Lib.hid (SlAt.own_lt HB10.out.2.2.2)
        have HV := Lib.hid (HV.out.next hb10)
        have HW := Lib.hid (HW.out.below hb10)
        have HR6 := Lib.hid (HR6.out.below hb10)
        have HB10 := Lib.hid (HB10.out.below hb10)
        have HR12 := Lib.hid hr10
        clear hr10 hb10
        generalize w9.heap.size = b12 at HR12 h99 hwl9 hT9 hb69 hB19 HO10 ⊢
        go_wp2_with fail
        refine (gateRead b12 _ false w10 HR12.out HV.out.2.1 h99 (by simp; omega)).mono ?_
        rintro e w11 ⟨vy, rfl, hsl, hrd, hk, hoy⟩
        have HOY := Lib.hid hoy
        have h120 := HR12.out.1
        have h121 := hrd.1
        clear hoy
        have HV := Lib.hid (HV.out.kept hk h99 hwl9 (fun h0 e => by have := HOB.out b12 h0 e; omega))
        have HW := Lib.hid (HW.out.keptB hk (by omega) (by omega))
        have HR6 := Lib.hid (HR6.out.kept hk (by omega))
        have HB10 := Lib.hid (HB10.out.keptB hk (by omega) (fun h0 e => by have := HO10.out b12 h0 e; omega))
        obtain ⟨Y, hY⟩ : ∃ Y, Y = gateRd (s2.data.toList, false) := ⟨_, rfl⟩
        rw [← hY] at hsl hrd ⊢
        have HY := Lib.hid hY
        obtain ⟨l2, n2, t2, b2⟩ := Y
        dsimp only at hsl hrd ⊢
        obtain ⟨py, cy, rfl, _⟩ := id hsl
        have hb13 := below1 w11 (.cells #[.slice py l2.length cy, .bool n2] 54)
        have HR12 := Lib.hid (hrd.below hb13)
        have HB13 := Lib.hid (Bx.mk (no := n2) w11 hsl)
        have HV := Lib.hid (HV.out.next hb13)
        have HW := Lib.hid (HW.out.below hb13)
        have HR6 := Lib.hid (HR6.out.below hb13)
        have HB10 := Lib.hid (HB10.out.below hb13)
        clear hY hk hrd hsl hb13
        go_upto_region 19 with fail
        dsimp only [List.append]
        generalize hb13 : w11.heap.size = B13 at *
        have hk13 := hb13
        go_wp2_with fail
        refine (writerString (b + 1) T2 b L _ HW.out hne).mono ?_
        rintro e w14 ⟨rfl, hk14⟩
        rw [← HSL.out]
        have hwb : w.heap.size ≤ b := HWB.out
        have HF := Lib.hid (show Fin6 w _ false xs B10 _ n1 l1 B13 _ n2 l2 b6 s1 b1 b12 t2 b2 w14 from ⟨HV.out.1.trans (hk14.1.mono (by omega)), HV.out.2.2.keptS hk14 (.inl (by omega)) (fun h0 q hq => .inl (by have := HOB.out q h0 hq; omega)), HB10.out.keptS hk14 (.inr (by omega)) (fun _ q hq => .inr (by have := HOX.out q hq; omega)), HB13.out.keptS hk14 (.inr (by omega)) (fun _ q hq => .inr (by have := HOY.out q hq; omega)), HR6.out.of_block hk14.1.size (hk14.2 b6 (.inr (by omega))), HR12.out.of_block hk14.1.size (hk14.2 b12 (.inr (by omega)))⟩)
        clear hk14 HV HW HR6 HR12 HB10 HB13
        have HL2 := Lib.hid (show rightG l2 = true → l2.length ≤ 12 from fun h => (rightG_all h).2)
        cases hq : rightG xs with
        | true =>
          have e := HX.out.trans (HGR.out hq)
          simp only [Prod.mk.injEq] at e
          obtain ⟨e1, rfl, rfl, rfl⟩ := e
          obtain rfl : xs = l1 := e1.symm
          clear e1
          rcases gateRd_cases (s2.data.toList, false) with h | h
          · rw [← HY.out] at h
            dsimp only at h
            obtain ⟨rfl, hr2⟩ := h
            have HL2 := Lib.hid (HL2.out hr2)
            obtain ⟨_, ⟨_, c0, c1, hsa⟩, ⟨_, d0, d1, hsb⟩, ⟨_, f0, f1, hsc⟩, hra, hrb⟩ := id HF.out
            go_wp2_with fail
            refine (gateRight _ _ xs _ hsa (by omega)).mono ?_
            rintro e w15 ⟨rfl, hb⟩
            rw [hq]
            clear c0 c1 d0 d1 f0 f1 hsa hsb hsc hra hrb
            have HF := Lib.hid (HF.out.next hb)
            clear hb
            obtain ⟨_, ⟨_, c0, c1, hsa⟩, ⟨_, d0, d1, hsb⟩, ⟨_, f0, f1, hsc⟩, hra, hrb⟩ := id HF.out
            go_wp2_with fail
            refine (readerDone b6 _ _ _ hra).mono ?_
            rintro e w16 ⟨rfl, rfl⟩
            rw [show (!false && ([] : List UInt8).isEmpty) = true from rfl]
            go_wp2_with fail
            refine (same02 _ _ xs xs _ hsb hsa (by omega) (by omega)).mono ?_
            rintro e w17 ⟨rfl, hb⟩
            rw [show decide (xs = xs) = true by simp]
            clear c0 c1 d0 d1 f0 f1 hsa hsb hsc hra hrb
            have HF := Lib.hid (HF.out.next hb)
            clear hb
            obtain ⟨_, ⟨_, c0, c1, hsa⟩, ⟨_, d0, d1, hsb⟩, ⟨_, f0, f1, hsc⟩, hra, hrb⟩ := id HF.out
            go_wp2_with fail
            refine (readerOk b12 _ _ _ hrb).mono ?_
            rintro e w18 ⟨rfl, rfl⟩
            go_wp2_with fail
            refine (gateRight _ _ l2 _ hsc (by have := HL2.out; omega)).mono ?_
            rintro e w19 ⟨rfl, hb⟩
            rw [hr2]
            clear c0 c1 d0 d1 f0 f1 hsa hsb hsc hra hrb
            have HF := Lib.hid (HF.out.next hb)
            clear hb
            go_wp2
            go_ret
            exact ⟨rfl, HF.out.1⟩
          · rw [← HY.out] at h
            dsimp only at h
            obtain ⟨rfl, rfl, rfl⟩ := h
            obtain ⟨_, ⟨_, c0, c1, hsa⟩, ⟨_, d0, d1, hsb⟩, ⟨_, f0, f1, hsc⟩, hra, hrb⟩ := id HF.out
            go_wp2_with fail
            refine (gateRight _ _ xs _ hsa (by omega)).mono ?_
            rintro e w15 ⟨rfl, hb⟩
            rw [hq]
            clear c0 c1 d0 d1 f0 f1 hsa hsb hsc hra hrb
            have HF := Lib.hid (HF.out.next hb)
            clear hb
            obtain ⟨_, ⟨_, c0, c1, hsa⟩, ⟨_, d0, d1, hsb⟩, ⟨_, f0, f1, hsc⟩, hra, hrb⟩ := id HF.out
            go_wp2_with fail
            refine (readerDone b6 _ _ _ hra).mono ?_
            rintro e w16 ⟨rfl, rfl⟩
            rw [show (!false && ([] : List UInt8).isEmpty) = true from rfl]
            go_wp2_with fail
            refine (same02 _ _ xs xs _ hsb hsa (by omega) (by omega)).mono ?_
            rintro e w17 ⟨rfl, hb⟩
            rw [show decide (xs = xs) = true by simp]
            clear c0 c1 d0 d1 f0 f1 hsa hsb hsc hra hrb
            have HF := Lib.hid (HF.out.next hb)
            clear hb
            obtain ⟨_, ⟨_, c0, c1, hsa⟩, ⟨_, d0, d1, hsb⟩, ⟨_, f0, f1, hsc⟩, hra, hrb⟩ := id HF.out
            go_wp2_with fail
            refine (readerOk b12 _ _ _ hrb).mono ?_
            rintro e w18 ⟨rfl, rfl⟩
            go_wp2_with fail
            refine (readerOk b12 _ _ _ hrb).mono ?_
            rintro e w19 ⟨rfl, rfl⟩
            go_wp2
            go_ret
            exact ⟨rfl, HF.out.1⟩
        | false =>
          have e := HGW.out hq
          rw [← HX.out] at e
          dsimp only at e
          obtain ⟨rfl, rfl, rfl⟩ := e
          rcases gateRd_cases (s2.data.toList, false) with h | h
          · rw [← HY.out] at h
            dsimp only at h
            obtain ⟨rfl, hr2⟩ := h
            have HL2 := Lib.hid (HL2.out hr2)
            obtain ⟨_, ⟨_, c0, c1, hsa⟩, ⟨_, d0, d1, hsb⟩, ⟨_, f0, f1, hsc⟩, hra, hrb⟩ := id HF.out
            go_wp2_with fail
            refine (gateRight _ _ xs _ hsa (by omega)).mono ?_
            rintro e w15 ⟨rfl, hb⟩
            rw [hq]
            clear c0 c1 d0 d1 f0 f1 hsa hsb hsc hra hrb
            have HF := Lib.hid (HF.out.next hb)
            clear hb
            obtain ⟨_, ⟨_, c0, c1, hsa⟩, ⟨_, d0, d1, hsb⟩, ⟨_, f0, f1, hsc⟩, hra, hrb⟩ := id HF.out
            go_wp2_with fail
            refine (readerDone b6 _ _ _ hra).mono ?_
            rintro e w16 ⟨rfl, rfl⟩
            rw [show (!true && s1.isEmpty) = false from rfl]
            go_wp2_with fail
            refine (readerOk b12 _ _ _ hrb).mono ?_
            rintro e w18 ⟨rfl, rfl⟩
            go_wp2_with fail
            refine (gateRight _ _ l2 _ hsc (by have := HL2.out; omega)).mono ?_
            rintro e w19 ⟨rfl, hb⟩
            rw [hr2]
            clear c0 c1 d0 d1 f0 f1 hsa hsb hsc hra hrb
            have HF := Lib.hid (HF.out.next hb)
            clear hb
            go_wp2
            go_ret
            exact ⟨rfl, HF.out.1⟩
          · rw [← HY.out] at h
            dsimp only at h
            obtain ⟨rfl, rfl, rfl⟩ := h
            obtain ⟨_, ⟨_, c0, c1, hsa⟩, ⟨_, d0, d1, hsb⟩, ⟨_, f0, f1, hsc⟩, hra, hrb⟩ := id HF.out
            go_wp2_with fail
            refine (gateRight _ _ xs _ hsa (by omega)).mono ?_
            rintro e w15 ⟨rfl, hb⟩
            rw [hq]
            clear c0 c1 d0 d1 f0 f1 hsa hsb hsc hra hrb
            have HF := Lib.hid (HF.out.next hb)
            clear hb
            obtain ⟨_, ⟨_, c0, c1, hsa⟩, ⟨_, d0, d1, hsb⟩, ⟨_, f0, f1, hsc⟩, hra, hrb⟩ := id HF.out
            go_wp2_with fail
            refine (readerDone b6 _ _ _ hra).mono ?_
            rintro e w16 ⟨rfl, rfl⟩
            rw [show (!true && s1.isEmpty) = false from rfl]
            go_wp2_with fail
            refine (readerOk b12 _ _ _ hrb).mono ?_
            rintro e w18 ⟨rfl, rfl⟩
            go_wp2_with fail
            refine (readerOk b12 _ _ _ hrb).mono ?_
            rintro e w19 ⟨rfl, rfl⟩
            go_wp2
            go_ret
            exact ⟨rfl, HF.out.1⟩
end Go.Proofs.YtbbcicengfmhiaaDoor

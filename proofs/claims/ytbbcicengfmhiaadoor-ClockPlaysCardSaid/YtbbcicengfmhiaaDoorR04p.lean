/- The document's sector at the piece that the clock's statements fix. -/
import Derived.Test.YtbbcicengfmhiaaDoorR04
import Derived.Test.YtbbcicengfmhiaaDoorClk0
import Derived.Deep.RegionHeld3
import Derived.OwnWalk
import Derived.Laws.OwnMore
namespace Go.Proofs.YtbbcicengfmhiaaDoor
set_option maxRecDepth 100000
open Go.RowKit

theorem wpAnyH_weaken {P : Program} {md : Region.Mode} {ops : Array Oper} {Q : Exit → Act → World → Prop} {S S' : World → Prop} (hS : ∀ w, S' w → S w) : ∀ (fuel : Nat) (listed : Array Bool) (a : Act) (w : World), wpAnyH P md ops Q S' fuel listed a w → wpAnyH P md ops Q S fuel listed a w
  | 0, _, _, _, h => h
  | fuel + 1, _, _, _, h => ⟨h.1, fun i hi => wpOp_mono (fun a' w' h' => ⟨hS _ h'.1, wpAnyH_weaken hS fuel _ a' w' h'.2⟩) (h.2 i hi)⟩
theorem zc33 {j : Nat} (hj : j < 33) : (bcs (zeros 33))[j]? = some (.int .u8 0) := by
  have : bcs (zeros 33) = List.replicate 33 (.int .u8 0) := rfl
  rw [this, List.getElem?_replicate, if_pos hj]
theorem cvZ (N : Nat) (w : World) (h : ∀ j, j < 33 → w.cell? ⟨N, j, none⟩ = some (.int .u8 0)) : (convert 56 9 (.slice (some ⟨N, 0, none⟩) 33 33)).run Tryd.prog w = .ok (.string ⟨(zeros 33).toArray⟩) w := by
  refine run_convert_bytes_back (P := Tryd.prog) w 56 9 5 ⟨N, 0, none⟩ 33 (zeros 33) Tryd.underlying56 Tryd.underlying5 Tryd.underlying9 (fun j hj => ?_)
  have hj : j < 33 := hj
  rw [Addr.add_mid, Nat.zero_add, h j hj]
  have : ∀ h : j < (List.replicate 33 (0 : UInt8)).length, (List.replicate 33 (0 : UInt8))[j] = 0 := fun _ => List.getElem_replicate ..
  exact congrArg (fun c : UInt8 => some (Value.int .u8 (c.toNat : Int))) (this (by simpa using hj)).symm
theorem addS (A B : List UInt8) (hA : A.length ≤ 1000) (hB : B.length ≤ 1000) (s1 s2 s3 : ByteArray) (h1 : s1 = ⟨A.toArray⟩) (h2 : s2 = ⟨B.toArray⟩) (h3 : s3 = ⟨(A ++ B).toArray⟩) : ∀ W, (Op.stringOp .add s1 s2).run Tryd.prog W = .ok (.string s3) W := fun W => by
  subst h1; subst h2; subst h3
  exact run_string_add_lists W A B (by omega) (by omega)
theorem wp_make33 {o : Oper} {a : Act} {w : World} {K : Act → World → Prop} {Q : Exit → Act → World → Prop} (ho : o.op = .makeSlice 56 (.tmp 38) (.tmp 38)) (hv : a.eval (.tmp 38) = .int .i64 33)
    (h : ∀ w', BlkIs w' w.heap.size (bcs (zeros 33)) 5 → Below w.heap.size w w' → K (a.put o.dst (.slice (some ⟨w.heap.size, 0, none⟩) 33 33)) w') : o.wp Tryd.prog a w K Q := by
  obtain ⟨i0, hi, hz0, hz1, hz2⟩ := info_parts infoByte
  obtain ⟨w', hrun, r1, r2⟩ := run_make_full (P := Tryd.prog) w w.heap.size 56 5 i0 (.int .u8 0) 1 Tryd.underlying56 hi hz0 hz1 .i64 .i64 33 (by rw [hz2]; decide) (by decide) (Nat.le_refl _)
  have hB : BlkIs w' w.heap.size (bcs (zeros 33)) 5 := by
    rcases r1.2 with ⟨e, _⟩ | ⟨g, cap, cur, hv, _, hh, _, _, hcs, htake⟩
    · cases e
    · simp only [Value.slice.injEq, Option.some.injEq, Addr.mk.injEq, true_and, and_true] at hv
      obtain ⟨rfl, rfl⟩ := hv
      unfold BlkIs
      rw [hh]
      rw [List.take_of_length_le (by rw [Array.length_toList]; omega)] at htake
      have : bcs (zeros 33) = (madeCells (Value.int .u8 0).cells (33 * 1)).toList := by rw [show (Value.int .u8 0).cells = #[Value.int .u8 0] from rfl, toList_madeCells_one]; rfl
      rw [this, ← htake]
  have hb := (Below.refl w.heap.size w).grown r2 (Nat.le_refl _) (fun q hq => by cases hq)
  rw [show ((33 : Nat) : Int) = 33 from rfl] at hrun
  unfold Oper.wp
  simp only [execOp, ho, hv, Sem.run_bind, hrun, Result.andThen_ok, Sem.run_pure]
  exact h w' hB hb
def dd : List UInt8 := [50, 44, 50, 44]
set_option maxHeartbeats 16000000 in
theorem refPrint4 (w : World) : Calls Tryd.prog 105 #[.agg #[.int .u64 4, .int .i64 0, .int .i64 0, .int .i64 0, .int .i64 1, .string ⟨#[50, 44, 50, 44]⟩]] w fun e w' => e = .returned (.string ⟨(secOf 4 2 2).toArray⟩) ∧ Below w.heap.size w w' := by
  have HB0 := Lib.hid (below1 w (.cells #[.int .u64 4, .int .i64 0, .int .i64 0, .int .i64 0, .int .i64 1, .string ⟨#[50, 44, 50, 44]⟩] 161))
  obtain ⟨s1, hs1⟩ : ∃ s : ByteArray, s = ⟨(be 8 4).toArray⟩ := ⟨_, rfl⟩
  have k1 := fun W => show Calls Tryd.prog 141 #[.int .u64 4, .int .i64 8] W fun e w' => e = .returned (.string ⟨(be 8 4).toArray⟩) ∧ Below W.heap.size W w' from refNumber 4 8 W (by decide) (by decide) (by decide)
  rw [← hs1] at k1
  have KN1 := Lib.hid k1
  obtain ⟨s2, hs2⟩ : ∃ s : ByteArray, s = ⟨(be 4 0).toArray⟩ := ⟨_, rfl⟩
  have k2 := fun W => show Calls Tryd.prog 141 #[.int .u64 0, .int .i64 4] W fun e w' => e = .returned (.string ⟨(be 4 0).toArray⟩) ∧ Below W.heap.size W w' from refNumber 0 4 W (by decide) (by decide) (by decide)
  rw [← hs2] at k2
  have KN2 := Lib.hid k2
  obtain ⟨s3, hs3⟩ : ∃ s : ByteArray, s = ⟨(be 2 0).toArray⟩ := ⟨_, rfl⟩
  have k3 := fun W => show Calls Tryd.prog 141 #[.int .u64 0, .int .i64 2] W fun e w' => e = .returned (.string ⟨(be 2 0).toArray⟩) ∧ Below W.heap.size W w' from refNumber 0 2 W (by decide) (by decide) (by decide)
  rw [← hs3] at k3
  have KN3 := Lib.hid k3
  obtain ⟨s4, hs4⟩ : ∃ s : ByteArray, s = ⟨(be 2 0).toArray⟩ := ⟨_, rfl⟩
  have k4 := fun W => show Calls Tryd.prog 141 #[.int .u64 0, .int .i64 2] W fun e w' => e = .returned (.string ⟨(be 2 0).toArray⟩) ∧ Below W.heap.size W w' from refNumber 0 2 W (by decide) (by decide) (by decide)
  rw [← hs4] at k4
  have KN4 := Lib.hid k4
  obtain ⟨s5, hs5⟩ : ∃ s : ByteArray, s = ⟨(be 2 1).toArray⟩ := ⟨_, rfl⟩
  have k5 := fun W => show Calls Tryd.prog 141 #[.int .u64 1, .int .i64 2] W fun e w' => e = .returned (.string ⟨(be 2 1).toArray⟩) ∧ Below W.heap.size W w' from refNumber 1 2 W (by decide) (by decide) (by decide)
  rw [← hs5] at k5
  have KN5 := Lib.hid k5
  obtain ⟨s6, hs6⟩ : ∃ s : ByteArray, s = ⟨(be 1 4).toArray⟩ := ⟨_, rfl⟩
  have k6 := fun W => show Calls Tryd.prog 141 #[.int .u64 4, .int .i64 1] W fun e w' => e = .returned (.string ⟨(be 1 4).toArray⟩) ∧ Below W.heap.size W w' from refNumber 4 1 W (by decide) (by decide) (by decide)
  rw [← hs6] at k6
  have KN6 := Lib.hid k6
  obtain ⟨s7, hs7⟩ : ∃ s : ByteArray, s = ⟨(be 8 4).toArray⟩ := ⟨_, rfl⟩
  have k7 := fun W => show Calls Tryd.prog 141 #[.int .u64 4, .int .i64 8] W fun e w' => e = .returned (.string ⟨(be 8 4).toArray⟩) ∧ Below W.heap.size W w' from refNumber 4 8 W (by decide) (by decide) (by decide)
  rw [← hs7] at k7
  have KN7 := Lib.hid k7
  obtain ⟨sd, hsd⟩ : ∃ s : ByteArray, s = ⟨dd.toArray⟩ := ⟨_, rfl⟩
  obtain ⟨sz, hsz⟩ : ∃ s : ByteArray, s = ⟨(zeros 33).toArray⟩ := ⟨_, rfl⟩
  obtain ⟨a1, ha1⟩ : ∃ s : ByteArray, s = ⟨((be 8 4) ++ be 4 0).toArray⟩ := ⟨_, rfl⟩
  have hA1 := addS (be 8 4) (be 4 0) (by decide) (by decide) s1 s2 a1 hs1 hs2 ha1
  obtain ⟨a2, ha2⟩ : ∃ s : ByteArray, s = ⟨(((be 8 4) ++ be 4 0) ++ be 2 0).toArray⟩ := ⟨_, rfl⟩
  have hA2 := addS ((be 8 4) ++ be 4 0) (be 2 0) (by decide) (by decide) a1 s3 a2 ha1 hs3 ha2
  obtain ⟨a3, ha3⟩ : ∃ s : ByteArray, s = ⟨((((be 8 4) ++ be 4 0) ++ be 2 0) ++ be 2 0).toArray⟩ := ⟨_, rfl⟩
  have hA3 := addS (((be 8 4) ++ be 4 0) ++ be 2 0) (be 2 0) (by decide) (by decide) a2 s4 a3 ha2 hs4 ha3
  obtain ⟨a4, ha4⟩ : ∃ s : ByteArray, s = ⟨(((((be 8 4) ++ be 4 0) ++ be 2 0) ++ be 2 0) ++ be 2 1).toArray⟩ := ⟨_, rfl⟩
  have hA4 := addS ((((be 8 4) ++ be 4 0) ++ be 2 0) ++ be 2 0) (be 2 1) (by decide) (by decide) a3 s5 a4 ha3 hs5 ha4
  obtain ⟨a5, ha5⟩ : ∃ s : ByteArray, s = ⟨((((((be 8 4) ++ be 4 0) ++ be 2 0) ++ be 2 0) ++ be 2 1) ++ be 1 4).toArray⟩ := ⟨_, rfl⟩
  have hA5 := addS (((((be 8 4) ++ be 4 0) ++ be 2 0) ++ be 2 0) ++ be 2 1) (be 1 4) (by decide) (by decide) a4 s6 a5 ha4 hs6 ha5
  obtain ⟨a6, ha6⟩ : ∃ s : ByteArray, s = ⟨(((((((be 8 4) ++ be 4 0) ++ be 2 0) ++ be 2 0) ++ be 2 1) ++ be 1 4) ++ dd).toArray⟩ := ⟨_, rfl⟩
  have hA6 := addS ((((((be 8 4) ++ be 4 0) ++ be 2 0) ++ be 2 0) ++ be 2 1) ++ be 1 4) (dd) (by decide) (by decide) a5 sd a6 ha5 hsd ha6
  obtain ⟨a7, ha7⟩ : ∃ s : ByteArray, s = ⟨((((((((be 8 4) ++ be 4 0) ++ be 2 0) ++ be 2 0) ++ be 2 1) ++ be 1 4) ++ dd) ++ zeros 33).toArray⟩ := ⟨_, rfl⟩
  have hA7 := addS (((((((be 8 4) ++ be 4 0) ++ be 2 0) ++ be 2 0) ++ be 2 1) ++ be 1 4) ++ dd) (zeros 33) (by decide) (by decide) a6 sz a7 ha6 hsz ha7
  obtain ⟨a8, ha8⟩ : ∃ s : ByteArray, s = ⟨(((((((((be 8 4) ++ be 4 0) ++ be 2 0) ++ be 2 0) ++ be 2 1) ++ be 1 4) ++ dd) ++ zeros 33) ++ be 8 4).toArray⟩ := ⟨_, rfl⟩
  have hA8 := addS ((((((((be 8 4) ++ be 4 0) ++ be 2 0) ++ be 2 0) ++ be 2 1) ++ be 1 4) ++ dd) ++ zeros 33) (be 8 4) (by decide) (by decide) a7 s7 a8 ha7 hs7 ha8
  have HEND := Lib.hid (show a8 = ⟨(secOf 4 2 2).toArray⟩ by rw [ha8]; decide +kernel)
  have HSZ := Lib.hid hsz.symm
  have hdd : (⟨#[50, 44, 50, 44]⟩ : ByteArray) = sd := hsd.symm
  clear hs1 k1 hs2 k2 hs3 k3 hs4 k4 hs5 k5 hs6 k6 hs7 k7 hsd hsz ha1 ha2 ha3 ha4 ha5 ha6 ha7 ha8
  rw [hdd]
  have hdz : sd.size = 4 := by rw [← hdd]; rfl
  have HBX := Lib.hid (show Below w.heap.size w (w.alloc (.cells #[.int .u64 4, .int .i64 0, .int .i64 0, .int .i64 0, .int .i64 1, .string sd] 161)) from below1 _ _)
  have hwu0 : IntKind.u64.wrap 0 = 0 := by decide
  have hwu1 : IntKind.u64.wrap 1 = 1 := by decide
  have hwu4 : IntKind.u64.wrap 4 = 4 := by decide
  have hw33 : IntKind.i64.wrap 33 = 33 := by decide
  clear hdd HB0
  go_enter Tryd.func105, Tryd.ntmps105
  have c0 : (w.alloc (.cells #[.int .u64 4, .int .i64 0, .int .i64 0, .int .i64 0, .int .i64 1, .string sd] 161)).cell? ⟨w.heap.size, 0, none⟩ = some (.int .u64 4) := by go_simp
  have c1 : (w.alloc (.cells #[.int .u64 4, .int .i64 0, .int .i64 0, .int .i64 0, .int .i64 1, .string sd] 161)).cell? ⟨w.heap.size, 1, none⟩ = some (.int .i64 0) := by go_simp
  have c2 : (w.alloc (.cells #[.int .u64 4, .int .i64 0, .int .i64 0, .int .i64 0, .int .i64 1, .string sd] 161)).cell? ⟨w.heap.size, 2, none⟩ = some (.int .i64 0) := by go_simp
  have c3 : (w.alloc (.cells #[.int .u64 4, .int .i64 0, .int .i64 0, .int .i64 0, .int .i64 1, .string sd] 161)).cell? ⟨w.heap.size, 3, none⟩ = some (.int .i64 0) := by go_simp
  have c4 : (w.alloc (.cells #[.int .u64 4, .int .i64 0, .int .i64 0, .int .i64 0, .int .i64 1, .string sd] 161)).cell? ⟨w.heap.size, 4, none⟩ = some (.int .i64 1) := by go_simp
  have c5 : (w.alloc (.cells #[.int .u64 4, .int .i64 0, .int .i64 0, .int .i64 0, .int .i64 1, .string sd] 161)).cell? ⟨w.heap.size, 5, none⟩ = some (.string sd) := by go_simp
  have hzz : w.heap.size < (w.alloc (.cells #[.int .u64 4, .int .i64 0, .int .i64 0, .int .i64 0, .int .i64 1, .string sd] 161)).heap.size := by simp
  go_wp2_with fail
  generalize w.alloc (.cells #[.int .u64 4, .int .i64 0, .int .i64 0, .int .i64 0, .int .i64 1, .string sd] 161) = W0 at *
  generalize hqe : w.heap.size = q at *
  have HQE := Lib.hid hqe
  clear hqe
  have HZZ := Lib.hid (Nat.le_of_lt hzz)
  refine wp_region_held_drew (S := (fun w' => (∀ b o, b < (W0).heap.size → w'.cell? ⟨b, o, none⟩ = (W0).cell? ⟨b, o, none⟩) ∧ Below (W0).heap.size (W0) w')) (by kernel_rfl) (stay0 _) (fun hHeld => ?_)
  try dsimp only [List.size_toArray, List.length_cons, List.length_nil]
  refine takeL (i := 0) rfl (v := ?v1) (by kernel_rfl) (by kernel_rfl) (by kernel_rfl) (fun _ _ _ h => h) (Or.inl ⟨by rfl, fun _w _hSw => ?hy1⟩) (by assumption) ?rest1
  case hy1 =>
    (try dsimp only at _hSw)
    go_simp
    try with_reducible rfl
  try simp only [Act.put, List.setIfInBounds_toArray, List.set_cons_zero, List.set_cons_succ]
  refine takeL (i := 1) rfl (v := ?v2) (by kernel_rfl) (by kernel_rfl) (by kernel_rfl) (fun _ _ _ h => h) (Or.inl ⟨by rfl, fun _w _hSw => ?hy2⟩) (by assumption) ?rest2
  case hy2 =>
    (try dsimp only at _hSw)
    go_simp
    try with_reducible rfl
  try simp only [Act.put, List.setIfInBounds_toArray, List.set_cons_zero, List.set_cons_succ]
  refine takeL (i := 3) rfl (v := ?v3) (by kernel_rfl) (by kernel_rfl) (by kernel_rfl) (fun _ _ _ h => h) (Or.inl ⟨by rfl, fun _w _hSw => ?hy3⟩) (by assumption) ?rest3
  case hy3 =>
    (try dsimp only at _hSw)
    go_simp
    try with_reducible rfl
  try simp only [Act.put, List.setIfInBounds_toArray, List.set_cons_zero, List.set_cons_succ]
  refine takeL (i := 4) rfl (v := ?v4) (by kernel_rfl) (by kernel_rfl) (by kernel_rfl) (fun _ _ _ h => h) (Or.inl ⟨by rfl, fun _w _hSw => ?hy4⟩) (by assumption) ?rest4
  case hy4 =>
    (try dsimp only at _hSw)
    go_simp
    try with_reducible rfl
  try simp only [Act.put, List.setIfInBounds_toArray, List.set_cons_zero, List.set_cons_succ]
  refine takeL (i := 5) rfl (v := ?v5) (by kernel_rfl) (by kernel_rfl) (by kernel_rfl) (fun _ _ _ h => h) (Or.inl ⟨by rfl, fun _w _hSw => ?hy5⟩) (by assumption) ?rest5
  case hy5 =>
    (try dsimp only at _hSw)
    go_simp
    try with_reducible rfl
  try simp only [Act.put, List.setIfInBounds_toArray, List.set_cons_zero, List.set_cons_succ]
  refine takeL (i := 8) rfl (v := ?v6) (by kernel_rfl) (by kernel_rfl) (by kernel_rfl) (fun _ _ _ h => h) (Or.inl ⟨by rfl, fun _w _hSw => ?hy6⟩) (by assumption) ?rest6
  case hy6 =>
    (try dsimp only at _hSw)
    go_simp
    try with_reducible rfl
  try simp only [Act.put, List.setIfInBounds_toArray, List.set_cons_zero, List.set_cons_succ]
  refine takeL (i := 9) rfl (v := ?v7) (by kernel_rfl) (by kernel_rfl) (by kernel_rfl) (fun _ _ _ h => h) (Or.inl ⟨by rfl, fun _w _hSw => ?hy7⟩) (by assumption) ?rest7
  case hy7 =>
    (try dsimp only at _hSw)
    go_simp
    try with_reducible rfl
  try simp only [Act.put, List.setIfInBounds_toArray, List.set_cons_zero, List.set_cons_succ]
  refine takeL (i := 10) rfl (v := ?v8) (by kernel_rfl) (by kernel_rfl) (by kernel_rfl) (fun _ _ _ h => h) (Or.inl ⟨by rfl, fun _w _hSw => ?hy8⟩) (by assumption) ?rest8
  case hy8 =>
    (try dsimp only at _hSw)
    go_simp
    try with_reducible rfl
  try simp only [Act.put, List.setIfInBounds_toArray, List.set_cons_zero, List.set_cons_succ]
  refine takeL (i := 13) rfl (v := ?v9) (by kernel_rfl) (by kernel_rfl) (by kernel_rfl) (fun _ _ _ h => h) (Or.inl ⟨by rfl, fun _w _hSw => ?hy9⟩) (by assumption) ?rest9
  case hy9 =>
    (try dsimp only at _hSw)
    go_simp
    try with_reducible rfl
  try simp only [Act.put, List.setIfInBounds_toArray, List.set_cons_zero, List.set_cons_succ]
  refine takeL (i := 14) rfl (v := ?v10) (by kernel_rfl) (by kernel_rfl) (by kernel_rfl) (fun _ _ _ h => h) (Or.inl ⟨by rfl, fun _w _hSw => ?hy10⟩) (by assumption) ?rest10
  case hy10 =>
    (try dsimp only at _hSw)
    go_simp
    try with_reducible rfl
  try simp only [Act.put, List.setIfInBounds_toArray, List.set_cons_zero, List.set_cons_succ]
  refine takeL (i := 15) rfl (v := ?v11) (by kernel_rfl) (by kernel_rfl) (by kernel_rfl) (fun _ _ _ h => h) (Or.inl ⟨by rfl, fun _w _hSw => ?hy11⟩) (by assumption) ?rest11
  case hy11 =>
    (try dsimp only at _hSw)
    go_simp
    try with_reducible rfl
  try simp only [Act.put, List.setIfInBounds_toArray, List.set_cons_zero, List.set_cons_succ]
  refine takeL (i := 18) rfl (v := ?v12) (by kernel_rfl) (by kernel_rfl) (by kernel_rfl) (fun _ _ _ h => h) (Or.inl ⟨by rfl, fun _w _hSw => ?hy12⟩) (by assumption) ?rest12
  case hy12 =>
    (try dsimp only at _hSw)
    go_simp
    try with_reducible rfl
  try simp only [Act.put, List.setIfInBounds_toArray, List.set_cons_zero, List.set_cons_succ]
  refine takeL (i := 19) rfl (v := ?v13) (by kernel_rfl) (by kernel_rfl) (by kernel_rfl) (fun _ _ _ h => h) (Or.inl ⟨by rfl, fun _w _hSw => ?hy13⟩) (by assumption) ?rest13
  case hy13 =>
    (try dsimp only at _hSw)
    go_simp
    try with_reducible rfl
  try simp only [Act.put, List.setIfInBounds_toArray, List.set_cons_zero, List.set_cons_succ]
  refine takeL (i := 20) rfl (v := ?v14) (by kernel_rfl) (by kernel_rfl) (by kernel_rfl) (fun _ _ _ h => h) (Or.inl ⟨by rfl, fun _w _hSw => ?hy14⟩) (by assumption) ?rest14
  case hy14 =>
    (try dsimp only at _hSw)
    go_simp
    try with_reducible rfl
  try simp only [Act.put, List.setIfInBounds_toArray, List.set_cons_zero, List.set_cons_succ]
  refine takeL (i := 23) rfl (v := ?v15) (by kernel_rfl) (by kernel_rfl) (by kernel_rfl) (fun _ _ _ h => h) (Or.inl ⟨by rfl, fun _w _hSw => ?hy15⟩) (by assumption) ?rest15
  case hy15 =>
    (try dsimp only at _hSw)
    go_simp
    try with_reducible rfl
  try simp only [Act.put, List.setIfInBounds_toArray, List.set_cons_zero, List.set_cons_succ]
  refine takeL (i := 24) rfl (v := ?v16) (by kernel_rfl) (by kernel_rfl) (by kernel_rfl) (fun _ _ _ h => h) (Or.inl ⟨by rfl, fun _w _hSw => ?hy16⟩) (by assumption) ?rest16
  case hy16 =>
    (try dsimp only at _hSw)
    go_simp
    try with_reducible rfl
  try simp only [Act.put, List.setIfInBounds_toArray, List.set_cons_zero, List.set_cons_succ]
  refine takeL (i := 25) rfl (v := ?v17) (by kernel_rfl) (by kernel_rfl) (by kernel_rfl) (fun _ _ _ h => h) (Or.inl ⟨by rfl, fun _w _hSw => ?hy17⟩) (by assumption) ?rest17
  case hy17 =>
    (try dsimp only at _hSw)
    go_simp
    try with_reducible rfl
  try simp only [Act.put, List.setIfInBounds_toArray, List.set_cons_zero, List.set_cons_succ]
  refine takeL (i := 26) rfl (v := ?v18) (by kernel_rfl) (by kernel_rfl) (by kernel_rfl) (fun _ _ _ h => h) (Or.inl ⟨by rfl, fun _w _hSw => ?hy18⟩) (by assumption) ?rest18
  case hy18 =>
    (try dsimp only at _hSw)
    go_simp
    try with_reducible rfl
  try simp only [Act.put, List.setIfInBounds_toArray, List.set_cons_zero, List.set_cons_succ]
  refine takeL (i := 29) rfl (v := ?v19) (by kernel_rfl) (by kernel_rfl) (by kernel_rfl) (fun _ _ _ h => h) (Or.inl ⟨by rfl, fun _w _hSw => ?hy19⟩) (by assumption) ?rest19
  case hy19 =>
    (try dsimp only at _hSw)
    go_simp
    try with_reducible rfl
  try simp only [Act.put, List.setIfInBounds_toArray, List.set_cons_zero, List.set_cons_succ]
  refine takeL (i := 30) rfl (v := ?v20) (by kernel_rfl) (by kernel_rfl) (by kernel_rfl) (fun _ _ _ h => h) (Or.inl ⟨by rfl, fun _w _hSw => ?hy20⟩) (by assumption) ?rest20
  case hy20 =>
    (try dsimp only at _hSw)
    go_simp
    try with_reducible rfl
  try simp only [Act.put, List.setIfInBounds_toArray, List.set_cons_zero, List.set_cons_succ]
  refine takeL (i := 32) rfl (v := ?v21) (by kernel_rfl) (by kernel_rfl) (by kernel_rfl) (fun _ _ _ h => h) (Or.inl ⟨by rfl, fun _w _hSw => ?hy21⟩) (by assumption) ?rest21
  case hy21 =>
    (try dsimp only at _hSw)
    go_simp
    try with_reducible rfl
  try simp only [Act.put, List.setIfInBounds_toArray, List.set_cons_zero, List.set_cons_succ]
  refine takeL (i := 33) rfl (v := ?v22) (by kernel_rfl) (by kernel_rfl) (by kernel_rfl) (fun _ _ _ h => h) (Or.inl ⟨by rfl, fun _w _hSw => ?hy22⟩) (by assumption) ?rest22
  case hy22 =>
    (try dsimp only at _hSw)
    go_simp
    try with_reducible rfl
  try simp only [Act.put, List.setIfInBounds_toArray, List.set_cons_zero, List.set_cons_succ]
  refine takeL (i := 34) rfl (v := ?v23) (by kernel_rfl) (by kernel_rfl) (by kernel_rfl) (fun _ _ _ h => h) (Or.inl ⟨by rfl, fun _w _hSw => ?hy23⟩) (by assumption) ?rest23
  case hy23 =>
    (try dsimp only at _hSw)
    go_simp
    try with_reducible rfl
  try simp only [Act.put, List.setIfInBounds_toArray, List.set_cons_zero, List.set_cons_succ]
  refine takeL (i := 35) rfl (v := ?v24) (by kernel_rfl) (by kernel_rfl) (by kernel_rfl) (fun _ _ _ h => h) (Or.inl ⟨by rfl, fun _w _hSw => ?hy24⟩) (by assumption) ?rest24
  case hy24 =>
    (try dsimp only at _hSw)
    go_simp
    try with_reducible rfl
  try simp only [Act.put, List.setIfInBounds_toArray, List.set_cons_zero, List.set_cons_succ]
  refine takeL (i := 39) rfl (v := ?v25) (by kernel_rfl) (by kernel_rfl) (by kernel_rfl) (fun _ _ _ h => h) (Or.inl ⟨by rfl, fun _w _hSw => ?hy25⟩) (by assumption) ?rest25
  case hy25 =>
    (try dsimp only at _hSw)
    go_simp
    try with_reducible rfl
  try simp only [Act.put, List.setIfInBounds_toArray, List.set_cons_zero, List.set_cons_succ]
  refine takeL (i := 40) rfl (v := ?v26) (by kernel_rfl) (by kernel_rfl) (by kernel_rfl) (fun _ _ _ h => h) (Or.inl ⟨by rfl, fun _w _hSw => ?hy26⟩) (by assumption) ?rest26
  case hy26 =>
    (try dsimp only at _hSw)
    go_simp
    try with_reducible rfl
  try simp only [Act.put, List.setIfInBounds_toArray, List.set_cons_zero, List.set_cons_succ]
  refine wpAnyH_ready (rs := [2, 36]) (by kernel_rfl) (by simp) (readyL rfl (fun K1 hK => ?_) (readyL rfl (fun K1 hK => ?_) AllReadyH.nil))
  ·
    go_simp
    with_reducible refine (KN1.out _).mono ?_
    rintro e v1 ⟨rfl, hb⟩
    try dsimp only
    refine hK.out _ _ (stay ‹_› ‹_›) (fun hHeld => ?_)
    clear hK K1
    try simp only [Act.put, List.setIfInBounds_toArray, List.set_cons_zero, List.set_cons_succ]
    refine wpAnyH_ready (rs := [6, 36]) (by kernel_rfl) (by simp) (readyL rfl (fun K1 hK => ?_) (readyL rfl (fun K1 hK => ?_) AllReadyH.nil))
    ·
      go_simp
      with_reducible refine (KN2.out _).mono ?_
      rintro e v2 ⟨rfl, hb⟩
      try dsimp only
      refine hK.out _ _ (stay ‹_› ‹_›) (fun hHeld => ?_)
      clear hK K1
      try simp only [Act.put, List.setIfInBounds_toArray, List.set_cons_zero, List.set_cons_succ]
      refine takeL (i := 7) rfl (v := ?v27) (by kernel_rfl) (by kernel_rfl) (by kernel_rfl) (fun _ _ _ h => h) (Or.inl ⟨by rfl, fun _w _hSw => ?hy27⟩) (by assumption) ?rest27
      case hy27 =>
        (try dsimp only at _hSw)
        go_simp
        try with_reducible rfl
      try simp only [Act.put, List.setIfInBounds_toArray, List.set_cons_zero, List.set_cons_succ]
      refine wpAnyH_ready (rs := [11, 36]) (by kernel_rfl) (by simp) (readyL rfl (fun K1 hK => ?_) (readyL rfl (fun K1 hK => ?_) AllReadyH.nil))
      ·
        go_simp
        with_reducible refine (KN3.out _).mono ?_
        rintro e v3 ⟨rfl, hb⟩
        try dsimp only
        refine hK.out _ _ (stay ‹_› ‹_›) (fun hHeld => ?_)
        clear hK K1
        try simp only [Act.put, List.setIfInBounds_toArray, List.set_cons_zero, List.set_cons_succ]
        refine takeL (i := 12) rfl (v := ?v28) (by kernel_rfl) (by kernel_rfl) (by kernel_rfl) (fun _ _ _ h => h) (Or.inl ⟨by rfl, fun _w _hSw => ?hy28⟩) (by assumption) ?rest28
        case hy28 =>
          (try dsimp only at _hSw)
          go_simp
          try with_reducible rfl
        try simp only [Act.put, List.setIfInBounds_toArray, List.set_cons_zero, List.set_cons_succ]
        refine wpAnyH_ready (rs := [16, 36]) (by kernel_rfl) (by simp) (readyL rfl (fun K1 hK => ?_) (readyL rfl (fun K1 hK => ?_) AllReadyH.nil))
        ·
          go_simp
          with_reducible refine (KN4.out _).mono ?_
          rintro e v4 ⟨rfl, hb⟩
          try dsimp only
          refine hK.out _ _ (stay ‹_› ‹_›) (fun hHeld => ?_)
          clear hK K1
          try simp only [Act.put, List.setIfInBounds_toArray, List.set_cons_zero, List.set_cons_succ]
          refine takeL (i := 17) rfl (v := ?v29) (by kernel_rfl) (by kernel_rfl) (by kernel_rfl) (fun _ _ _ h => h) (Or.inl ⟨by rfl, fun _w _hSw => ?hy29⟩) (by assumption) ?rest29
          case hy29 =>
            (try dsimp only at _hSw)
            go_simp
            try with_reducible rfl
          try simp only [Act.put, List.setIfInBounds_toArray, List.set_cons_zero, List.set_cons_succ]
          refine wpAnyH_ready (rs := [21, 36]) (by kernel_rfl) (by simp) (readyL rfl (fun K1 hK => ?_) (readyL rfl (fun K1 hK => ?_) AllReadyH.nil))
          ·
            go_simp
            with_reducible refine (KN5.out _).mono ?_
            rintro e v5 ⟨rfl, hb⟩
            try dsimp only
            refine hK.out _ _ (stay ‹_› ‹_›) (fun hHeld => ?_)
            clear hK K1
            try simp only [Act.put, List.setIfInBounds_toArray, List.set_cons_zero, List.set_cons_succ]
            refine takeL (i := 22) rfl (v := ?v30) (by kernel_rfl) (by kernel_rfl) (by kernel_rfl) (fun _ _ _ h => h) (Or.inl ⟨by rfl, fun _w _hSw => ?hy30⟩) (by assumption) ?rest30
            case hy30 =>
              (try dsimp only at _hSw)
              go_simp
              try with_reducible rfl
            try simp only [Act.put, List.setIfInBounds_toArray, List.set_cons_zero, List.set_cons_succ]
            refine wpAnyH_ready (rs := [27, 36]) (by kernel_rfl) (by simp) (readyL rfl (fun K1 hK => ?_) (readyL rfl (fun K1 hK => ?_) AllReadyH.nil))
            ·
              go_simp
              with_reducible refine (KN6.out _).mono ?_
              rintro e v6 ⟨rfl, hb⟩
              try dsimp only
              refine hK.out _ _ (stay ‹_› ‹_›) (fun hHeld => ?_)
              clear hK K1
              try simp only [Act.put, List.setIfInBounds_toArray, List.set_cons_zero, List.set_cons_succ]
              refine takeL (i := 28) rfl (v := ?v31) (by kernel_rfl) (by kernel_rfl) (by kernel_rfl) (fun _ _ _ h => h) (Or.inl ⟨by rfl, fun _w _hSw => ?hy31⟩) (by assumption) ?rest31
              case hy31 =>
                (try dsimp only at _hSw)
                go_simp
                try with_reducible rfl
              try simp only [Act.put, List.setIfInBounds_toArray, List.set_cons_zero, List.set_cons_succ]
              refine takeL (i := 31) rfl (v := ?v32) (by kernel_rfl) (by kernel_rfl) (by kernel_rfl) (fun _ _ _ h => h) (Or.inl ⟨by rfl, fun _w _hSw => ?hy32⟩) (by assumption) ?rest32
              case hy32 =>
                (try dsimp only at _hSw)
                go_simp
                try with_reducible rfl
              try simp only [Act.put, List.setIfInBounds_toArray, List.set_cons_zero, List.set_cons_succ]
              refine wpAnyH_ready (rs := [36, 41]) (by kernel_rfl) (by simp) (readyL rfl (fun K1 hK => ?_) (readyL rfl (fun K1 hK => ?_) AllReadyH.nil))
              ·
                rw [if_pos (by kernel_rfl)]
                refine wp_make33 rfl rfl ?_
                intro X1 hz hbx
                have HZB := Lib.hid hz
                refine hK.out _ _ (stay ‹_› hbx) (fun hHeld => ?_)
                clear hK K1 hz hbx
                have HW := Lib.hid hHeld
                clear hHeld
                try simp only [show W0.drew.heap.size = W0.heap.size from rfl] at HZB ⊢
                generalize v6.heap.size = N at HZB ⊢
                refine wpAnyH_weaken (S' := (fun w' => (∀ b o, b < (X1).heap.size → w'.cell? ⟨b, o, none⟩ = (X1).cell? ⟨b, o, none⟩) ∧ Below (X1).heap.size (X1) w')) (fun w h => stay HW.out h.2) _ _ _ _ ?_
                have hHeld : (fun w' => (∀ b o, b < (X1).heap.size → w'.cell? ⟨b, o, none⟩ = (X1).cell? ⟨b, o, none⟩) ∧ Below (X1).heap.size (X1) w') X1 := ⟨fun _ _ _ => rfl, Below.refl _ _⟩
                try dsimp only
                try simp only [Act.put, List.setIfInBounds_toArray, List.set_cons_zero, List.set_cons_succ]
                refine takeL (i := 37) rfl (v := .string sz) (by kernel_rfl) (by kernel_rfl) (by kernel_rfl) (fun _ _ _ h => h) (Or.inl ⟨by rfl, fun _w _hSw => by
                  have hcv := cvZ N _w (fun j hj => (_hSw.1 N j HZB.out.lt).trans (HZB.out.cell j |>.trans (zc33 hj)))
                  rw [HSZ.out] at hcv
                  clear _hSw hHeld
                  go_simp⟩) (by assumption) ?_
                try simp only [Act.put, List.setIfInBounds_toArray, List.set_cons_zero, List.set_cons_succ]
                refine takeL (i := 38) rfl (v := ?v33) (by kernel_rfl) (by kernel_rfl) (by kernel_rfl) (fun _ _ _ h => h) (Or.inl ⟨by rfl, fun _w _hSw => ?hy33⟩) (by assumption) ?rest33
                case hy33 =>
                  (try dsimp only at _hSw)
                  go_simp
                  try with_reducible rfl
                try simp only [Act.put, List.setIfInBounds_toArray, List.set_cons_zero, List.set_cons_succ]
                refine wpAnyH_ready (rs := [41]) (by kernel_rfl) (by simp) (readyL rfl (fun K1 hK => ?_) AllReadyH.nil)
                go_simp
                with_reducible refine (KN7.out _).mono ?_
                rintro e v7 ⟨rfl, hb⟩
                try dsimp only
                refine hK.out _ _ (stay ‹_› ‹_›) (fun hHeld => ?_)
                clear hK K1
                try simp only [Act.put, List.setIfInBounds_toArray, List.set_cons_zero, List.set_cons_succ]
                refine takeL (i := 42) rfl (v := ?v34) (by kernel_rfl) (by kernel_rfl) (by kernel_rfl) (fun _ _ _ h => h) (Or.inl ⟨by rfl, fun _w _hSw => ?hy34⟩) (by assumption) ?rest34
                case hy34 =>
                  (try dsimp only at _hSw)
                  go_simp
                  try with_reducible rfl
                try simp only [Act.put, List.setIfInBounds_toArray, List.set_cons_zero, List.set_cons_succ]
                refine takeL (i := 43) rfl (v := ?v35) (by kernel_rfl) (by kernel_rfl) (by kernel_rfl) (fun _ _ _ h => h) (Or.inl ⟨by rfl, fun _w _hSw => ?hy35⟩) (by assumption) ?rest35
                case hy35 =>
                  (try dsimp only at _hSw)
                  go_simp
                  try with_reducible rfl
                try simp only [Act.put, List.setIfInBounds_toArray, List.set_cons_zero, List.set_cons_succ]
                refine wpAnyH_done (by kernel_rfl) ?_ _
                have HLAST := Lib.hid (show (fun w' => (∀ b o, b < (X1).heap.size → w'.cell? ⟨b, o, none⟩ = (X1).cell? ⟨b, o, none⟩) ∧ Below (X1).heap.size (X1) w') v7 by assumption)
                go_wp2
                go_ret
                exact ⟨by rw [HEND.out]; rfl, by rw [HQE.out]; exact HBX.out.trans ((HW.out.2.trans (HLAST.out.2.mono HW.out.2.size)).mono HZZ.out)⟩
              ·
                go_simp
                with_reducible refine (KN7.out _).mono ?_
                rintro e v7 ⟨rfl, hb⟩
                try dsimp only
                refine hK.out _ _ (stay ‹_› ‹_›) (fun hHeld => ?_)
                clear hK K1
                try simp only [Act.put, List.setIfInBounds_toArray, List.set_cons_zero, List.set_cons_succ]
                refine wpAnyH_ready (rs := [36]) (by kernel_rfl) (by simp) (readyL rfl (fun K1 hK => ?_) AllReadyH.nil)
                rw [if_pos (by kernel_rfl)]
                refine wp_make33 rfl rfl ?_
                intro X1 hz hbx
                have HZB := Lib.hid hz
                refine hK.out _ _ (stay ‹_› hbx) (fun hHeld => ?_)
                clear hK K1 hz hbx
                have HW := Lib.hid hHeld
                clear hHeld
                try simp only [show W0.drew.heap.size = W0.heap.size from rfl] at HZB ⊢
                generalize v7.heap.size = N at HZB ⊢
                refine wpAnyH_weaken (S' := (fun w' => (∀ b o, b < (X1).heap.size → w'.cell? ⟨b, o, none⟩ = (X1).cell? ⟨b, o, none⟩) ∧ Below (X1).heap.size (X1) w')) (fun w h => stay HW.out h.2) _ _ _ _ ?_
                have hHeld : (fun w' => (∀ b o, b < (X1).heap.size → w'.cell? ⟨b, o, none⟩ = (X1).cell? ⟨b, o, none⟩) ∧ Below (X1).heap.size (X1) w') X1 := ⟨fun _ _ _ => rfl, Below.refl _ _⟩
                try dsimp only
                try simp only [Act.put, List.setIfInBounds_toArray, List.set_cons_zero, List.set_cons_succ]
                refine takeL (i := 37) rfl (v := .string sz) (by kernel_rfl) (by kernel_rfl) (by kernel_rfl) (fun _ _ _ h => h) (Or.inl ⟨by rfl, fun _w _hSw => by
                  have hcv := cvZ N _w (fun j hj => (_hSw.1 N j HZB.out.lt).trans (HZB.out.cell j |>.trans (zc33 hj)))
                  rw [HSZ.out] at hcv
                  clear _hSw hHeld
                  go_simp⟩) (by assumption) ?_
                try simp only [Act.put, List.setIfInBounds_toArray, List.set_cons_zero, List.set_cons_succ]
                refine takeL (i := 38) rfl (v := ?v36) (by kernel_rfl) (by kernel_rfl) (by kernel_rfl) (fun _ _ _ h => h) (Or.inl ⟨by rfl, fun _w _hSw => ?hy36⟩) (by assumption) ?rest36
                case hy36 =>
                  (try dsimp only at _hSw)
                  go_simp
                  try with_reducible rfl
                try simp only [Act.put, List.setIfInBounds_toArray, List.set_cons_zero, List.set_cons_succ]
                refine takeL (i := 42) rfl (v := ?v37) (by kernel_rfl) (by kernel_rfl) (by kernel_rfl) (fun _ _ _ h => h) (Or.inl ⟨by rfl, fun _w _hSw => ?hy37⟩) (by assumption) ?rest37
                case hy37 =>
                  (try dsimp only at _hSw)
                  go_simp
                  try with_reducible rfl
                try simp only [Act.put, List.setIfInBounds_toArray, List.set_cons_zero, List.set_cons_succ]
                refine takeL (i := 43) rfl (v := ?v38) (by kernel_rfl) (by kernel_rfl) (by kernel_rfl) (fun _ _ _ h => h) (Or.inl ⟨by rfl, fun _w _hSw => ?hy38⟩) (by assumption) ?rest38
                case hy38 =>
                  (try dsimp only at _hSw)
                  go_simp
                  try with_reducible rfl
                try simp only [Act.put, List.setIfInBounds_toArray, List.set_cons_zero, List.set_cons_succ]
                refine wpAnyH_done (by kernel_rfl) ?_ _
                have HLAST := Lib.hid (show (fun w' => (∀ b o, b < (X1).heap.size → w'.cell? ⟨b, o, none⟩ = (X1).cell? ⟨b, o, none⟩) ∧ Below (X1).heap.size (X1) w') X1 by assumption)
                go_wp2
                go_ret
                exact ⟨by rw [HEND.out]; rfl, by rw [HQE.out]; exact HBX.out.trans ((HW.out.2.trans (HLAST.out.2.mono HW.out.2.size)).mono HZZ.out)⟩
            ·
              rw [if_pos (by kernel_rfl)]
              refine wp_make33 rfl rfl ?_
              intro X1 hz hbx
              have HZB := Lib.hid hz
              refine hK.out _ _ (stay ‹_› hbx) (fun hHeld => ?_)
              clear hK K1 hz hbx
              have HW := Lib.hid hHeld
              clear hHeld
              try simp only [show W0.drew.heap.size = W0.heap.size from rfl] at HZB ⊢
              generalize v5.heap.size = N at HZB ⊢
              refine wpAnyH_weaken (S' := (fun w' => (∀ b o, b < (X1).heap.size → w'.cell? ⟨b, o, none⟩ = (X1).cell? ⟨b, o, none⟩) ∧ Below (X1).heap.size (X1) w')) (fun w h => stay HW.out h.2) _ _ _ _ ?_
              have hHeld : (fun w' => (∀ b o, b < (X1).heap.size → w'.cell? ⟨b, o, none⟩ = (X1).cell? ⟨b, o, none⟩) ∧ Below (X1).heap.size (X1) w') X1 := ⟨fun _ _ _ => rfl, Below.refl _ _⟩
              try dsimp only
              try simp only [Act.put, List.setIfInBounds_toArray, List.set_cons_zero, List.set_cons_succ]
              refine takeL (i := 37) rfl (v := .string sz) (by kernel_rfl) (by kernel_rfl) (by kernel_rfl) (fun _ _ _ h => h) (Or.inl ⟨by rfl, fun _w _hSw => by
                have hcv := cvZ N _w (fun j hj => (_hSw.1 N j HZB.out.lt).trans (HZB.out.cell j |>.trans (zc33 hj)))
                rw [HSZ.out] at hcv
                clear _hSw hHeld
                go_simp⟩) (by assumption) ?_
              try simp only [Act.put, List.setIfInBounds_toArray, List.set_cons_zero, List.set_cons_succ]
              refine wpAnyH_ready (rs := [27]) (by kernel_rfl) (by simp) (readyL rfl (fun K1 hK => ?_) AllReadyH.nil)
              go_simp
              with_reducible refine (KN6.out _).mono ?_
              rintro e v6 ⟨rfl, hb⟩
              try dsimp only
              refine hK.out _ _ (stay ‹_› ‹_›) (fun hHeld => ?_)
              clear hK K1
              try simp only [Act.put, List.setIfInBounds_toArray, List.set_cons_zero, List.set_cons_succ]
              refine takeL (i := 28) rfl (v := ?v39) (by kernel_rfl) (by kernel_rfl) (by kernel_rfl) (fun _ _ _ h => h) (Or.inl ⟨by rfl, fun _w _hSw => ?hy39⟩) (by assumption) ?rest39
              case hy39 =>
                (try dsimp only at _hSw)
                go_simp
                try with_reducible rfl
              try simp only [Act.put, List.setIfInBounds_toArray, List.set_cons_zero, List.set_cons_succ]
              refine takeL (i := 31) rfl (v := ?v40) (by kernel_rfl) (by kernel_rfl) (by kernel_rfl) (fun _ _ _ h => h) (Or.inl ⟨by rfl, fun _w _hSw => ?hy40⟩) (by assumption) ?rest40
              case hy40 =>
                (try dsimp only at _hSw)
                go_simp
                try with_reducible rfl
              try simp only [Act.put, List.setIfInBounds_toArray, List.set_cons_zero, List.set_cons_succ]
              refine takeL (i := 38) rfl (v := ?v41) (by kernel_rfl) (by kernel_rfl) (by kernel_rfl) (fun _ _ _ h => h) (Or.inl ⟨by rfl, fun _w _hSw => ?hy41⟩) (by assumption) ?rest41
              case hy41 =>
                (try dsimp only at _hSw)
                go_simp
                try with_reducible rfl
              try simp only [Act.put, List.setIfInBounds_toArray, List.set_cons_zero, List.set_cons_succ]
              refine wpAnyH_ready (rs := [41]) (by kernel_rfl) (by simp) (readyL rfl (fun K1 hK => ?_) AllReadyH.nil)
              go_simp
              with_reducible refine (KN7.out _).mono ?_
              rintro e v7 ⟨rfl, hb⟩
              try dsimp only
              refine hK.out _ _ (stay ‹_› ‹_›) (fun hHeld => ?_)
              clear hK K1
              try simp only [Act.put, List.setIfInBounds_toArray, List.set_cons_zero, List.set_cons_succ]
              refine takeL (i := 42) rfl (v := ?v42) (by kernel_rfl) (by kernel_rfl) (by kernel_rfl) (fun _ _ _ h => h) (Or.inl ⟨by rfl, fun _w _hSw => ?hy42⟩) (by assumption) ?rest42
              case hy42 =>
                (try dsimp only at _hSw)
                go_simp
                try with_reducible rfl
              try simp only [Act.put, List.setIfInBounds_toArray, List.set_cons_zero, List.set_cons_succ]
              refine takeL (i := 43) rfl (v := ?v43) (by kernel_rfl) (by kernel_rfl) (by kernel_rfl) (fun _ _ _ h => h) (Or.inl ⟨by rfl, fun _w _hSw => ?hy43⟩) (by assumption) ?rest43
              case hy43 =>
                (try dsimp only at _hSw)
                go_simp
                try with_reducible rfl
              try simp only [Act.put, List.setIfInBounds_toArray, List.set_cons_zero, List.set_cons_succ]
              refine wpAnyH_done (by kernel_rfl) ?_ _
              have HLAST := Lib.hid (show (fun w' => (∀ b o, b < (X1).heap.size → w'.cell? ⟨b, o, none⟩ = (X1).cell? ⟨b, o, none⟩) ∧ Below (X1).heap.size (X1) w') v7 by assumption)
              go_wp2
              go_ret
              exact ⟨by rw [HEND.out]; rfl, by rw [HQE.out]; exact HBX.out.trans ((HW.out.2.trans (HLAST.out.2.mono HW.out.2.size)).mono HZZ.out)⟩
          ·
            rw [if_pos (by kernel_rfl)]
            refine wp_make33 rfl rfl ?_
            intro X1 hz hbx
            have HZB := Lib.hid hz
            refine hK.out _ _ (stay ‹_› hbx) (fun hHeld => ?_)
            clear hK K1 hz hbx
            have HW := Lib.hid hHeld
            clear hHeld
            try simp only [show W0.drew.heap.size = W0.heap.size from rfl] at HZB ⊢
            generalize v4.heap.size = N at HZB ⊢
            refine wpAnyH_weaken (S' := (fun w' => (∀ b o, b < (X1).heap.size → w'.cell? ⟨b, o, none⟩ = (X1).cell? ⟨b, o, none⟩) ∧ Below (X1).heap.size (X1) w')) (fun w h => stay HW.out h.2) _ _ _ _ ?_
            have hHeld : (fun w' => (∀ b o, b < (X1).heap.size → w'.cell? ⟨b, o, none⟩ = (X1).cell? ⟨b, o, none⟩) ∧ Below (X1).heap.size (X1) w') X1 := ⟨fun _ _ _ => rfl, Below.refl _ _⟩
            try dsimp only
            try simp only [Act.put, List.setIfInBounds_toArray, List.set_cons_zero, List.set_cons_succ]
            refine takeL (i := 37) rfl (v := .string sz) (by kernel_rfl) (by kernel_rfl) (by kernel_rfl) (fun _ _ _ h => h) (Or.inl ⟨by rfl, fun _w _hSw => by
              have hcv := cvZ N _w (fun j hj => (_hSw.1 N j HZB.out.lt).trans (HZB.out.cell j |>.trans (zc33 hj)))
              rw [HSZ.out] at hcv
              clear _hSw hHeld
              go_simp⟩) (by assumption) ?_
            try simp only [Act.put, List.setIfInBounds_toArray, List.set_cons_zero, List.set_cons_succ]
            refine wpAnyH_ready (rs := [21]) (by kernel_rfl) (by simp) (readyL rfl (fun K1 hK => ?_) AllReadyH.nil)
            go_simp
            with_reducible refine (KN5.out _).mono ?_
            rintro e v5 ⟨rfl, hb⟩
            try dsimp only
            refine hK.out _ _ (stay ‹_› ‹_›) (fun hHeld => ?_)
            clear hK K1
            try simp only [Act.put, List.setIfInBounds_toArray, List.set_cons_zero, List.set_cons_succ]
            refine takeL (i := 22) rfl (v := ?v44) (by kernel_rfl) (by kernel_rfl) (by kernel_rfl) (fun _ _ _ h => h) (Or.inl ⟨by rfl, fun _w _hSw => ?hy44⟩) (by assumption) ?rest44
            case hy44 =>
              (try dsimp only at _hSw)
              go_simp
              try with_reducible rfl
            try simp only [Act.put, List.setIfInBounds_toArray, List.set_cons_zero, List.set_cons_succ]
            refine wpAnyH_ready (rs := [27]) (by kernel_rfl) (by simp) (readyL rfl (fun K1 hK => ?_) AllReadyH.nil)
            go_simp
            with_reducible refine (KN6.out _).mono ?_
            rintro e v6 ⟨rfl, hb⟩
            try dsimp only
            refine hK.out _ _ (stay ‹_› ‹_›) (fun hHeld => ?_)
            clear hK K1
            try simp only [Act.put, List.setIfInBounds_toArray, List.set_cons_zero, List.set_cons_succ]
            refine takeL (i := 28) rfl (v := ?v45) (by kernel_rfl) (by kernel_rfl) (by kernel_rfl) (fun _ _ _ h => h) (Or.inl ⟨by rfl, fun _w _hSw => ?hy45⟩) (by assumption) ?rest45
            case hy45 =>
              (try dsimp only at _hSw)
              go_simp
              try with_reducible rfl
            try simp only [Act.put, List.setIfInBounds_toArray, List.set_cons_zero, List.set_cons_succ]
            refine takeL (i := 31) rfl (v := ?v46) (by kernel_rfl) (by kernel_rfl) (by kernel_rfl) (fun _ _ _ h => h) (Or.inl ⟨by rfl, fun _w _hSw => ?hy46⟩) (by assumption) ?rest46
            case hy46 =>
              (try dsimp only at _hSw)
              go_simp
              try with_reducible rfl
            try simp only [Act.put, List.setIfInBounds_toArray, List.set_cons_zero, List.set_cons_succ]
            refine takeL (i := 38) rfl (v := ?v47) (by kernel_rfl) (by kernel_rfl) (by kernel_rfl) (fun _ _ _ h => h) (Or.inl ⟨by rfl, fun _w _hSw => ?hy47⟩) (by assumption) ?rest47
            case hy47 =>
              (try dsimp only at _hSw)
              go_simp
              try with_reducible rfl
            try simp only [Act.put, List.setIfInBounds_toArray, List.set_cons_zero, List.set_cons_succ]
            refine wpAnyH_ready (rs := [41]) (by kernel_rfl) (by simp) (readyL rfl (fun K1 hK => ?_) AllReadyH.nil)
            go_simp
            with_reducible refine (KN7.out _).mono ?_
            rintro e v7 ⟨rfl, hb⟩
            try dsimp only
            refine hK.out _ _ (stay ‹_› ‹_›) (fun hHeld => ?_)
            clear hK K1
            try simp only [Act.put, List.setIfInBounds_toArray, List.set_cons_zero, List.set_cons_succ]
            refine takeL (i := 42) rfl (v := ?v48) (by kernel_rfl) (by kernel_rfl) (by kernel_rfl) (fun _ _ _ h => h) (Or.inl ⟨by rfl, fun _w _hSw => ?hy48⟩) (by assumption) ?rest48
            case hy48 =>
              (try dsimp only at _hSw)
              go_simp
              try with_reducible rfl
            try simp only [Act.put, List.setIfInBounds_toArray, List.set_cons_zero, List.set_cons_succ]
            refine takeL (i := 43) rfl (v := ?v49) (by kernel_rfl) (by kernel_rfl) (by kernel_rfl) (fun _ _ _ h => h) (Or.inl ⟨by rfl, fun _w _hSw => ?hy49⟩) (by assumption) ?rest49
            case hy49 =>
              (try dsimp only at _hSw)
              go_simp
              try with_reducible rfl
            try simp only [Act.put, List.setIfInBounds_toArray, List.set_cons_zero, List.set_cons_succ]
            refine wpAnyH_done (by kernel_rfl) ?_ _
            have HLAST := Lib.hid (show (fun w' => (∀ b o, b < (X1).heap.size → w'.cell? ⟨b, o, none⟩ = (X1).cell? ⟨b, o, none⟩) ∧ Below (X1).heap.size (X1) w') v7 by assumption)
            go_wp2
            go_ret
            exact ⟨by rw [HEND.out]; rfl, by rw [HQE.out]; exact HBX.out.trans ((HW.out.2.trans (HLAST.out.2.mono HW.out.2.size)).mono HZZ.out)⟩
        ·
          rw [if_pos (by kernel_rfl)]
          refine wp_make33 rfl rfl ?_
          intro X1 hz hbx
          have HZB := Lib.hid hz
          refine hK.out _ _ (stay ‹_› hbx) (fun hHeld => ?_)
          clear hK K1 hz hbx
          have HW := Lib.hid hHeld
          clear hHeld
          try simp only [show W0.drew.heap.size = W0.heap.size from rfl] at HZB ⊢
          generalize v3.heap.size = N at HZB ⊢
          refine wpAnyH_weaken (S' := (fun w' => (∀ b o, b < (X1).heap.size → w'.cell? ⟨b, o, none⟩ = (X1).cell? ⟨b, o, none⟩) ∧ Below (X1).heap.size (X1) w')) (fun w h => stay HW.out h.2) _ _ _ _ ?_
          have hHeld : (fun w' => (∀ b o, b < (X1).heap.size → w'.cell? ⟨b, o, none⟩ = (X1).cell? ⟨b, o, none⟩) ∧ Below (X1).heap.size (X1) w') X1 := ⟨fun _ _ _ => rfl, Below.refl _ _⟩
          try dsimp only
          try simp only [Act.put, List.setIfInBounds_toArray, List.set_cons_zero, List.set_cons_succ]
          refine takeL (i := 37) rfl (v := .string sz) (by kernel_rfl) (by kernel_rfl) (by kernel_rfl) (fun _ _ _ h => h) (Or.inl ⟨by rfl, fun _w _hSw => by
            have hcv := cvZ N _w (fun j hj => (_hSw.1 N j HZB.out.lt).trans (HZB.out.cell j |>.trans (zc33 hj)))
            rw [HSZ.out] at hcv
            clear _hSw hHeld
            go_simp⟩) (by assumption) ?_
          try simp only [Act.put, List.setIfInBounds_toArray, List.set_cons_zero, List.set_cons_succ]
          refine wpAnyH_ready (rs := [16]) (by kernel_rfl) (by simp) (readyL rfl (fun K1 hK => ?_) AllReadyH.nil)
          go_simp
          with_reducible refine (KN4.out _).mono ?_
          rintro e v4 ⟨rfl, hb⟩
          try dsimp only
          refine hK.out _ _ (stay ‹_› ‹_›) (fun hHeld => ?_)
          clear hK K1
          try simp only [Act.put, List.setIfInBounds_toArray, List.set_cons_zero, List.set_cons_succ]
          refine takeL (i := 17) rfl (v := ?v50) (by kernel_rfl) (by kernel_rfl) (by kernel_rfl) (fun _ _ _ h => h) (Or.inl ⟨by rfl, fun _w _hSw => ?hy50⟩) (by assumption) ?rest50
          case hy50 =>
            (try dsimp only at _hSw)
            go_simp
            try with_reducible rfl
          try simp only [Act.put, List.setIfInBounds_toArray, List.set_cons_zero, List.set_cons_succ]
          refine wpAnyH_ready (rs := [21]) (by kernel_rfl) (by simp) (readyL rfl (fun K1 hK => ?_) AllReadyH.nil)
          go_simp
          with_reducible refine (KN5.out _).mono ?_
          rintro e v5 ⟨rfl, hb⟩
          try dsimp only
          refine hK.out _ _ (stay ‹_› ‹_›) (fun hHeld => ?_)
          clear hK K1
          try simp only [Act.put, List.setIfInBounds_toArray, List.set_cons_zero, List.set_cons_succ]
          refine takeL (i := 22) rfl (v := ?v51) (by kernel_rfl) (by kernel_rfl) (by kernel_rfl) (fun _ _ _ h => h) (Or.inl ⟨by rfl, fun _w _hSw => ?hy51⟩) (by assumption) ?rest51
          case hy51 =>
            (try dsimp only at _hSw)
            go_simp
            try with_reducible rfl
          try simp only [Act.put, List.setIfInBounds_toArray, List.set_cons_zero, List.set_cons_succ]
          refine wpAnyH_ready (rs := [27]) (by kernel_rfl) (by simp) (readyL rfl (fun K1 hK => ?_) AllReadyH.nil)
          go_simp
          with_reducible refine (KN6.out _).mono ?_
          rintro e v6 ⟨rfl, hb⟩
          try dsimp only
          refine hK.out _ _ (stay ‹_› ‹_›) (fun hHeld => ?_)
          clear hK K1
          try simp only [Act.put, List.setIfInBounds_toArray, List.set_cons_zero, List.set_cons_succ]
          refine takeL (i := 28) rfl (v := ?v52) (by kernel_rfl) (by kernel_rfl) (by kernel_rfl) (fun _ _ _ h => h) (Or.inl ⟨by rfl, fun _w _hSw => ?hy52⟩) (by assumption) ?rest52
          case hy52 =>
            (try dsimp only at _hSw)
            go_simp
            try with_reducible rfl
          try simp only [Act.put, List.setIfInBounds_toArray, List.set_cons_zero, List.set_cons_succ]
          refine takeL (i := 31) rfl (v := ?v53) (by kernel_rfl) (by kernel_rfl) (by kernel_rfl) (fun _ _ _ h => h) (Or.inl ⟨by rfl, fun _w _hSw => ?hy53⟩) (by assumption) ?rest53
          case hy53 =>
            (try dsimp only at _hSw)
            go_simp
            try with_reducible rfl
          try simp only [Act.put, List.setIfInBounds_toArray, List.set_cons_zero, List.set_cons_succ]
          refine takeL (i := 38) rfl (v := ?v54) (by kernel_rfl) (by kernel_rfl) (by kernel_rfl) (fun _ _ _ h => h) (Or.inl ⟨by rfl, fun _w _hSw => ?hy54⟩) (by assumption) ?rest54
          case hy54 =>
            (try dsimp only at _hSw)
            go_simp
            try with_reducible rfl
          try simp only [Act.put, List.setIfInBounds_toArray, List.set_cons_zero, List.set_cons_succ]
          refine wpAnyH_ready (rs := [41]) (by kernel_rfl) (by simp) (readyL rfl (fun K1 hK => ?_) AllReadyH.nil)
          go_simp
          with_reducible refine (KN7.out _).mono ?_
          rintro e v7 ⟨rfl, hb⟩
          try dsimp only
          refine hK.out _ _ (stay ‹_› ‹_›) (fun hHeld => ?_)
          clear hK K1
          try simp only [Act.put, List.setIfInBounds_toArray, List.set_cons_zero, List.set_cons_succ]
          refine takeL (i := 42) rfl (v := ?v55) (by kernel_rfl) (by kernel_rfl) (by kernel_rfl) (fun _ _ _ h => h) (Or.inl ⟨by rfl, fun _w _hSw => ?hy55⟩) (by assumption) ?rest55
          case hy55 =>
            (try dsimp only at _hSw)
            go_simp
            try with_reducible rfl
          try simp only [Act.put, List.setIfInBounds_toArray, List.set_cons_zero, List.set_cons_succ]
          refine takeL (i := 43) rfl (v := ?v56) (by kernel_rfl) (by kernel_rfl) (by kernel_rfl) (fun _ _ _ h => h) (Or.inl ⟨by rfl, fun _w _hSw => ?hy56⟩) (by assumption) ?rest56
          case hy56 =>
            (try dsimp only at _hSw)
            go_simp
            try with_reducible rfl
          try simp only [Act.put, List.setIfInBounds_toArray, List.set_cons_zero, List.set_cons_succ]
          refine wpAnyH_done (by kernel_rfl) ?_ _
          have HLAST := Lib.hid (show (fun w' => (∀ b o, b < (X1).heap.size → w'.cell? ⟨b, o, none⟩ = (X1).cell? ⟨b, o, none⟩) ∧ Below (X1).heap.size (X1) w') v7 by assumption)
          go_wp2
          go_ret
          exact ⟨by rw [HEND.out]; rfl, by rw [HQE.out]; exact HBX.out.trans ((HW.out.2.trans (HLAST.out.2.mono HW.out.2.size)).mono HZZ.out)⟩
      ·
        rw [if_pos (by kernel_rfl)]
        refine wp_make33 rfl rfl ?_
        intro X1 hz hbx
        have HZB := Lib.hid hz
        refine hK.out _ _ (stay ‹_› hbx) (fun hHeld => ?_)
        clear hK K1 hz hbx
        have HW := Lib.hid hHeld
        clear hHeld
        try simp only [show W0.drew.heap.size = W0.heap.size from rfl] at HZB ⊢
        generalize v2.heap.size = N at HZB ⊢
        refine wpAnyH_weaken (S' := (fun w' => (∀ b o, b < (X1).heap.size → w'.cell? ⟨b, o, none⟩ = (X1).cell? ⟨b, o, none⟩) ∧ Below (X1).heap.size (X1) w')) (fun w h => stay HW.out h.2) _ _ _ _ ?_
        have hHeld : (fun w' => (∀ b o, b < (X1).heap.size → w'.cell? ⟨b, o, none⟩ = (X1).cell? ⟨b, o, none⟩) ∧ Below (X1).heap.size (X1) w') X1 := ⟨fun _ _ _ => rfl, Below.refl _ _⟩
        try dsimp only
        try simp only [Act.put, List.setIfInBounds_toArray, List.set_cons_zero, List.set_cons_succ]
        refine takeL (i := 37) rfl (v := .string sz) (by kernel_rfl) (by kernel_rfl) (by kernel_rfl) (fun _ _ _ h => h) (Or.inl ⟨by rfl, fun _w _hSw => by
          have hcv := cvZ N _w (fun j hj => (_hSw.1 N j HZB.out.lt).trans (HZB.out.cell j |>.trans (zc33 hj)))
          rw [HSZ.out] at hcv
          clear _hSw hHeld
          go_simp⟩) (by assumption) ?_
        try simp only [Act.put, List.setIfInBounds_toArray, List.set_cons_zero, List.set_cons_succ]
        refine wpAnyH_ready (rs := [11]) (by kernel_rfl) (by simp) (readyL rfl (fun K1 hK => ?_) AllReadyH.nil)
        go_simp
        with_reducible refine (KN3.out _).mono ?_
        rintro e v3 ⟨rfl, hb⟩
        try dsimp only
        refine hK.out _ _ (stay ‹_› ‹_›) (fun hHeld => ?_)
        clear hK K1
        try simp only [Act.put, List.setIfInBounds_toArray, List.set_cons_zero, List.set_cons_succ]
        refine takeL (i := 12) rfl (v := ?v57) (by kernel_rfl) (by kernel_rfl) (by kernel_rfl) (fun _ _ _ h => h) (Or.inl ⟨by rfl, fun _w _hSw => ?hy57⟩) (by assumption) ?rest57
        case hy57 =>
          (try dsimp only at _hSw)
          go_simp
          try with_reducible rfl
        try simp only [Act.put, List.setIfInBounds_toArray, List.set_cons_zero, List.set_cons_succ]
        refine wpAnyH_ready (rs := [16]) (by kernel_rfl) (by simp) (readyL rfl (fun K1 hK => ?_) AllReadyH.nil)
        go_simp
        with_reducible refine (KN4.out _).mono ?_
        rintro e v4 ⟨rfl, hb⟩
        try dsimp only
        refine hK.out _ _ (stay ‹_› ‹_›) (fun hHeld => ?_)
        clear hK K1
        try simp only [Act.put, List.setIfInBounds_toArray, List.set_cons_zero, List.set_cons_succ]
        refine takeL (i := 17) rfl (v := ?v58) (by kernel_rfl) (by kernel_rfl) (by kernel_rfl) (fun _ _ _ h => h) (Or.inl ⟨by rfl, fun _w _hSw => ?hy58⟩) (by assumption) ?rest58
        case hy58 =>
          (try dsimp only at _hSw)
          go_simp
          try with_reducible rfl
        try simp only [Act.put, List.setIfInBounds_toArray, List.set_cons_zero, List.set_cons_succ]
        refine wpAnyH_ready (rs := [21]) (by kernel_rfl) (by simp) (readyL rfl (fun K1 hK => ?_) AllReadyH.nil)
        go_simp
        with_reducible refine (KN5.out _).mono ?_
        rintro e v5 ⟨rfl, hb⟩
        try dsimp only
        refine hK.out _ _ (stay ‹_› ‹_›) (fun hHeld => ?_)
        clear hK K1
        try simp only [Act.put, List.setIfInBounds_toArray, List.set_cons_zero, List.set_cons_succ]
        refine takeL (i := 22) rfl (v := ?v59) (by kernel_rfl) (by kernel_rfl) (by kernel_rfl) (fun _ _ _ h => h) (Or.inl ⟨by rfl, fun _w _hSw => ?hy59⟩) (by assumption) ?rest59
        case hy59 =>
          (try dsimp only at _hSw)
          go_simp
          try with_reducible rfl
        try simp only [Act.put, List.setIfInBounds_toArray, List.set_cons_zero, List.set_cons_succ]
        refine wpAnyH_ready (rs := [27]) (by kernel_rfl) (by simp) (readyL rfl (fun K1 hK => ?_) AllReadyH.nil)
        go_simp
        with_reducible refine (KN6.out _).mono ?_
        rintro e v6 ⟨rfl, hb⟩
        try dsimp only
        refine hK.out _ _ (stay ‹_› ‹_›) (fun hHeld => ?_)
        clear hK K1
        try simp only [Act.put, List.setIfInBounds_toArray, List.set_cons_zero, List.set_cons_succ]
        refine takeL (i := 28) rfl (v := ?v60) (by kernel_rfl) (by kernel_rfl) (by kernel_rfl) (fun _ _ _ h => h) (Or.inl ⟨by rfl, fun _w _hSw => ?hy60⟩) (by assumption) ?rest60
        case hy60 =>
          (try dsimp only at _hSw)
          go_simp
          try with_reducible rfl
        try simp only [Act.put, List.setIfInBounds_toArray, List.set_cons_zero, List.set_cons_succ]
        refine takeL (i := 31) rfl (v := ?v61) (by kernel_rfl) (by kernel_rfl) (by kernel_rfl) (fun _ _ _ h => h) (Or.inl ⟨by rfl, fun _w _hSw => ?hy61⟩) (by assumption) ?rest61
        case hy61 =>
          (try dsimp only at _hSw)
          go_simp
          try with_reducible rfl
        try simp only [Act.put, List.setIfInBounds_toArray, List.set_cons_zero, List.set_cons_succ]
        refine takeL (i := 38) rfl (v := ?v62) (by kernel_rfl) (by kernel_rfl) (by kernel_rfl) (fun _ _ _ h => h) (Or.inl ⟨by rfl, fun _w _hSw => ?hy62⟩) (by assumption) ?rest62
        case hy62 =>
          (try dsimp only at _hSw)
          go_simp
          try with_reducible rfl
        try simp only [Act.put, List.setIfInBounds_toArray, List.set_cons_zero, List.set_cons_succ]
        refine wpAnyH_ready (rs := [41]) (by kernel_rfl) (by simp) (readyL rfl (fun K1 hK => ?_) AllReadyH.nil)
        go_simp
        with_reducible refine (KN7.out _).mono ?_
        rintro e v7 ⟨rfl, hb⟩
        try dsimp only
        refine hK.out _ _ (stay ‹_› ‹_›) (fun hHeld => ?_)
        clear hK K1
        try simp only [Act.put, List.setIfInBounds_toArray, List.set_cons_zero, List.set_cons_succ]
        refine takeL (i := 42) rfl (v := ?v63) (by kernel_rfl) (by kernel_rfl) (by kernel_rfl) (fun _ _ _ h => h) (Or.inl ⟨by rfl, fun _w _hSw => ?hy63⟩) (by assumption) ?rest63
        case hy63 =>
          (try dsimp only at _hSw)
          go_simp
          try with_reducible rfl
        try simp only [Act.put, List.setIfInBounds_toArray, List.set_cons_zero, List.set_cons_succ]
        refine takeL (i := 43) rfl (v := ?v64) (by kernel_rfl) (by kernel_rfl) (by kernel_rfl) (fun _ _ _ h => h) (Or.inl ⟨by rfl, fun _w _hSw => ?hy64⟩) (by assumption) ?rest64
        case hy64 =>
          (try dsimp only at _hSw)
          go_simp
          try with_reducible rfl
        try simp only [Act.put, List.setIfInBounds_toArray, List.set_cons_zero, List.set_cons_succ]
        refine wpAnyH_done (by kernel_rfl) ?_ _
        have HLAST := Lib.hid (show (fun w' => (∀ b o, b < (X1).heap.size → w'.cell? ⟨b, o, none⟩ = (X1).cell? ⟨b, o, none⟩) ∧ Below (X1).heap.size (X1) w') v7 by assumption)
        go_wp2
        go_ret
        exact ⟨by rw [HEND.out]; rfl, by rw [HQE.out]; exact HBX.out.trans ((HW.out.2.trans (HLAST.out.2.mono HW.out.2.size)).mono HZZ.out)⟩
    ·
      rw [if_pos (by kernel_rfl)]
      refine wp_make33 rfl rfl ?_
      intro X1 hz hbx
      have HZB := Lib.hid hz
      refine hK.out _ _ (stay ‹_› hbx) (fun hHeld => ?_)
      clear hK K1 hz hbx
      have HW := Lib.hid hHeld
      clear hHeld
      try simp only [show W0.drew.heap.size = W0.heap.size from rfl] at HZB ⊢
      generalize v1.heap.size = N at HZB ⊢
      refine wpAnyH_weaken (S' := (fun w' => (∀ b o, b < (X1).heap.size → w'.cell? ⟨b, o, none⟩ = (X1).cell? ⟨b, o, none⟩) ∧ Below (X1).heap.size (X1) w')) (fun w h => stay HW.out h.2) _ _ _ _ ?_
      have hHeld : (fun w' => (∀ b o, b < (X1).heap.size → w'.cell? ⟨b, o, none⟩ = (X1).cell? ⟨b, o, none⟩) ∧ Below (X1).heap.size (X1) w') X1 := ⟨fun _ _ _ => rfl, Below.refl _ _⟩
      try dsimp only
      try simp only [Act.put, List.setIfInBounds_toArray, List.set_cons_zero, List.set_cons_succ]
      refine takeL (i := 37) rfl (v := .string sz) (by kernel_rfl) (by kernel_rfl) (by kernel_rfl) (fun _ _ _ h => h) (Or.inl ⟨by rfl, fun _w _hSw => by
        have hcv := cvZ N _w (fun j hj => (_hSw.1 N j HZB.out.lt).trans (HZB.out.cell j |>.trans (zc33 hj)))
        rw [HSZ.out] at hcv
        clear _hSw hHeld
        go_simp⟩) (by assumption) ?_
      try simp only [Act.put, List.setIfInBounds_toArray, List.set_cons_zero, List.set_cons_succ]
      refine wpAnyH_ready (rs := [6]) (by kernel_rfl) (by simp) (readyL rfl (fun K1 hK => ?_) AllReadyH.nil)
      go_simp
      with_reducible refine (KN2.out _).mono ?_
      rintro e v2 ⟨rfl, hb⟩
      try dsimp only
      refine hK.out _ _ (stay ‹_› ‹_›) (fun hHeld => ?_)
      clear hK K1
      try simp only [Act.put, List.setIfInBounds_toArray, List.set_cons_zero, List.set_cons_succ]
      refine takeL (i := 7) rfl (v := ?v65) (by kernel_rfl) (by kernel_rfl) (by kernel_rfl) (fun _ _ _ h => h) (Or.inl ⟨by rfl, fun _w _hSw => ?hy65⟩) (by assumption) ?rest65
      case hy65 =>
        (try dsimp only at _hSw)
        go_simp
        try with_reducible rfl
      try simp only [Act.put, List.setIfInBounds_toArray, List.set_cons_zero, List.set_cons_succ]
      refine wpAnyH_ready (rs := [11]) (by kernel_rfl) (by simp) (readyL rfl (fun K1 hK => ?_) AllReadyH.nil)
      go_simp
      with_reducible refine (KN3.out _).mono ?_
      rintro e v3 ⟨rfl, hb⟩
      try dsimp only
      refine hK.out _ _ (stay ‹_› ‹_›) (fun hHeld => ?_)
      clear hK K1
      try simp only [Act.put, List.setIfInBounds_toArray, List.set_cons_zero, List.set_cons_succ]
      refine takeL (i := 12) rfl (v := ?v66) (by kernel_rfl) (by kernel_rfl) (by kernel_rfl) (fun _ _ _ h => h) (Or.inl ⟨by rfl, fun _w _hSw => ?hy66⟩) (by assumption) ?rest66
      case hy66 =>
        (try dsimp only at _hSw)
        go_simp
        try with_reducible rfl
      try simp only [Act.put, List.setIfInBounds_toArray, List.set_cons_zero, List.set_cons_succ]
      refine wpAnyH_ready (rs := [16]) (by kernel_rfl) (by simp) (readyL rfl (fun K1 hK => ?_) AllReadyH.nil)
      go_simp
      with_reducible refine (KN4.out _).mono ?_
      rintro e v4 ⟨rfl, hb⟩
      try dsimp only
      refine hK.out _ _ (stay ‹_› ‹_›) (fun hHeld => ?_)
      clear hK K1
      try simp only [Act.put, List.setIfInBounds_toArray, List.set_cons_zero, List.set_cons_succ]
      refine takeL (i := 17) rfl (v := ?v67) (by kernel_rfl) (by kernel_rfl) (by kernel_rfl) (fun _ _ _ h => h) (Or.inl ⟨by rfl, fun _w _hSw => ?hy67⟩) (by assumption) ?rest67
      case hy67 =>
        (try dsimp only at _hSw)
        go_simp
        try with_reducible rfl
      try simp only [Act.put, List.setIfInBounds_toArray, List.set_cons_zero, List.set_cons_succ]
      refine wpAnyH_ready (rs := [21]) (by kernel_rfl) (by simp) (readyL rfl (fun K1 hK => ?_) AllReadyH.nil)
      go_simp
      with_reducible refine (KN5.out _).mono ?_
      rintro e v5 ⟨rfl, hb⟩
      try dsimp only
      refine hK.out _ _ (stay ‹_› ‹_›) (fun hHeld => ?_)
      clear hK K1
      try simp only [Act.put, List.setIfInBounds_toArray, List.set_cons_zero, List.set_cons_succ]
      refine takeL (i := 22) rfl (v := ?v68) (by kernel_rfl) (by kernel_rfl) (by kernel_rfl) (fun _ _ _ h => h) (Or.inl ⟨by rfl, fun _w _hSw => ?hy68⟩) (by assumption) ?rest68
      case hy68 =>
        (try dsimp only at _hSw)
        go_simp
        try with_reducible rfl
      try simp only [Act.put, List.setIfInBounds_toArray, List.set_cons_zero, List.set_cons_succ]
      refine wpAnyH_ready (rs := [27]) (by kernel_rfl) (by simp) (readyL rfl (fun K1 hK => ?_) AllReadyH.nil)
      go_simp
      with_reducible refine (KN6.out _).mono ?_
      rintro e v6 ⟨rfl, hb⟩
      try dsimp only
      refine hK.out _ _ (stay ‹_› ‹_›) (fun hHeld => ?_)
      clear hK K1
      try simp only [Act.put, List.setIfInBounds_toArray, List.set_cons_zero, List.set_cons_succ]
      refine takeL (i := 28) rfl (v := ?v69) (by kernel_rfl) (by kernel_rfl) (by kernel_rfl) (fun _ _ _ h => h) (Or.inl ⟨by rfl, fun _w _hSw => ?hy69⟩) (by assumption) ?rest69
      case hy69 =>
        (try dsimp only at _hSw)
        go_simp
        try with_reducible rfl
      try simp only [Act.put, List.setIfInBounds_toArray, List.set_cons_zero, List.set_cons_succ]
      refine takeL (i := 31) rfl (v := ?v70) (by kernel_rfl) (by kernel_rfl) (by kernel_rfl) (fun _ _ _ h => h) (Or.inl ⟨by rfl, fun _w _hSw => ?hy70⟩) (by assumption) ?rest70
      case hy70 =>
        (try dsimp only at _hSw)
        go_simp
        try with_reducible rfl
      try simp only [Act.put, List.setIfInBounds_toArray, List.set_cons_zero, List.set_cons_succ]
      refine takeL (i := 38) rfl (v := ?v71) (by kernel_rfl) (by kernel_rfl) (by kernel_rfl) (fun _ _ _ h => h) (Or.inl ⟨by rfl, fun _w _hSw => ?hy71⟩) (by assumption) ?rest71
      case hy71 =>
        (try dsimp only at _hSw)
        go_simp
        try with_reducible rfl
      try simp only [Act.put, List.setIfInBounds_toArray, List.set_cons_zero, List.set_cons_succ]
      refine wpAnyH_ready (rs := [41]) (by kernel_rfl) (by simp) (readyL rfl (fun K1 hK => ?_) AllReadyH.nil)
      go_simp
      with_reducible refine (KN7.out _).mono ?_
      rintro e v7 ⟨rfl, hb⟩
      try dsimp only
      refine hK.out _ _ (stay ‹_› ‹_›) (fun hHeld => ?_)
      clear hK K1
      try simp only [Act.put, List.setIfInBounds_toArray, List.set_cons_zero, List.set_cons_succ]
      refine takeL (i := 42) rfl (v := ?v72) (by kernel_rfl) (by kernel_rfl) (by kernel_rfl) (fun _ _ _ h => h) (Or.inl ⟨by rfl, fun _w _hSw => ?hy72⟩) (by assumption) ?rest72
      case hy72 =>
        (try dsimp only at _hSw)
        go_simp
        try with_reducible rfl
      try simp only [Act.put, List.setIfInBounds_toArray, List.set_cons_zero, List.set_cons_succ]
      refine takeL (i := 43) rfl (v := ?v73) (by kernel_rfl) (by kernel_rfl) (by kernel_rfl) (fun _ _ _ h => h) (Or.inl ⟨by rfl, fun _w _hSw => ?hy73⟩) (by assumption) ?rest73
      case hy73 =>
        (try dsimp only at _hSw)
        go_simp
        try with_reducible rfl
      try simp only [Act.put, List.setIfInBounds_toArray, List.set_cons_zero, List.set_cons_succ]
      refine wpAnyH_done (by kernel_rfl) ?_ _
      have HLAST := Lib.hid (show (fun w' => (∀ b o, b < (X1).heap.size → w'.cell? ⟨b, o, none⟩ = (X1).cell? ⟨b, o, none⟩) ∧ Below (X1).heap.size (X1) w') v7 by assumption)
      go_wp2
      go_ret
      exact ⟨by rw [HEND.out]; rfl, by rw [HQE.out]; exact HBX.out.trans ((HW.out.2.trans (HLAST.out.2.mono HW.out.2.size)).mono HZZ.out)⟩
  ·
    rw [if_pos (by kernel_rfl)]
    refine wp_make33 rfl rfl ?_
    intro X1 hz hbx
    have HZB := Lib.hid hz
    refine hK.out _ _ (stay ‹_› hbx) (fun hHeld => ?_)
    clear hK K1 hz hbx
    have HW := Lib.hid hHeld
    clear hHeld
    try simp only [show W0.drew.heap.size = W0.heap.size from rfl] at HZB ⊢

    refine wpAnyH_weaken (S' := (fun w' => (∀ b o, b < (X1).heap.size → w'.cell? ⟨b, o, none⟩ = (X1).cell? ⟨b, o, none⟩) ∧ Below (X1).heap.size (X1) w')) (fun w h => stay HW.out h.2) _ _ _ _ ?_
    have hHeld : (fun w' => (∀ b o, b < (X1).heap.size → w'.cell? ⟨b, o, none⟩ = (X1).cell? ⟨b, o, none⟩) ∧ Below (X1).heap.size (X1) w') X1 := ⟨fun _ _ _ => rfl, Below.refl _ _⟩
    try dsimp only
    try simp only [Act.put, List.setIfInBounds_toArray, List.set_cons_zero, List.set_cons_succ]
    refine takeL (i := 37) rfl (v := .string sz) (by kernel_rfl) (by kernel_rfl) (by kernel_rfl) (fun _ _ _ h => h) (Or.inl ⟨by rfl, fun _w _hSw => by
      have hcv := cvZ W0.heap.size _w (fun j hj => (_hSw.1 W0.heap.size j HZB.out.lt).trans (HZB.out.cell j |>.trans (zc33 hj)))
      rw [HSZ.out] at hcv
      clear _hSw hHeld
      go_simp⟩) (by assumption) ?_
    try simp only [Act.put, List.setIfInBounds_toArray, List.set_cons_zero, List.set_cons_succ]
    refine wpAnyH_ready (rs := [2]) (by kernel_rfl) (by simp) (readyL rfl (fun K1 hK => ?_) AllReadyH.nil)
    go_simp
    with_reducible refine (KN1.out _).mono ?_
    rintro e v1 ⟨rfl, hb⟩
    try dsimp only
    refine hK.out _ _ (stay ‹_› ‹_›) (fun hHeld => ?_)
    clear hK K1
    try simp only [Act.put, List.setIfInBounds_toArray, List.set_cons_zero, List.set_cons_succ]
    refine wpAnyH_ready (rs := [6]) (by kernel_rfl) (by simp) (readyL rfl (fun K1 hK => ?_) AllReadyH.nil)
    go_simp
    with_reducible refine (KN2.out _).mono ?_
    rintro e v2 ⟨rfl, hb⟩
    try dsimp only
    refine hK.out _ _ (stay ‹_› ‹_›) (fun hHeld => ?_)
    clear hK K1
    try simp only [Act.put, List.setIfInBounds_toArray, List.set_cons_zero, List.set_cons_succ]
    refine takeL (i := 7) rfl (v := ?v74) (by kernel_rfl) (by kernel_rfl) (by kernel_rfl) (fun _ _ _ h => h) (Or.inl ⟨by rfl, fun _w _hSw => ?hy74⟩) (by assumption) ?rest74
    case hy74 =>
      (try dsimp only at _hSw)
      go_simp
      try with_reducible rfl
    try simp only [Act.put, List.setIfInBounds_toArray, List.set_cons_zero, List.set_cons_succ]
    refine wpAnyH_ready (rs := [11]) (by kernel_rfl) (by simp) (readyL rfl (fun K1 hK => ?_) AllReadyH.nil)
    go_simp
    with_reducible refine (KN3.out _).mono ?_
    rintro e v3 ⟨rfl, hb⟩
    try dsimp only
    refine hK.out _ _ (stay ‹_› ‹_›) (fun hHeld => ?_)
    clear hK K1
    try simp only [Act.put, List.setIfInBounds_toArray, List.set_cons_zero, List.set_cons_succ]
    refine takeL (i := 12) rfl (v := ?v75) (by kernel_rfl) (by kernel_rfl) (by kernel_rfl) (fun _ _ _ h => h) (Or.inl ⟨by rfl, fun _w _hSw => ?hy75⟩) (by assumption) ?rest75
    case hy75 =>
      (try dsimp only at _hSw)
      go_simp
      try with_reducible rfl
    try simp only [Act.put, List.setIfInBounds_toArray, List.set_cons_zero, List.set_cons_succ]
    refine wpAnyH_ready (rs := [16]) (by kernel_rfl) (by simp) (readyL rfl (fun K1 hK => ?_) AllReadyH.nil)
    go_simp
    with_reducible refine (KN4.out _).mono ?_
    rintro e v4 ⟨rfl, hb⟩
    try dsimp only
    refine hK.out _ _ (stay ‹_› ‹_›) (fun hHeld => ?_)
    clear hK K1
    try simp only [Act.put, List.setIfInBounds_toArray, List.set_cons_zero, List.set_cons_succ]
    refine takeL (i := 17) rfl (v := ?v76) (by kernel_rfl) (by kernel_rfl) (by kernel_rfl) (fun _ _ _ h => h) (Or.inl ⟨by rfl, fun _w _hSw => ?hy76⟩) (by assumption) ?rest76
    case hy76 =>
      (try dsimp only at _hSw)
      go_simp
      try with_reducible rfl
    try simp only [Act.put, List.setIfInBounds_toArray, List.set_cons_zero, List.set_cons_succ]
    refine wpAnyH_ready (rs := [21]) (by kernel_rfl) (by simp) (readyL rfl (fun K1 hK => ?_) AllReadyH.nil)
    go_simp
    with_reducible refine (KN5.out _).mono ?_
    rintro e v5 ⟨rfl, hb⟩
    try dsimp only
    refine hK.out _ _ (stay ‹_› ‹_›) (fun hHeld => ?_)
    clear hK K1
    try simp only [Act.put, List.setIfInBounds_toArray, List.set_cons_zero, List.set_cons_succ]
    refine takeL (i := 22) rfl (v := ?v77) (by kernel_rfl) (by kernel_rfl) (by kernel_rfl) (fun _ _ _ h => h) (Or.inl ⟨by rfl, fun _w _hSw => ?hy77⟩) (by assumption) ?rest77
    case hy77 =>
      (try dsimp only at _hSw)
      go_simp
      try with_reducible rfl
    try simp only [Act.put, List.setIfInBounds_toArray, List.set_cons_zero, List.set_cons_succ]
    refine wpAnyH_ready (rs := [27]) (by kernel_rfl) (by simp) (readyL rfl (fun K1 hK => ?_) AllReadyH.nil)
    go_simp
    with_reducible refine (KN6.out _).mono ?_
    rintro e v6 ⟨rfl, hb⟩
    try dsimp only
    refine hK.out _ _ (stay ‹_› ‹_›) (fun hHeld => ?_)
    clear hK K1
    try simp only [Act.put, List.setIfInBounds_toArray, List.set_cons_zero, List.set_cons_succ]
    refine takeL (i := 28) rfl (v := ?v78) (by kernel_rfl) (by kernel_rfl) (by kernel_rfl) (fun _ _ _ h => h) (Or.inl ⟨by rfl, fun _w _hSw => ?hy78⟩) (by assumption) ?rest78
    case hy78 =>
      (try dsimp only at _hSw)
      go_simp
      try with_reducible rfl
    try simp only [Act.put, List.setIfInBounds_toArray, List.set_cons_zero, List.set_cons_succ]
    refine takeL (i := 31) rfl (v := ?v79) (by kernel_rfl) (by kernel_rfl) (by kernel_rfl) (fun _ _ _ h => h) (Or.inl ⟨by rfl, fun _w _hSw => ?hy79⟩) (by assumption) ?rest79
    case hy79 =>
      (try dsimp only at _hSw)
      go_simp
      try with_reducible rfl
    try simp only [Act.put, List.setIfInBounds_toArray, List.set_cons_zero, List.set_cons_succ]
    refine takeL (i := 38) rfl (v := ?v80) (by kernel_rfl) (by kernel_rfl) (by kernel_rfl) (fun _ _ _ h => h) (Or.inl ⟨by rfl, fun _w _hSw => ?hy80⟩) (by assumption) ?rest80
    case hy80 =>
      (try dsimp only at _hSw)
      go_simp
      try with_reducible rfl
    try simp only [Act.put, List.setIfInBounds_toArray, List.set_cons_zero, List.set_cons_succ]
    refine wpAnyH_ready (rs := [41]) (by kernel_rfl) (by simp) (readyL rfl (fun K1 hK => ?_) AllReadyH.nil)
    go_simp
    with_reducible refine (KN7.out _).mono ?_
    rintro e v7 ⟨rfl, hb⟩
    try dsimp only
    refine hK.out _ _ (stay ‹_› ‹_›) (fun hHeld => ?_)
    clear hK K1
    try simp only [Act.put, List.setIfInBounds_toArray, List.set_cons_zero, List.set_cons_succ]
    refine takeL (i := 42) rfl (v := ?v81) (by kernel_rfl) (by kernel_rfl) (by kernel_rfl) (fun _ _ _ h => h) (Or.inl ⟨by rfl, fun _w _hSw => ?hy81⟩) (by assumption) ?rest81
    case hy81 =>
      (try dsimp only at _hSw)
      go_simp
      try with_reducible rfl
    try simp only [Act.put, List.setIfInBounds_toArray, List.set_cons_zero, List.set_cons_succ]
    refine takeL (i := 43) rfl (v := ?v82) (by kernel_rfl) (by kernel_rfl) (by kernel_rfl) (fun _ _ _ h => h) (Or.inl ⟨by rfl, fun _w _hSw => ?hy82⟩) (by assumption) ?rest82
    case hy82 =>
      (try dsimp only at _hSw)
      go_simp
      try with_reducible rfl
    try simp only [Act.put, List.setIfInBounds_toArray, List.set_cons_zero, List.set_cons_succ]
    refine wpAnyH_done (by kernel_rfl) ?_ _
    have HLAST := Lib.hid (show (fun w' => (∀ b o, b < (X1).heap.size → w'.cell? ⟨b, o, none⟩ = (X1).cell? ⟨b, o, none⟩) ∧ Below (X1).heap.size (X1) w') v7 by assumption)
    go_wp2
    go_ret
    exact ⟨by rw [HEND.out]; rfl, by rw [HQE.out]; exact HBX.out.trans ((HW.out.2.trans (HLAST.out.2.mono HW.out.2.size)).mono HZZ.out)⟩
end Go.Proofs.YtbbcicengfmhiaaDoor

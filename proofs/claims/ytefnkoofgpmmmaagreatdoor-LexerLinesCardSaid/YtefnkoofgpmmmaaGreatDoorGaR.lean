/- gate.Write. Conditions: sizes; the votes lie ahead of the writer's row. -/
import Derived.Test.YtefnkoofgpmmmaaGreatDoorN2
import Derived.Test.YtefnkoofgpmmmaaGreatDoorTk
import Derived.Test.YtefnkoofgpmmmaaGreatDoorN3
namespace Go.Proofs.YtefnkoofgpmmmaaGreatDoor
set_option maxRecDepth 100000
open Go.RowKit

def fl01 : Bool → Int
  | true => 1
  | false => 0
def gateL (xs : List Int) (no : Bool) : List UInt8 := numL xs.length ++ (numsL xs ++ numL (fl01 no))
theorem numsL_one (n : Int) : numsL [n] = numL n := by simp [numsL]
theorem writerInt0 (b : Nat) (p : Option Addr) (c : Nat) (w : World) : Calls Tryz.prog 76 #[.pointer (some ⟨b, 0, none⟩), .slice p 0 c] w fun e w' => e = .returned (.tuple #[]) ∧ w = w' := by
  go_enter Tryz.func76, Tryz.ntmps76
  go_wp2
  go_loop [10] (fun i => i = .int .i64 0) (fun _ => 0)
  case atStart => rfl
  case round =>
    obtain rfl := hrel
    go_wp2
    go_end0
    exact ⟨rfl, rfl⟩
theorem one_cell (w : World) (n : Int) (A : Obj) : ∀ j, j < [n].length → ((w.alloc A).alloc (.cells #[.int .i64 n] 3)).cell? ⟨w.heap.size + 1, 0 + j, none⟩ = some (.int .i64 [n][j]!) := by
  intro j hj
  match j, hj with
  | 0, _ => go_simp
theorem one_cell1 (w : World) (n : Int) : ∀ j, j < [n].length → (w.alloc (.cells #[.int .i64 n] 3)).cell? ⟨w.heap.size, 0 + j, none⟩ = some (.int .i64 [n][j]!) := by
  intro j hj
  match j, hj with
  | 0, _ => go_simp
theorem numsL_lenB {xs : List Int} (hok : ∀ j, j < xs.length → okI xs[j]!) : (numsL xs).length ≤ xs.length * 22 := by
  have : ∀ m, m ≤ xs.length → (numsL (xs.take m)).length ≤ m * 22 := by
    intro m
    induction m with
    | zero => intro _; simp [numsL]
    | succ m ih =>
      intro hm
      have h1 := ih (by omega)
      have h2 := numL_len (hok m (by omega))
      rw [List.take_succ_eq_append_getElem (by omega)]
      rw [getElem!_pos xs m (by omega)] at h2
      simp only [numsL, List.flatMap_append, List.length_append, List.flatMap_cons, List.flatMap_nil, List.append_nil] at h1 ⊢
      omega
  have := this xs.length (Nat.le_refl _)
  rwa [List.take_length] at this
set_option maxHeartbeats 4000000 in
theorem gateWrite (R T b : Nat) (l : List UInt8) (v : Value) (no : Bool) (xs : List Int) (w : World) (hW : WrAt R T b l w) (hM : Met w) (h9 : 9 ≤ b) (hS : SlAt 1 encI w v xs) (hq : 0 < xs.length → ∀ q, v.ownBlock = some q → q < R ∧ q ≠ b) (hok : ∀ j, j < xs.length → okI xs[j]!) (hlen : l.length + (xs.length + 2) * 22 ≤ 140737488355328) :
    Calls Tryz.prog 125 #[.pointer (some ⟨b, 0, none⟩), .agg #[v, .bool no]] w fun e w' => e = .returned (.tuple #[]) ∧ (∃ T', WrAt R T' b (l ++ gateL xs no) w') ∧ KeptW R b w w' := by
  obtain ⟨p, c, rfl, _, hcc⟩ := id hS
  obtain ⟨⟨hbR, hRs, _⟩, _⟩ := id hW
  have ho1 : okI (xs.length : Int) := ⟨by omega, by omega⟩
  have hl1 := numL_len ho1
  have hl2 := numsL_lenB hok
  have HOK := Lib.hid hok
  have hb1 := below2 w (.cells #[.slice p xs.length c, .bool no] 221) (.cells #[.int .i64 xs.length] 3)
  have hk1 := KeptW.of hRs hbR hb1
  have HBX := Lib.hid (show ((w.alloc (.cells #[.slice p xs.length c, .bool no] 221)).alloc (.cells #[.int .i64 xs.length] 3)).heap[w.heap.size]? = some (.cells #[.slice p xs.length c, .bool no] 221 (0, 0)) by
    rw [(below1 (w.alloc (.cells #[.slice p xs.length c, .bool no] 221)) (.cells #[.int .i64 xs.length] 3)).block _ (by simp)]
    exact (MapKept.heap_alloc w _).1)
  have K1 := Lib.hid (writerInt R T b (w.heap.size + 1) 0 1 l [(xs.length : Int)] _ (hW.below hb1) (hM.below hb1) h9 (fun j hj => by match j, hj with | 0, _ => exact ho1) (by simp; omega) (by omega) (.inr (.inl (by simp))) (one_cell w xs.length _))
  have HK1 := Lib.hid hk1
  have HM1 := Lib.hid (hM.below hb1)
  have HCC := Lib.hid hcc
  clear hb1 hk1 hcc hW hS hM hok
  go_enter Tryz.func125, Tryz.ntmps125
  go_wp2_with fail
  refine K1.out.mono ?_
  rintro e w2 ⟨rfl, ⟨T2, hW2⟩, hk2⟩
  rw [numsL_one] at hW2
  have hx2 := (hk2.2.1 w.heap.size (.inr ⟨_, _, _, HBX.out, by decide⟩) (by omega)).trans HBX.out
  have HM2 := Lib.hid (HM1.out.belowB (hk2.1 9 h9) (Nat.le_refl _))
  have HK2 := Lib.hid (HK1.out.trans hk2)
  have HW2 := Lib.hid hW2
  have HX2 := Lib.hid hx2
  clear hW2 hk2 hx2 K1 HK1 HM1 HBX
  have c0 : w2.cell? ⟨w.heap.size, 0, none⟩ = some (.slice p xs.length c) := by rw [Lib.cell_of_heap HX2.out]; rfl
  have K2 : Calls Tryz.prog 76 #[.pointer (some ⟨b, 0, none⟩), .slice p xs.length c] w2 fun e w' => e = .returned (.tuple #[]) ∧ (∃ T', WrAt R T' b ((l ++ numL xs.length) ++ numsL xs) w') ∧ KeptW R b w2 w' := by
    by_cases h0 : 0 < xs.length
    · obtain ⟨q, off, rfl, hqs, hcell⟩ := HCC.out h0
      obtain ⟨hqR, hqb⟩ := hq h0 q rfl
      refine writerInt R T2 b q off c (l ++ numL xs.length) xs w2 HW2.out HM2.out h9 HOK.out (by rw [List.length_append]; omega) hqb (.inl hqR) (fun j hj => ?_)
      have h1 := hcell j hj 0 _ rfl
      rw [HK2.out.cell hqR hqb]
      simpa using h1
    · have hx : xs = [] := List.eq_nil_of_length_eq_zero (by omega)
      subst hx
      refine (writerInt0 b p c w2).mono ?_
      rintro e w' ⟨rfl, rfl⟩
      exact ⟨rfl, ⟨T2, by simpa [numsL] using HW2.out⟩, KeptW.refl _ _ _⟩
  have KK2 := Lib.hid K2
  clear K2
  go_wp2_with fail
  refine KK2.out.mono ?_
  rintro e w3 ⟨rfl, ⟨T3, hW3⟩, hk3⟩
  have hx3 := (hk3.2.1 w.heap.size (.inr ⟨_, _, _, HX2.out, by decide⟩) (by omega)).trans HX2.out
  have HM3 := Lib.hid (HM2.out.belowB (hk3.1 9 h9) (Nat.le_refl _))
  have HK3 := Lib.hid (HK2.out.trans hk3)
  have HW3 := Lib.hid hW3
  clear hW3 hk3 c0 KK2 HM2 HK2 HW2 HX2 HCC
  have c1 : w3.cell? ⟨w.heap.size, 1, none⟩ = some (.bool no) := by rw [Lib.cell_of_heap hx3]; rfl
  clear hx3
  have K3 := Lib.hid (fun n (hn : okI n) => writerInt R T3 b w3.heap.size 0 1 _ [n] _ (HW3.out.below (below1 w3 (.cells #[.int .i64 n] 3))) (HM3.out.below (below1 w3 _)) h9 (fun j hj => by match j, hj with | 0, _ => exact hn) (by simp only [List.length_append, List.length_cons, List.length_nil]; omega) (by have := HW3.out.1; omega) (.inr (.inl (by simp))) (one_cell1 w3 n))
  have HL := Lib.hid (show ∀ n : Int, ((l ++ numL xs.length) ++ numsL xs) ++ numsL [n] = l ++ (numL xs.length ++ (numsL xs ++ numL n)) from fun n => by rw [numsL_one]; simp)
  cases no with
  | false =>
    go_wp2_with fail
    refine (K3.out 0 ⟨by decide, by decide⟩).mono ?_
    rintro e w4 ⟨rfl, ⟨T4, hW4⟩, hk4⟩
    go_wp2
    go_end0
    exact ⟨rfl, ⟨T4, by rw [HL.out] at hW4; exact hW4⟩, HK3.out.trans ((KeptW.of HW3.out.1.2.1 hbR (below1 w3 _)).trans hk4)⟩
  | true =>
    go_wp2_with fail
    refine (K3.out 1 ⟨by decide, by decide⟩).mono ?_
    rintro e w4 ⟨rfl, ⟨T4, hW4⟩, hk4⟩
    go_wp2
    go_end0
    exact ⟨rfl, ⟨T4, by rw [HL.out] at hW4; exact hW4⟩, HK3.out.trans ((KeptW.of HW3.out.1.2.1 hbR (below1 w3 _)).trans hk4)⟩
end Go.Proofs.YtefnkoofgpmmmaaGreatDoor

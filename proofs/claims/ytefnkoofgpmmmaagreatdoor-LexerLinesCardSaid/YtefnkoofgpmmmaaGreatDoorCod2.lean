/- A codec.Writer: numbers and texts written, all told. No condition but sizes. -/
import Derived.Test.YtefnkoofgpmmmaaGreatDoorCod1
import Derived.Lib.ItoaLen
import Derived.Lib.AppendIntMem
import Derived.Deep.RegionHeld3
namespace Go.Proofs.YtefnkoofgpmmmaaGreatDoor
open Go.RowKit

theorem Met.belowB {B : Nat} {W W' : World} (h : Met W) (hb : Below B W W') (hB : 9 ≤ B) : Met W' := by
  obtain ⟨h1, ⟨a, h2⟩, ⟨b, h3⟩, ⟨m, h4⟩, h5⟩ := h
  exact ⟨var?_below hb gPow (by omega) h1, ⟨a, var?_below hb gSyn (by omega) h2⟩, ⟨b, var?_below hb gRng (by omega) h3⟩, ⟨m, (hb.cell (p := ⟨5, 0, none⟩) (show 5 < B by omega)).trans h4⟩, var?_below hb gBru (by omega) h5⟩
theorem Met.size {W : World} (h : Met W) : 9 ≤ W.heap.size := by
  obtain ⟨_, _, _, ⟨m, h4⟩, h5⟩ := h
  exact var_lt gBru h5
def numL (n : Int) : List UInt8 := Lib.itoa n ++ [44]
def numsL (xs : List Int) : List UInt8 := xs.flatMap numL
theorem itoaC (n : Int) (hn : okI n) (w : World) (hm : Met w) : Calls Tryz.prog 93 #[.int .i64 n] w fun e w' => e = .returned (.string ⟨(Lib.itoa n).toArray⟩) ∧ Below w.heap.size w w' :=
  (Tryz.strconv_Itoa n hn.1 hn.2 w hm.1).mono fun e w' ⟨h1, k, os, h2⟩ => ⟨h1, by subst h2; exact Lib.below_grow _ w (Nat.le_refl _) k os⟩
theorem numL_len {n : Int} (h : okI n) : (numL n).length ≤ 22 := by
  have := Lib.itoa_length_le n h.1 h.2
  simp [numL]
  omega
theorem numL_ne (n : Int) : numL n ≠ [] := by simp [numL]

set_option maxRecDepth 100000 in
set_option maxHeartbeats 2000000 in
theorem writerInt (R T b q off c : Nat) (l : List UInt8) (xs : List Int) (w : World) (hW : WrAt R T b l w) (hM : Met w) (h5 : 9 ≤ b) (hok : ∀ j, j < xs.length → okI xs[j]!) (hlen : l.length + xs.length * 22 ≤ 140737488355328) (hqb : q ≠ b)
    (hq : q < R ∨ xs.length ≤ 1 ∨ Safe w q) (hc : ∀ j, j < xs.length → w.cell? ⟨q, off + j, none⟩ = some (.int .i64 xs[j]!)) :
    Calls Tryz.prog 76 #[.pointer (some ⟨b, 0, none⟩), .slice (some ⟨q, off, none⟩) xs.length c] w fun e w' => e = .returned (.tuple #[]) ∧ (∃ T', WrAt R T' b (l ++ numsL xs) w') ∧ KeptW R b w w' := by
  have HOK := Lib.hid hok
  have HQ := Lib.hid hq
  have HQB := Lib.hid hqb
  have hbR := hW.1.1
  generalize hn : xs.length = n at hlen hc
  have HN := Lib.hid hn
  clear hok hq hqb hn
  go_enter Tryz.func76, Tryz.ntmps76
  go_wp2
  go_loopw [10] (fun i wr => ∃ j T', j ≤ n ∧ i = .int .i64 (j : Nat) ∧ WrAt R T' b (l ++ numsL (xs.take j)) wr ∧ Met wr ∧ KeptW R b w wr ∧ ∀ k, j ≤ k → k < n → wr.cell? ⟨q, off + k, none⟩ = some (.int .i64 xs[k]!)) (fun i _ => n - (intOf i).toNat)
  case atStart => exact ⟨0, T, by omega, rfl, by simpa [numsL] using hW, hM, ⟨fun B _ => Below.refl B _, fun _ _ _ => rfl, Nat.le_refl _⟩, fun k _ h => hc k h⟩
  case round =>
    obtain ⟨j, T', hj, rfl, hWr, hMr, hKr, hcr⟩ := hrel
    have HW := Lib.hid hWr
    have HM := Lib.hid hMr
    have HK := Lib.hid hKr
    clear hWr hMr hKr hW hM hc
    by_cases hlt : j < n
    · have hltz : (j : Int) < (n : Int) := by omega
      have d0 := hcr j (by omega) hlt
      have HC := Lib.hid (fun k (h1 : j + 1 ≤ k) (h2 : k < n) => hcr k (by omega) h2)
      have ho := HOK.out j (by have := HN.out; omega)
      have HE := Lib.hid (show numsL (xs.take (j + 1)) = numsL (xs.take j) ++ numL xs[j]! by
        have := HN.out
        rw [List.take_succ_eq_append_getElem (by omega), getElem!_pos xs j (by omega)]
        simp only [numsL, List.flatMap_append, List.flatMap_cons, List.flatMap_nil, List.append_nil])
      have HL := Lib.hid (show (numsL (xs.take j)).length ≤ j * 22 by
        have hN := HN.out
        have : ∀ m, m ≤ n → (numsL (xs.take m)).length ≤ m * 22 := by
          intro m
          induction m with
          | zero => intro _; simp [numsL]
          | succ m ih =>
            intro hm
            have h1 := ih (by omega)
            have h2 := numL_len (HOK.out m (by omega))
            rw [List.take_succ_eq_append_getElem (by omega)]
            rw [getElem!_pos xs m (by omega)] at h2
            simp only [numsL, List.flatMap_append, List.length_append, List.flatMap_cons, List.flatMap_nil, List.append_nil] at h1 ⊢
            omega
        exact this j (by omega))
      clear hcr
      generalize xs[j]! = x at d0 ho HE
      have HO := Lib.hid ho
      obtain ⟨sx, hsx⟩ : ∃ s : ByteArray, s = ⟨(Lib.itoa x).toArray⟩ := ⟨_, rfl⟩
      obtain ⟨sy, hsy⟩ : ∃ s : ByteArray, s = ⟨(numL x).toArray⟩ := ⟨_, rfl⟩
      have hS : ∀ W, (Op.stringOp .add sx ⟨#[44]⟩).run Tryz.prog W = .ok (.string sy) W := fun W => by
        rw [hsx, hsy]
        exact run_string_add_lists W (Lib.itoa x) [44] (by have := Lib.itoa_length_le x ho.1 ho.2; omega) (by simp)
      have K81 := Lib.hid (fun W (hm : Met W) => (itoaC x ho W hm))
      rw [← hsx] at K81
      have HSY := Lib.hid hsy
      have HZ := Lib.hid (show (l ++ numsL (xs.take j)).length + sy.size ≤ 140737488355328 by
        have h1 := HL.out
        have h2 := numL_len ho
        have h3 : sy.size = (numL x).length := by rw [hsy]; exact List.size_toArray
        rw [h3, List.length_append]
        omega)
      clear ho hsx hsy
      go_wp2_with fail
      go_region_held3 (fun _ => True) (exact trivial)
        (first
          | (go_at_call 93; (with_reducible refine (K81.out _ (HM.out.below (Below.refl _ _).drew)).mono ?_); rintro e w' ⟨rfl, hb⟩)
          | (go_at_call 122; (with_reducible refine (writeString R T' b _ sy _ ((HW.out.below (Below.refl _ _).drew).below hb) HZ.out).mono ?_); rintro e w' ⟨rfl, hw2, hk2⟩))
      have hb1 : Below wr.heap.size wr wr.drew := (Below.refl _ _).drew
      have hb2 := hb1.trans (hb.mono (Nat.le_refl _))
      have hk0 := KeptW.of (R := R) (b := b) HW.out.1.2.1 hbR hb2
      have hk3 := HK.out.trans (hk0.trans hk2)
      have HWN := Lib.hid hw2
      have HMN := Lib.hid ((HM.out.below hb2))
      have HK3 := Lib.hid hk3
      have HK2 := Lib.hid (hk0.trans hk2)
      clear hw2 hk2 hb hb1 hb2 hk0 hk3
      go_wp2
      go_roundw
      case rel =>
        have r1 : WrAt R w'.heap.size b (l ++ numsL (xs.take (j + 1))) w' := by
          have := HWN.out
          rw [HE.out, ← List.append_assoc]
          rwa [HSY.out] at this
        have r2 : Met w' := HM.out.belowB (HK2.out.1 b (Nat.le_refl _)) h5
        have r3 : ∀ k, j + 1 ≤ k → k < n → w'.cell? ⟨q, off + k, none⟩ = some (.int .i64 xs[k]!) := fun k h1 h2 => by
          rcases HQ.out with h | h | h
          · exact (HK2.out.cell h HQB.out).trans (HC.out k h1 h2)
          · have := HN.out; omega
          · exact (HK2.out.cellS (HK.out.safe h HQB.out) HQB.out).trans (HC.out k h1 h2)
        first | exact ⟨j + 1, _, by omega, by go_num, r1, r2, HK3.out, r3⟩ | ((repeat apply Exists.intro); exact ⟨⟨j + 1, _, by omega, by go_num, r1, r2, HK3.out, r3⟩, rfl⟩)
      case measure => simp [intOf] <;> omega
    · obtain rfl : n = j := by omega
      go_wp2
      go_end0
      refine ⟨rfl, ⟨T', ?_⟩, HK.out⟩
      have := HW.out
      rwa [List.take_of_length_le (by have := HN.out; omega)] at this

/-- a number's text, a text's text -/
def textL (s : List UInt8) : List UInt8 := numL (s.length : Int) ++ s
theorem KeptW.met {R b : Nat} {w w' : World} (h : KeptW R b w w') (hM : Met w) (h5 : 9 ≤ b) : Met w' := hM.belowB (h.1 b (Nat.le_refl _)) h5

set_option maxRecDepth 100000 in
set_option maxHeartbeats 2000000 in
/-- one text written -/
theorem writerText (R T b q off c : Nat) (l : List UInt8) (s : ByteArray) (w : World) (hW : WrAt R T b l w) (hM : Met w) (h5 : 9 ≤ b) (hlen : l.length + 22 + s.size ≤ 140737488355328) (hqb : q ≠ b)
    (hc : w.cell? ⟨q, off, none⟩ = some (.string s)) :
    Calls Tryz.prog 77 #[.pointer (some ⟨b, 0, none⟩), .slice (some ⟨q, off, none⟩) 1 c] w fun e w' => e = .returned (.tuple #[]) ∧ (∃ T', WrAt R T' b (l ++ textL s.data.toList) w') ∧ KeptW R b w w' := by
  have hbR := hW.1.1
  have hsz : (s.size : Int) = (s.data.toList.length : Int) := by rw [Array.length_toList]; rfl
  have hok : okI (s.size : Int) := ⟨by omega, by omega⟩
  go_enter Tryz.func77, Tryz.ntmps77
  go_wp2
  go_loopw [10] (fun i wr => (i = .int .i64 0 ∧ wr = w) ∨ (i = .int .i64 1 ∧ (∃ T', WrAt R T' b (l ++ textL s.data.toList) wr) ∧ KeptW R b w wr)) (fun i _ => 1 - (intOf i).toNat)
  case atStart => exact .inl ⟨rfl, rfl⟩
  case round =>
    rcases hrel with ⟨rfl, rfl⟩ | ⟨rfl, hT, hK⟩
    · have HW := Lib.hid hW
      have HM := Lib.hid hM
      clear hW hM
      go_wp2_with fail
      have h2 := writerInt R T b wr.heap.size 0 1 l [(s.size : Int)] (wr.alloc (.cells #[.int .i64 (s.size : Int)] 3)) (HW.out.below (below1 _ _)) (HM.out.below (below1 _ _)) h5 (fun j hj => by
        have : j = 0 := by simp at hj; omega
        subst this
        exact hok) (by simp; omega) (by have := HW.out.1; omega) (.inr (.inl (by simp))) (fun j hj => by
        have : j = 0 := by simp at hj; omega
        subst this
        go_simp)
      refine h2.mono ?_
      rintro e w2 ⟨rfl, ⟨T2, hW2⟩, hK2⟩
      have hKa := (KeptW.of (R := R) (b := b) HW.out.1.2.1 hbR (below1 wr (.cells #[.int .i64 (s.size : Int)] 3))).trans hK2
      have HKa := Lib.hid hKa
      have HW2 := Lib.hid hW2
      clear h2 hK2 hW2 hKa
      go_wp2_with fail
      refine (writeString R T2 b _ s _ HW2.out ?_).mono ?_
      · have := numL_len hok
        simp only [numsL, List.flatMap_cons, List.flatMap_nil, List.append_nil, List.length_append]
        omega
      rintro e w3 ⟨rfl, hW3, hK3⟩
      have HW3 := Lib.hid hW3
      have HK3 := Lib.hid (HKa.out.trans hK3)
      clear hW3 hK3
      go_wp2
      go_roundw
      case rel =>
        have r1 : WrAt R w3.heap.size b (l ++ textL s.data.toList) w3 := by
          have := HW3.out
          rw [hsz] at this
          simpa [textL, numsL] using this
        first | exact .inr ⟨by go_num, ⟨_, r1⟩, HK3.out⟩ | ((repeat apply Exists.intro); exact ⟨.inr ⟨by go_num, ⟨_, r1⟩, HK3.out⟩, rfl⟩)
      case measure => simp [intOf] <;> omega
    · go_wp2
      go_end0
      exact ⟨rfl, hT, hK⟩

set_option maxRecDepth 100000 in
theorem writerString (R T b : Nat) (l : List UInt8) (w : World) (h : WrAt R T b l w) (h0 : l ≠ []) :
    Calls Tryz.prog 79 #[.pointer (some ⟨b, 0, none⟩)] w fun e w' => e = .returned (.string ⟨l.toArray⟩) ∧ KeptS R T w w' := by
  go_enter Tryz.func79, Tryz.ntmps79
  go_wp2_with fail
  refine (builderString R T b l _ h h0).mono ?_
  rintro e w' ⟨rfl, hk⟩
  go_wp2
  go_ret
  exact ⟨rfl, hk⟩
end Go.Proofs.YtefnkoofgpmmmaaGreatDoor

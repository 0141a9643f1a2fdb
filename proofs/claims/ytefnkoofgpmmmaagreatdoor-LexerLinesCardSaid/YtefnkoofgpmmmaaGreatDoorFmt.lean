/- strconv.FormatUint at base 16, of a number of 16 bits. -/
import Derived.Test.YtefnkoofgpmmmaaGreatDoorRep
import Derived.Test.YtefnkoofgpmmmaaGreatDoorFrameD
namespace Go.Proofs.YtefnkoofgpmmmaaGreatDoor
set_option maxRecDepth 100000
open Go.RowKit

theorem pow2_16 (w : World) : Calls Tryz.prog 258 #[.int .i64 16] w fun e w' => e = .returned (.bool true) ∧ w = w' := by
  go_enter Tryz.func258, Tryz.ntmps258
  go_wp2
  go_ret
  exact ⟨rfl, rfl⟩
set_option maxHeartbeats 1000000 in
theorem tz167 (w : World) (hM : Met w) : Calls Tryz.prog 266 #[.int .u64 16] w fun e w' => e = .returned (.int .i64 4) ∧ w = w' := by
  have h1 : bits .and .u64 16 (IntKind.u64.wrap (-16)) = 16 := by decide +kernel
  have h2 : IntKind.u64.wrap (16 * 285870213051353865) / 288230376151711744 = 15 := by decide +kernel
  have h3 : w.cell? ⟨8, 15, none⟩ = some (.int .u8 4) := by
    have := hM.2.2.2.2.cell gBru 15 (by decide +kernel)
    rw [this, show bruTab.getD 15 0 = 4 by decide +kernel]
  have hz : 8 < w.heap.size := var_lt gBru hM.2.2.2.2
  clear hM
  go_enter Tryz.func266, Tryz.ntmps266
  go_wp2
  go_ret
  exact ⟨rfl, rfl⟩
theorem tz16 (w : World) (hM : Met w) : Calls Tryz.prog 259 #[.int .u64 16] w fun e w' => e = .returned (.int .i64 4) ∧ w = w' := by
  go_enter Tryz.func259, Tryz.ntmps259
  go_wp2_with (go_at_call 266; refine (tz167 _ hM).mono ?_; rintro e w' ⟨rfl, rfl⟩)
  go_ret
  exact ⟨rfl, rfl⟩

/-- a hexadecimal digit -/
def hexD (d : Nat) : UInt8 := if d < 10 then UInt8.ofNat (48 + d) else UInt8.ofNat (87 + d)
/-- the last m digits -/
def hexL (x : Nat) : Nat → List UInt8
  | 0 => []
  | m + 1 => hexD (x / 16 ^ m % 16) :: hexL x m
/-- the digits that lie already -/
def FmtAt (w wr : World) (x m : Nat) : Prop :=
  Below w.heap.size w wr ∧ w.heap.size < wr.heap.size ∧ (∀ k, k < 65 → ∃ c, wr.cell? ⟨w.heap.size, k, none⟩ = some c) ∧ (∀ k, k < 65 → wr.frozen? ⟨w.heap.size, k, none⟩ = false) ∧
  ∀ j, j < m → wr.cell? ⟨w.heap.size, 64 - j, none⟩ = some (.int .u8 (hexD (x / 16 ^ j % 16)).toNat)
theorem FmtAt.put {w wr : World} {x m : Nat} (h : FmtAt w wr x m) (hm : m ≤ 3) {v : Value} (hv : v = .int .u8 (hexD (x / 16 ^ m % 16)).toNat) : FmtAt w (wr.setCell ⟨w.heap.size, 64 - m, none⟩ v) x (m + 1) := by
  obtain ⟨h1, h2, h3, h4, h5⟩ := h
  refine ⟨h1.setCell (p := ⟨w.heap.size, 64 - m, none⟩) (Nat.le_refl _) _, by simpa using h2, fun k hk => ?_, fun k hk => ?_, fun j hj => ?_⟩
  · by_cases e : k = 64 - m
    · subst e
      obtain ⟨c, hc⟩ := h3 (64 - m) (by omega)
      exact ⟨v, by go_simp⟩
    · obtain ⟨c, hc⟩ := h3 k hk
      exact ⟨c, by go_simp⟩
  · have := h4 k hk
    go_simp
  · by_cases e : j = m
    · subst e
      obtain ⟨c, hc⟩ := h3 (64 - j) (by omega)
      subst hv
      go_simp
    · have := h5 j (by omega)
      go_simp
theorem digAt (d : Nat) (hd : d < 16) (h : d < (ByteArray.mk #[48, 49, 50, 51, 52, 53, 54, 55, 56, 57, 97, 98, 99, 100, 101, 102, 103, 104, 105, 106, 107, 108, 109, 110, 111, 112, 113, 114, 115, 116, 117, 118, 119, 120, 121, 122]).size) : (ByteArray.mk #[48, 49, 50, 51, 52, 53, 54, 55, 56, 57, 97, 98, 99, 100, 101, 102, 103, 104, 105, 106, 107, 108, 109, 110, 111, 112, 113, 114, 115, 116, 117, 118, 119, 120, 121, 122])[d]'h = hexD d := by
  match d, hd with
  | 0, _ | 1, _ | 2, _ | 3, _ | 4, _ | 5, _ | 6, _ | 7, _ | 8, _ | 9, _ | 10, _ | 11, _ | 12, _ | 13, _ | 14, _ | 15, _ => rfl
  | n + 16, h => exact absurd h (by omega)
def hexN (x : Nat) : Nat := if x < 16 then 1 else if x < 256 then 2 else if x < 4096 then 3 else 4
theorem hexN_of {x m : Nat} (hx : x < 65536) (h1 : m = 0 ∨ 16 ^ m ≤ x) (hm : m ≤ 3) (h2 : x / 16 ^ m < 16) : hexN x = m + 1 := by
  unfold hexN
  match m, hm, h1, h2 with
  | 0, _, _, h2 => rw [if_pos (by simpa using h2)]
  | 1, _, h1, h2 => rw [if_neg (by omega), if_pos (by omega)]
  | 2, _, h1, h2 => rw [if_neg (by omega), if_neg (by omega), if_pos (by omega)]
  | 3, _, h1, h2 => rw [if_neg (by omega), if_neg (by omega), if_neg (by omega)]
theorem and15 (q : Nat) (hq : q < 65536) : bits .and .u64 (q : Int) 15 = ((q % 16 : Nat) : Int) := by
  have := u64_and_nat q 15 (by omega) (by omega)
  rw [show ((15 : Nat) : Int) = 15 from rfl] at this
  rw [this, show (15 : Nat) = 2 ^ 4 - 1 from rfl, Nat.and_two_pow_sub_one_eq_mod]
theorem FmtAt.text {w wr : World} {x m : Nat} (h : FmtAt w wr x m) (hm : m ≤ 4) (cap : Nat) : (convert 52 9 (.slice (some ⟨w.heap.size, 65 - m, none⟩) (hexL x m).length cap)).run Tryz.prog wr = .ok (.string ⟨(hexL x m).toArray⟩) wr := by
  refine run_convert_bytes_back wr 52 9 5 _ cap (hexL x m) Tryz.underlying52 Tryz.underlying5 Tryz.underlying9 fun j hj => ?_
  obtain ⟨_, _, _, _, h5⟩ := h
  rw [Go.WideShapes.add_plain]
  match m, hm, j, hj with
  | 1, _, 0, _ => exact h5 0 (by omega)
  | 2, _, 0, _ => exact h5 1 (by omega)
  | 2, _, 1, _ => exact h5 0 (by omega)
  | 3, _, 0, _ => exact h5 2 (by omega)
  | 3, _, 1, _ => exact h5 1 (by omega)
  | 3, _, 2, _ => exact h5 0 (by omega)
  | 4, _, 0, _ => exact h5 3 (by omega)
  | 4, _, 1, _ => exact h5 2 (by omega)
  | 4, _, 2, _ => exact h5 1 (by omega)
  | 4, _, 3, _ => exact h5 0 (by omega)
set_option maxRecDepth 100000 in
set_option maxHeartbeats 4000000 in
theorem fmtBits (x : Nat) (hx : x < 65536) (w : World) (hM : Met w) : Calls Tryz.prog 235 #[.slice none 0 0, .int .u64 x, .int .i64 16, .bool false, .bool false] w fun e w' => e = .returned (.tuple #[.slice none 0 0, .string ⟨(hexL x (hexN x)).toArray⟩]) ∧ Below w.heap.size w w' := by
  have HX := Lib.hid hx
  have HM := Lib.hid hM
  clear hx hM
  obtain ⟨R, hR⟩ : ∃ R : List UInt8, R = hexL x (hexN x) := ⟨_, rfl⟩
  rw [← hR]
  have HR := Lib.hid hR
  clear hR
  go_enter Tryz.func235, Tryz.ntmps235
  go_wp2_with fail
  refine (pow2_16 _).mono ?_
  rintro e w' ⟨rfl, rfl⟩
  go_wp2_with fail
  refine (tz16 _ (HM.out.below (below1 _ _))).mono ?_
  rintro e w' ⟨rfl, rfl⟩
  go_wp2_with fail
  go_loopw [1, 13] (fun u i wr => ∃ m : Nat, m ≤ 3 ∧ u = .int .u64 ((x / 16 ^ m : Nat) : Int) ∧ i = .int .i64 (65 - m) ∧ (m = 0 ∨ 16 ^ m ≤ x) ∧ FmtAt w wr x m) (fun _ i _ => (intOf i).toNat)
  case atStart =>
    refine ⟨0, by omega, by simp, rfl, .inl rfl, below1 _ _, by simp, ?_, ?_, fun j hj => absurd hj (by omega)⟩
    · intro k hk
      have hs : Tryz.zeroCells367.size = 65 := by kernel_rfl
      rw [World.cell?_alloc_at _ _ w.heap.size k rfl]
      exact ⟨_, Array.getElem?_eq_getElem (by omega)⟩
    · intro k hk
      go_simp
  case round =>
    obtain ⟨m, hm, rfl, rfl, hlo, hf⟩ := hrel
    have HF := Lib.hid hf
    have HLO := Lib.hid hlo
    clear hf hlo
    obtain ⟨q, hq⟩ : ∃ q, q = x / 16 ^ m := ⟨_, rfl⟩
    rw [← hq]
    have HQ := Lib.hid hq
    have hq6 : q < 65536 := by have := HX.out; rw [hq]; exact Nat.lt_of_le_of_lt (Nat.div_le_self _ _) this
    clear hq
    obtain ⟨c0, hc0⟩ := HF.out.2.2.1 (64 - m) (by omega)
    have hfr := HF.out.2.2.2.1 (64 - m) (by omega)
    have hz := HF.out.2.1
    by_cases hge : 16 ≤ q
    · have hm2 : m ≤ 2 := by
        have h := HQ.out
        have hx := HX.out
        match m, hm, h with
        | 0, _, _ | 1, _, _ | 2, _, _ => omega
        | 3, _, h => omega
      have hgez : (16 : Int) ≤ (q : Int) := by omega
      have hb := and15 q hq6
      generalize hd : q % 16 = d at hb
      have hdl : d < 16 := by omega
      have HD := Lib.hid hd
      clear hd hq6
      have hdz : (d : Int) < 36 := by omega
      match m, hm2, hc0, hfr, HF, HLO, HQ with
      | 0, _, hc0, hfr, HF, HLO, HQ =>
        go_wp2
        go_roundw
        case rel =>
          have hp := HF.out.put (by omega) (v := .int .u8 (hexD d).toNat) (by rw [← HQ.out, HD.out])
          refine ⟨1, by omega, by have := HQ.out; (try simp at this); (try simp); omega, by go_num, .inr (by have := HQ.out; omega), ?_⟩
          rw [digAt d hdl]
          exact hp
        case measure => simp [intOf] <;> omega
      | 1, _, hc0, hfr, HF, HLO, HQ =>
        go_wp2
        go_roundw
        case rel =>
          have hp := HF.out.put (by omega) (v := .int .u8 (hexD d).toNat) (by rw [← HQ.out, HD.out])
          refine ⟨2, by omega, by have := HQ.out; (try simp at this); (try simp); omega, by go_num, .inr (by have := HQ.out; omega), ?_⟩
          rw [digAt d hdl]
          exact hp
        case measure => simp [intOf] <;> omega
      | 2, _, hc0, hfr, HF, HLO, HQ =>
        go_wp2
        go_roundw
        case rel =>
          have hp := HF.out.put (by omega) (v := .int .u8 (hexD d).toNat) (by rw [← HQ.out, HD.out])
          refine ⟨3, by omega, by have := HQ.out; (try simp at this); (try simp); omega, by go_num, .inr (by have := HQ.out; omega), ?_⟩
          rw [digAt d hdl]
          exact hp
        case measure => simp [intOf] <;> omega
    · have hlt : (q : Int) < 16 := by omega
      have hlz : (q : Int) < 36 := by omega
      match m, hm, hc0, hfr, HF, HLO, HQ with
      | 0, _, hc0, hfr, HF, HLO, HQ =>
        have hp := HF.out.put (by omega) (v := .int .u8 (hexD q).toNat) (by rw [← HQ.out, Nat.mod_eq_of_lt (by omega)])
        have hk : (convert 52 9 (.slice (some ⟨w.heap.size, 64, none⟩) 1 1)).run Tryz.prog (wr.setCell ⟨w.heap.size, 64, none⟩ (.int .u8 ((ByteArray.mk #[48, 49, 50, 51, 52, 53, 54, 55, 56, 57, 97, 98, 99, 100, 101, 102, 103, 104, 105, 106, 107, 108, 109, 110, 111, 112, 113, 114, 115, 116, 117, 118, 119, 120, 121, 122])[q]'(by show q < 36; omega)).toNat)) = .ok (.string ⟨R.toArray⟩) (wr.setCell ⟨w.heap.size, 64, none⟩ (.int .u8 ((ByteArray.mk #[48, 49, 50, 51, 52, 53, 54, 55, 56, 57, 97, 98, 99, 100, 101, 102, 103, 104, 105, 106, 107, 108, 109, 110, 111, 112, 113, 114, 115, 116, 117, 118, 119, 120, 121, 122])[q]'(by show q < 36; omega)).toNat)) := by
          rw [digAt q (by omega), HR.out, hexN_of HX.out HLO.out (by omega) (by rw [← HQ.out]; omega)]
          exact hp.text (by omega) 1
        have HP := Lib.hid hp.1
        clear hp
        go_wp2
        go_ret2
        rw [digAt q (by omega)]
        exact ⟨rfl, HP.out⟩
      | 1, _, hc0, hfr, HF, HLO, HQ =>
        have hp := HF.out.put (by omega) (v := .int .u8 (hexD q).toNat) (by rw [← HQ.out, Nat.mod_eq_of_lt (by omega)])
        have hk : (convert 52 9 (.slice (some ⟨w.heap.size, 63, none⟩) 2 2)).run Tryz.prog (wr.setCell ⟨w.heap.size, 63, none⟩ (.int .u8 ((ByteArray.mk #[48, 49, 50, 51, 52, 53, 54, 55, 56, 57, 97, 98, 99, 100, 101, 102, 103, 104, 105, 106, 107, 108, 109, 110, 111, 112, 113, 114, 115, 116, 117, 118, 119, 120, 121, 122])[q]'(by show q < 36; omega)).toNat)) = .ok (.string ⟨R.toArray⟩) (wr.setCell ⟨w.heap.size, 63, none⟩ (.int .u8 ((ByteArray.mk #[48, 49, 50, 51, 52, 53, 54, 55, 56, 57, 97, 98, 99, 100, 101, 102, 103, 104, 105, 106, 107, 108, 109, 110, 111, 112, 113, 114, 115, 116, 117, 118, 119, 120, 121, 122])[q]'(by show q < 36; omega)).toNat)) := by
          rw [digAt q (by omega), HR.out, hexN_of HX.out HLO.out (by omega) (by rw [← HQ.out]; omega)]
          exact hp.text (by omega) 2
        have HP := Lib.hid hp.1
        clear hp
        go_wp2
        go_ret2
        rw [digAt q (by omega)]
        exact ⟨rfl, HP.out⟩
      | 2, _, hc0, hfr, HF, HLO, HQ =>
        have hp := HF.out.put (by omega) (v := .int .u8 (hexD q).toNat) (by rw [← HQ.out, Nat.mod_eq_of_lt (by omega)])
        have hk : (convert 52 9 (.slice (some ⟨w.heap.size, 62, none⟩) 3 3)).run Tryz.prog (wr.setCell ⟨w.heap.size, 62, none⟩ (.int .u8 ((ByteArray.mk #[48, 49, 50, 51, 52, 53, 54, 55, 56, 57, 97, 98, 99, 100, 101, 102, 103, 104, 105, 106, 107, 108, 109, 110, 111, 112, 113, 114, 115, 116, 117, 118, 119, 120, 121, 122])[q]'(by show q < 36; omega)).toNat)) = .ok (.string ⟨R.toArray⟩) (wr.setCell ⟨w.heap.size, 62, none⟩ (.int .u8 ((ByteArray.mk #[48, 49, 50, 51, 52, 53, 54, 55, 56, 57, 97, 98, 99, 100, 101, 102, 103, 104, 105, 106, 107, 108, 109, 110, 111, 112, 113, 114, 115, 116, 117, 118, 119, 120, 121, 122])[q]'(by show q < 36; omega)).toNat)) := by
          rw [digAt q (by omega), HR.out, hexN_of HX.out HLO.out (by omega) (by rw [← HQ.out]; omega)]
          exact hp.text (by omega) 3
        have HP := Lib.hid hp.1
        clear hp
        go_wp2
        go_ret2
        rw [digAt q (by omega)]
        exact ⟨rfl, HP.out⟩
      | 3, _, hc0, hfr, HF, HLO, HQ =>
        have hp := HF.out.put (by omega) (v := .int .u8 (hexD q).toNat) (by rw [← HQ.out, Nat.mod_eq_of_lt (by omega)])
        have hk : (convert 52 9 (.slice (some ⟨w.heap.size, 61, none⟩) 4 4)).run Tryz.prog (wr.setCell ⟨w.heap.size, 61, none⟩ (.int .u8 ((ByteArray.mk #[48, 49, 50, 51, 52, 53, 54, 55, 56, 57, 97, 98, 99, 100, 101, 102, 103, 104, 105, 106, 107, 108, 109, 110, 111, 112, 113, 114, 115, 116, 117, 118, 119, 120, 121, 122])[q]'(by show q < 36; omega)).toNat)) = .ok (.string ⟨R.toArray⟩) (wr.setCell ⟨w.heap.size, 61, none⟩ (.int .u8 ((ByteArray.mk #[48, 49, 50, 51, 52, 53, 54, 55, 56, 57, 97, 98, 99, 100, 101, 102, 103, 104, 105, 106, 107, 108, 109, 110, 111, 112, 113, 114, 115, 116, 117, 118, 119, 120, 121, 122])[q]'(by show q < 36; omega)).toNat)) := by
          rw [digAt q (by omega), HR.out, hexN_of HX.out HLO.out (by omega) (by rw [← HQ.out]; omega)]
          exact hp.text (by omega) 4
        have HP := Lib.hid hp.1
        clear hp
        go_wp2
        go_ret2
        rw [digAt q (by omega)]
        exact ⟨rfl, HP.out⟩
end Go.Proofs.YtefnkoofgpmmmaaGreatDoor

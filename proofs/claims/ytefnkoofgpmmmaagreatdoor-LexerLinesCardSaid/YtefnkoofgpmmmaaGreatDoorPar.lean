/- strconv.ParseUint at base 16, 16 bits, of four bytes. -/
import Derived.Test.YtefnkoofgpmmmaaGreatDoorN6
import Derived.Lib.ConvBytes
import Derived.Lib.AtoiErrMem
import Derived.Laws.Closers25b
import Derived.Laws.Strings3
import Derived.Lib.Strings
import Derived.Deep.DeepCutAuto
namespace Go.Proofs.YtefnkoofgpmmmaaGreatDoor
set_option maxRecDepth 100000
open Go.RowKit

theorem lowerC (c : Int) (w : World) : Calls Tryz.prog 236 #[.int .u8 c] w fun e w' => e = .returned (.int .u8 (bits .or .u8 c 32)) ∧ w = w' := by
  go_enter Tryz.func236, Tryz.ntmps236
  go_wp2
  go_ret
  exact ⟨rfl, rfl⟩
theorem or32 (c : UInt8) : bits .or .u8 (c.toNat : Int) 32 = (((c ||| 32).toNat : Nat) : Int) := by
  have := u8_or_nat c.toNat 32 c.toNat_lt (by decide)
  rw [show ((32 : Nat) : Int) = 32 from rfl] at this
  rw [this, UInt8.toNat_or]
  rfl
theorem pH_dig {c : UInt8} (h : 48 ≤ c.toNat ∧ c.toNat ≤ 57) : pH c = some (c.toNat - 48) := by unfold pH; rw [if_pos h]
theorem pH_let {c : UInt8} (h : ¬ (48 ≤ c.toNat ∧ c.toNat ≤ 57)) (h2 : 97 ≤ (c ||| 32).toNat ∧ (c ||| 32).toNat ≤ 102) : pH c = some ((c ||| 32).toNat - 87) := by unfold pH; rw [if_neg h, if_pos h2]
theorem pH_no {c : UInt8} (h : ¬ (48 ≤ c.toNat ∧ c.toNat ≤ 57)) (h2 : ¬ (97 ≤ (c ||| 32).toNat ∧ (c ||| 32).toNat ≤ 102)) : pH c = none := by unfold pH; rw [if_neg h, if_neg h2]
def ParPost (l : List UInt8) (e : Ending) : Prop :=
  e = .returned (match hvL l 0 with
    | some v => .tuple #[.int .u64 (v : Int), .nilIface]
    | none => .tuple #[.int .u64 0, .iface 307 (.int .i64 2)])
set_option maxRecDepth 100000 in
set_option maxHeartbeats 16000000 in
theorem parI (l : List UInt8) (hl : l.length = 4) (w : World) : Calls Tryz.prog 200 #[.string ⟨l.toArray⟩, .int .i64 16, .int .i64 16] w fun e w' => ParPost l e ∧ Below w.heap.size w w' := by
  obtain ⟨t, ht⟩ : ∃ t : ByteArray, t = ⟨l.toArray⟩ := ⟨_, rfl⟩
  have hts : t.size = 4 := by rw [ht]; exact hl
  have hemp : t.toList.isEmpty = false := by
    rw [← decide_eq_emptyBytes]
    exact decide_eq_false (fun h => by rw [h] at hts; exact absurd hts (by decide))
  have hcv := Lib.run_convert_string_bytes (P := Tryz.prog) w 9 52 5 t (u := .string) Tryz.underlying9 Tryz.underlying52 Tryz.underlying5
  have hB : ∀ j, j < 4 → (Lib.bytesWorld w 5 t).cell? ⟨w.heap.size, j, none⟩ = some (.int .u8 (l.getD j 0).toNat) := fun j hj => by
    have := Lib.bytesWorld_cell w 5 t j (by omega)
    rw [this, ht]
  have hW := Lib.hid (Lib.bytesWorld_below w 5 t)
  obtain ⟨W1, hW1⟩ : ∃ W1, W1 = Lib.bytesWorld w 5 t := ⟨_, rfl⟩
  rw [← hW1] at hcv hB hW
  clear hW1
  rw [← ht]
  clear ht
  have hmv : IntKind.u64.wrap (IntKind.u64.wrap 65536 - 1) = 65535 := by
    rw [IntKind.wrap_u64, IntKind.wrap_u64]
    decide
  have hLn := hl
  clear hl
  go_enter Tryz.func200, Tryz.ntmps200
  go_wp2
  generalize hCU : (1152921504606846976 : Int) = CUT
  have HC := Lib.hid (show (65536 : Int) ≤ CUT by omega)
  clear hCU
  go_loop [12, 13, 101] (fun vu vn vi => ∃ (k acc : Nat), vu = .bool false ∧ vn = .int .u64 acc ∧ vi = .int .i64 k ∧ k ≤ 4 ∧ Hid (acc < 16 ^ k ∧ hvL l 0 = hvL (l.drop k) acc))
    (fun _ _ vi => 4 - (intOf vi).toNat)
  case atStart => exact ⟨0, 0, rfl, rfl, rfl, by omega, Lib.hid ⟨by omega, rfl⟩⟩
  case round =>
    obtain ⟨k, acc, rfl, rfl, rfl, hk, hh⟩ := hrel
    by_cases hlt : k < 4
    · have hc := hB k hlt
      have hdrop : l.drop k = l[k]'(by omega) :: l.drop (k + 1) := List.drop_eq_getElem_cons (by omega)
      have hget : l.getD k 0 = l[k]'(by omega) := by simp [List.getD, List.getElem?_eq_getElem (show k < l.length by omega)]
      rw [hdrop] at hh
      rw [hget] at hc
      generalize l[k]'(by omega) = c at hc hh
      have hc256 : c.toNat < 256 := c.toNat_lt
      have hv0 := or32 c
      clear hB hdrop hget
      have hcz : (0 : Int) ≤ (acc : Int) := by omega
      have hac : acc < 4096 := by
        have := hh.out.1
        match k, hlt with
        | 0, _ | 1, _ | 2, _ | 3, _ => omega
      by_cases hdig : 48 ≤ c.toNat ∧ c.toNat ≤ 57
      · have hp := pH_dig hdig
        have HN : Hid (acc * 16 + (c.toNat - 48) < 16 ^ (k + 1) ∧ hvL l 0 = hvL (l.drop (k + 1)) (acc * 16 + (c.toNat - 48))) := Lib.hid ⟨by
          have := hh.out.1
          rw [Nat.pow_succ]; omega, by rw [hh.out.2, hvL, hp]⟩
        obtain ⟨hd0, hd1⟩ := hdig
        clear hh hp hv0
        have hcu : (acc : Int) < CUT := by have := HC.out; omega
        go_wp2
        go_round
        case rel => exact ⟨k + 1, acc * 16 + (c.toNat - 48), rfl, by go_num, by go_num, by omega, HN⟩
        case measure => simp [intOf] <;> omega
      · have hq := pH_let hdig
        have hn := pH_no hdig
        generalize (c ||| 32).toNat = o at hv0 hq hn
        by_cases hlet : 97 ≤ o ∧ o ≤ 102
        · have hp := hq hlet
          have HN : Hid (acc * 16 + (o - 87) < 16 ^ (k + 1) ∧ hvL l 0 = hvL (l.drop (k + 1)) (acc * 16 + (o - 87))) := Lib.hid ⟨by
            have := hh.out.1
            rw [Nat.pow_succ]; omega, by rw [hh.out.2, hvL, hp]⟩
          obtain ⟨hd0, hd1⟩ := hlet
          clear hh hp hq hn
          have hn95 : ¬ (c.toNat : Int) = 95 := fun h => by
            rw [h, show bits .or .u8 95 32 = 127 by decide +kernel] at hv0
            omega
          have hcu : (acc : Int) < CUT := by have := HC.out; omega
          go_wp2_with (go_at_call 236; refine (lowerC _ _).mono ?_; rintro e w' ⟨rfl, rfl⟩)
          all_goals
            go_round
            case rel => exact ⟨k + 1, acc * 16 + (o - 87), rfl, by go_num, by go_num, by omega, HN⟩
            case measure => simp [intOf] <;> omega
        · have hp := hn hlet
          have HP : Hid (hvL l 0 = none) := Lib.hid (by rw [hh.out.2, hvL, hp])
          have hno : ∀ v : Nat, hvL l 0 = some v → False := fun v h => by rw [HP.out] at h; cases h
          clear hh hq hn hp hno
          have h95 : bits .or .u8 95 32 = 127 := by decide +kernel
          go_wp2_with (go_at_call 236; refine (lowerC _ _).mono ?_; rintro e w' ⟨rfl, rfl⟩)
          all_goals
            refine bodyPost_ret (v := .tuple #[.int .u64 0, .iface 307 (.int .i64 2)]) (by simp [results, Tryz.results200, go_sem]) rfl ⟨?_, hW.out⟩
            unfold ParPost
            rw [HP.out]
    · obtain rfl : k = 4 := by omega
      have HP : Hid (hvL l 0 = some acc) := Lib.hid (by rw [hh.out.2, List.drop_eq_nil_of_le (by omega)]; rfl)
      clear hh
      go_wp2
      refine bodyPost_ret (v := .tuple #[.int .u64 (acc : Int), .nilIface]) (by simp [results, Tryz.results200, go_sem]) rfl ⟨?_, hW.out⟩
      unfold ParPost
      rw [HP.out]
end Go.Proofs.YtefnkoofgpmmmaaGreatDoor

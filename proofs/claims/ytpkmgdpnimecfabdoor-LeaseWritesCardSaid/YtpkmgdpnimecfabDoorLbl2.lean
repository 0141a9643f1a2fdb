/- label.Join, Meet, Less and the document's Meet. Conditions: sets are of 16 bits. -/
import Derived.Test.YtpkmgdpnimecfabDoorLbl
import Derived.Deep.DeepCutAuto
namespace Go.Proofs.YtpkmgdpnimecfabDoor
open Go.RowKit

def mAnd (x y : Nat) : Nat := x &&& y
theorem mAnd_testBit (x y i : Nat) : (mAnd x y).testBit i = (x.testBit i && y.testBit i) := by unfold mAnd; exact Nat.testBit_and x y i
theorem mAnd_lt {x y : Nat} (hx : x < 65536) : mAnd x y < 65536 := Nat.lt_of_le_of_lt Nat.and_le_left hx
theorem mOr_lt {x y : Nat} (hx : x < 65536) (hy : y < 65536) : mOr x y < 65536 := Nat.or_lt_two_pow (n := 16) hx hy
def meetLv (a b : Int) : Int := if b < a then b else a

set_option maxHeartbeats 400000 in
theorem labelJoin (a b : Int) (x y : Nat) (hx : x < 65536) (hy : y < 65536) (w : World) :
    Calls Tryd.prog 27 #[(.agg #[.int .i64 (a), .int .u16 ((x : Nat) : Int)]), (.agg #[.int .i64 (b), .int .u16 ((y : Nat) : Int)])] w fun e w' => e = .returned (.agg #[.int .i64 (joinLv a b), .int .u16 ((mOr x y : Nat) : Int)]) ∧ Below w.heap.size w w' := by
  have hm : bits .or .u16 (x : Int) (y : Int) = ((mOr x y : Nat) : Int) := u16_or_nat x y hx hy
  unfold joinLv
  go_enter Tryd.func27, Tryd.ntmps27
  generalize mOr x y = z at hm ⊢
  by_cases h1 : a < b
  · rw [if_pos h1]
    go_wp2
    exact bodyPost_ret (v := (.agg #[.int .i64 (b), .int .u16 ((z : Nat) : Int)])) (by simp [results, Tryd.results27, go_sem]) rfl ⟨rfl, below3 _ _ _ _⟩
  · rw [if_neg h1]
    go_wp2
    exact bodyPost_ret (v := (.agg #[.int .i64 (a), .int .u16 ((z : Nat) : Int)])) (by simp [results, Tryd.results27, go_sem]) rfl ⟨rfl, below3 _ _ _ _⟩

set_option maxHeartbeats 400000 in
theorem labelMeet (a b : Int) (x y : Nat) (hx : x < 65536) (hy : y < 65536) (w : World) :
    Calls Tryd.prog 28 #[(.agg #[.int .i64 (a), .int .u16 ((x : Nat) : Int)]), (.agg #[.int .i64 (b), .int .u16 ((y : Nat) : Int)])] w fun e w' => e = .returned (.agg #[.int .i64 (meetLv a b), .int .u16 ((mAnd x y : Nat) : Int)]) ∧ Below w.heap.size w w' := by
  have hm : bits .and .u16 (x : Int) (y : Int) = ((mAnd x y : Nat) : Int) := u16_and_nat x y hx hy
  unfold meetLv
  go_enter Tryd.func28, Tryd.ntmps28
  generalize mAnd x y = z at hm ⊢
  by_cases h1 : b < a
  · rw [if_pos h1]
    go_wp2
    exact bodyPost_ret (v := (.agg #[.int .i64 (b), .int .u16 ((z : Nat) : Int)])) (by simp [results, Tryd.results28, go_sem]) rfl ⟨rfl, below3 _ _ _ _⟩
  · rw [if_neg h1]
    go_wp2
    exact bodyPost_ret (v := (.agg #[.int .i64 (a), .int .u16 ((z : Nat) : Int)])) (by simp [results, Tryd.results28, go_sem]) rfl ⟨rfl, below3 _ _ _ _⟩

theorem fields26' : Tryd.prog.underlying 26 = some (.struct (Tryd.prog.fieldsOf 26)) := by kernel_rfl
theorem held26 : Tryd.prog.stoodInHeld 26 = false := by kernel_rfl
theorem eqGuard26 : Tryd.prog.eqGuardType Tryd.prog.depth 26 = false := by kernel_rfl
theorem run_eqL (a a' : Int) (x x' : Nat) (w : World) : (binOp .eql 26 (.agg #[.int .i64 (a), .int .u16 ((x : Nat) : Int)]) (.agg #[.int .i64 (a'), .int .u16 ((x' : Nat) : Int)])).run Tryd.prog w = .ok (.bool (a == a' && x == x')) w := by
  have hu := Tryd.underlying3
  have ha := Tryd.isAgg3
  have hz := Tryd.sizeOf3
  have hu2 := Tryd.underlying24
  have ha2 := Tryd.isAgg24
  have hz2 := Tryd.sizeOf24
  rw [run_eql_struct, show (10000 : Nat) = 9999 + 1 from rfl, run_equalIn_agg w 9999 26 _ _ fields26' held26]
  simp only [Program.fieldsOf, Tryd.underlying26]
  go_simp
  have hx : ((x : Int) = (x' : Int)) ↔ x = x' := Int.ofNat_inj
  by_cases h1 : a = a' <;> by_cases h2 : x = x' <;> simp [h1, h2, hx]
theorem run_neqL (a a' : Int) (x x' : Nat) (w : World) : (binOp .neq 26 (.agg #[.int .i64 (a), .int .u16 ((x : Nat) : Int)]) (.agg #[.int .i64 (a'), .int .u16 ((x' : Nat) : Int)])).run Tryd.prog w = .ok (.bool (!(a == a' && x == x'))) w := by
  have hu := Tryd.underlying3
  have ha := Tryd.isAgg3
  have hz := Tryd.sizeOf3
  have hu2 := Tryd.underlying24
  have ha2 := Tryd.isAgg24
  have hz2 := Tryd.sizeOf24
  rw [run_neq_struct, show (10000 : Nat) = 9999 + 1 from rfl, run_equalIn_agg w 9999 26 _ _ fields26' held26]
  simp only [Program.fieldsOf, Tryd.underlying26]
  go_simp
  have hx : ((x : Int) = (x' : Int)) ↔ x = x' := Int.ofNat_inj
  by_cases h1 : a = a' <;> by_cases h2 : x = x' <;> simp [h1, h2, hx]
/-- are two labels the same? -/
def sameB (a : Int) (x : Nat) (b : Int) (y : Nat) : Bool := a == b && x == y
theorem run_eqL' (a a' : Int) (x x' : Nat) (w : World) : (binOp .eql 26 (.agg #[.int .i64 (a), .int .u16 ((x : Nat) : Int)]) (.agg #[.int .i64 (a'), .int .u16 ((x' : Nat) : Int)])).run Tryd.prog w = .ok (.bool (sameB a x a' x')) w := run_eqL a a' x x' w
theorem run_neqL' (a a' : Int) (x x' : Nat) (w : World) : (binOp .neq 26 (.agg #[.int .i64 (a), .int .u16 ((x : Nat) : Int)]) (.agg #[.int .i64 (a'), .int .u16 ((x' : Nat) : Int)])).run Tryd.prog w = .ok (.bool (!sameB a x a' x')) w := run_neqL a a' x x' w
def lessB (a : Int) (x : Nat) (b : Int) (y : Nat) : Bool := leqB a x b y && !sameB a x b y
set_option maxHeartbeats 400000 in
theorem labelLess (a b : Int) (x y : Nat) (hx : x < 65536) (hy : y < 65536) (w : World) :
    Calls Tryd.prog 32 #[(.agg #[.int .i64 (a), .int .u16 ((x : Nat) : Int)]), (.agg #[.int .i64 (b), .int .u16 ((y : Nat) : Int)])] w fun e w' => e = .returned (.bool (lessB a x b y)) ∧ Below w.heap.size w w' := by
  have hE := fun W => run_neqL' a b x y W
  have hgu := eqGuard26
  have q := labelLeq a b x y hx hy ((w.alloc (.cells #[.int .i64 a, .int .u16 (x : Int)] 26)).alloc (.cells #[.int .i64 b, .int .u16 (y : Int)] 26))
  unfold lessB
  generalize leqB a x b y = r at q ⊢
  generalize sameB a x b y = s at hE ⊢
  go_enter Tryd.func32, Tryd.ntmps32
  have hc := below2 w (.cells #[.int .i64 a, .int .u16 (x : Int)] 26) (.cells #[.int .i64 b, .int .u16 (y : Int)] 26)
  have k0 : ((w.alloc (.cells #[.int .i64 a, .int .u16 (x : Int)] 26)).alloc (.cells #[.int .i64 b, .int .u16 (y : Int)] 26)).cell? ⟨w.heap.size, 0, none⟩ = some (.int .i64 a) := by go_simp
  have k1 : ((w.alloc (.cells #[.int .i64 a, .int .u16 (x : Int)] 26)).alloc (.cells #[.int .i64 b, .int .u16 (y : Int)] 26)).cell? ⟨w.heap.size, 1, none⟩ = some (.int .u16 (x : Int)) := by go_simp
  have k2 : ((w.alloc (.cells #[.int .i64 a, .int .u16 (x : Int)] 26)).alloc (.cells #[.int .i64 b, .int .u16 (y : Int)] 26)).cell? ⟨w.heap.size + 1, 0, none⟩ = some (.int .i64 b) := by go_simp
  have k3 : ((w.alloc (.cells #[.int .i64 a, .int .u16 (x : Int)] 26)).alloc (.cells #[.int .i64 b, .int .u16 (y : Int)] 26)).cell? ⟨w.heap.size + 1, 1, none⟩ = some (.int .u16 (y : Int)) := by go_simp
  have kz : w.heap.size + 1 < ((w.alloc (.cells #[.int .i64 a, .int .u16 (x : Int)] 26)).alloc (.cells #[.int .i64 b, .int .u16 (y : Int)] 26)).heap.size := by simp
  go_upto_region 1 with fail
  generalize ((w.alloc (.cells #[.int .i64 a, .int .u16 (x : Int)] 26)).alloc (.cells #[.int .i64 b, .int .u16 (y : Int)] 26)) = W at q hc k0 k1 k2 k3 kz ⊢
  have kz0 : w.heap.size < W.heap.size := by omega
  generalize w.heap.size + 1 = b1 at k2 k3 kz ⊢
  go_wp2_with fail
  refine q.mono ?_
  rintro e w' ⟨rfl, hb⟩
  have j0 := (hb.cell (p := ⟨w.heap.size, 0, none⟩) (by show w.heap.size < _; omega)).trans k0
  have j1 := (hb.cell (p := ⟨w.heap.size, 1, none⟩) (by show w.heap.size < _; omega)).trans k1
  have j2 := (hb.cell (p := ⟨b1, 0, none⟩) kz).trans k2
  have j3 := (hb.cell (p := ⟨b1, 1, none⟩) kz).trans k3
  have jz := hb.size
  have HB := Lib.hid (hc.trans (hb.mono (Nat.le_of_lt kz0)))
  have HBz : b1 < w'.heap.size ∧ w.heap.size < w'.heap.size := by omega
  obtain ⟨z1, z2⟩ := HBz
  clear k0 k1 k2 k3 kz q hb hc jz
  cases r with
  | true =>
    go_wp2
    go_ret
    exact ⟨by simp, HB.out⟩
  | false =>
    go_wp2
    go_ret
    exact ⟨by simp, HB.out⟩
set_option maxHeartbeats 2000000 in
theorem ref01Meet (a b : Int) (x y : Nat) (hx : x < 65536) (hy : y < 65536) (w : World) :
    Calls Tryd.prog 29 #[(.agg #[.int .i64 (a), .int .u16 ((x : Nat) : Int)]), (.agg #[.int .i64 (b), .int .u16 ((y : Nat) : Int)])] w fun e w' => e = .returned (.agg #[.int .i64 (meetLv a b), .int .u16 ((mAnd x y : Nat) : Int)]) ∧ Below w.heap.size w w' := by
  have hz : mAnd x y < 65536 := mAnd_lt hx
  have hb := fun i => mAnd_testBit x y i
  generalize mAnd x y = z at hz hb ⊢
  have HX := Lib.hid hx
  have HY := Lib.hid hy
  have HZ := Lib.hid hz
  have HB := Lib.hid hb
  clear hx hy hz hb
  have hv : ∃ v, meetLv a b = v := ⟨_, rfl⟩
  obtain ⟨v, hv⟩ := hv
  rw [hv]
  have HV := Lib.hid hv
  clear hv
  go_enter Tryd.func29, Tryd.ntmps29
  by_cases h1 : b < a
  all_goals
    go_wp2
    go_loopw [6] (fun i wr => ∃ j : Nat, j ≤ 16 ∧ i = .int .i64 j ∧ AccAt w wr x y v (z % 2 ^ j)) (fun i _ => 16 - (intOf i).toNat)
    case atStart =>
      refine ⟨0, by omega, rfl, below4 _ _ _ _ _, by simp, ?_⟩
      have hv : v = _ := HV.out.symm
      first | rw [meetLv, if_pos h1] at hv | rw [meetLv, if_neg (by omega)] at hv
      subst hv
      rw [Nat.pow_zero, Nat.mod_one]
      refine ⟨by go_simp, by go_simp, by go_simp, by go_simp, by go_simp, by go_simp, by go_simp, ⟨.int .i64 0, by go_simp⟩, ⟨.int .u16 0, by go_simp⟩⟩
    case round =>
      obtain ⟨j, hj, rfl, hacc⟩ := hrel
      have HR := Lib.hid hacc
      obtain ⟨hB, hS, c0, c1, c2, c3, f3, f4, f5, ⟨o1, c4⟩, ⟨o2, c5⟩⟩ := hacc
      have HB' := Lib.hid hB
      clear hB
      by_cases hlt : j < 16
      · cases e1 : x.testBit j
        · go_wp2_with (go_at_call 73; with_reducible refine (bit01 x j HX.out hlt _).mono ?_; rw [e1]; rintro e w' ⟨rfl, rfl⟩)
          go_roundw
          case rel =>
            have hq : AccAt w wr x y v (z % 2 ^ (j + 1)) := by rw [mod_step, HB.out, e1]; exact HR.out
            first | exact ⟨j + 1, by omega, by go_num, hq⟩ | ((repeat apply Exists.intro); exact ⟨⟨j + 1, by omega, by go_num, hq⟩, rfl⟩)
          case measure => simp [intOf] <;> omega
        · cases e2 : y.testBit j
          · go_wp2_with (first | (go_at_call 73; with_reducible refine (bit01 x j HX.out hlt _).mono ?_; rw [e1]; rintro e w' ⟨rfl, rfl⟩) | (go_at_call 73; with_reducible refine (bit01 y j HY.out hlt _).mono ?_; rw [e2]; rintro e w' ⟨rfl, rfl⟩))
            go_roundw
            case rel =>
              have hq : AccAt w wr x y v (z % 2 ^ (j + 1)) := by rw [mod_step, HB.out, e1, e2]; exact HR.out
              first | exact ⟨j + 1, by omega, by go_num, hq⟩ | ((repeat apply Exists.intro); exact ⟨⟨j + 1, by omega, by go_num, hq⟩, rfl⟩)
            case measure => simp [intOf] <;> omega
          · have hs := setstep hlt HZ.out (by rw [HB.out, e1, e2]; rfl)
            obtain ⟨q, hq⟩ : ∃ q, z % 2 ^ j = q := ⟨_, rfl⟩
            obtain ⟨q', hq'⟩ : ∃ q, z % 2 ^ (j + 1) = q := ⟨_, rfl⟩
            rw [hq, hq'] at hs
            rw [hq] at c3
            clear hq
            go_wp2_with (first | (go_at_call 73; with_reducible refine (bit01 x j HX.out hlt _).mono ?_; rw [e1]; rintro e w' ⟨rfl, rfl⟩) | (go_at_call 73; with_reducible refine (bit01 y j HY.out hlt _).mono ?_; rw [e2]; rintro e w' ⟨rfl, rfl⟩))
            go_region
            go_wp2
            go_roundw
            case rel =>
              have hacc : AccAt w (wr.setCell ⟨w.heap.size + 1 + 1 + 1, 1, none⟩ (.int .u16 (q' : Int))).drew x y v (z % 2 ^ (j + 1)) := by
                rw [hq']
                refine ⟨(HB'.out.setCell (by simp; omega) _).drew, by simpa using hS, by go_simp, by go_simp, by go_simp, by go_simp, by go_simp, by go_simp, by go_simp, ⟨o1, by go_simp⟩, ⟨o2, by go_simp⟩⟩
              first | exact ⟨j + 1, by omega, by go_num, hacc⟩ | ((repeat apply Exists.intro); exact ⟨⟨j + 1, by omega, by go_num, hacc⟩, rfl⟩) | trace_state
            case measure => simp [intOf] <;> omega
      · obtain rfl : j = 16 := by omega
        rw [show z % 2 ^ 16 = z from Nat.mod_eq_of_lt HZ.out] at c3
        go_wp2
        exact bodyPost_ret (v := (.agg #[.int .i64 (v), .int .u16 ((z : Nat) : Int)])) (by simp [results, Tryd.results29, go_sem, c4, c5]) rfl ⟨rfl, (HB'.out.setCell (by simp; omega) _).setCell (by simp; omega) _⟩
end Go.Proofs.YtpkmgdpnimecfabDoor

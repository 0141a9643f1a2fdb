/- What the functions of package label and the document's label functions give back. Conditions: sets are of 16 bits. -/
import Derived.Test.YtbbcicengfmhiaaDoorRows
import Derived.Test.YtbbcicengfmhiaaDoorLRt
import Derived.WalkKit
import Derived.WalkSpells
import Derived.WalkLawsBesides
import Derived.Laws.StructEq
import Derived.Laws.BitsAllLaws
import Derived.Lib.Hide
import Derived.Deep.QuietTactic
import Derived.BigQuiet
import Derived.RegionTactic
import Derived.ChangeAlike
import Derived.BigRegion
namespace Go.Proofs.YtbbcicengfmhiaaDoor
open Go.RowKit

/-- what of the one isn't in the other -/
def mNot (a b : Nat) : Nat := a &&& (65535 - b)
theorem mNot_testBit {a b : Nat} (ha : a < 65536) (hb : b < 65536) (i : Nat) : (mNot a b).testBit i = (a.testBit i && !b.testBit i) := by
  rw [mNot, Nat.testBit_and, show 65535 - b = 2 ^ 16 - (b + 1) by omega, Nat.testBit_two_pow_sub_succ (by omega)]
  by_cases h : i < 16
  · simp [h]
  · have : a.testBit i = false := Nat.testBit_lt_two_pow (Nat.lt_of_lt_of_le ha (by rw [show 65536 = 2 ^ 16 from rfl]; exact Nat.pow_le_pow_right (by decide) (by omega)))
    simp [this]
theorem mNot_lt {a b : Nat} (ha : a < 65536) : mNot a b < 65536 := Nat.lt_of_le_of_lt Nat.and_le_left ha
def leqB (a : Int) (x : Nat) (b : Int) (y : Nat) : Bool := decide (a ≤ b) && mNot x y == 0
/-- a set's first bits -/
theorem mod_step (x i : Nat) : x % 2 ^ (i + 1) = x % 2 ^ i + (if x.testBit i then 2 ^ i else 0) := by
  rw [Nat.mod_pow_succ, Nat.testBit_eq_decide_div_mod_eq]
  have : x / 2 ^ i % 2 = 0 ∨ x / 2 ^ i % 2 = 1 := by omega
  rcases this with h | h <;> simp [h]

set_option maxHeartbeats 400000 in
theorem labelLeq (a b : Int) (x y : Nat) (hx : x < 65536) (hy : y < 65536) (w : World) :
    Calls Tryd.prog 117 #[(.agg #[.int .i64 (a), .int .u16 ((x : Nat) : Int)]), (.agg #[.int .i64 (b), .int .u16 ((y : Nat) : Int)])] w fun e w' => e = .returned (.bool (leqB a x b y)) ∧ Below w.heap.size w w' := by
  have hm : bits .andNot .u16 (x : Int) (y : Int) = ((mNot x y : Nat) : Int) := u16_andNot_nat x y hx hy
  unfold leqB
  go_enter Tryd.func117, Tryd.ntmps117
  generalize mNot x y = z at hm ⊢
  have hz : ((z : Int) == 0) = (z == 0) := by cases z <;> rfl
  cases h1 : decide (a ≤ b)
  all_goals
    go_wp2
    go_ret
    refine ⟨?_, below2 _ _ _⟩
    first | rfl | (simp [hz]; done) | trace_state

set_option maxHeartbeats 400000 in
theorem labelOver (a b : Int) (x y : Nat) (hx : x < 65536) (hy : y < 65536) (w : World) :
    Calls Tryd.prog 118 #[(.agg #[.int .i64 (a), .int .u16 ((x : Nat) : Int)]), (.agg #[.int .i64 (b), .int .u16 ((y : Nat) : Int)])] w fun e w' => e = .returned (.bool (leqB b y a x)) ∧ Below w.heap.size w w' := by
  go_enter Tryd.func118, Tryd.ntmps118
  go_wp2_with (go_at_call 117; refine (labelLeq b a y x hy hx _).mono ?_; rintro e w' ⟨rfl, hb⟩)
  go_ret
  refine ⟨rfl, (below2 _ _ _).trans (hb.mono (by simp; omega))⟩

def offLv (a b : Int) : Int := if b < a then a else 0
set_option maxHeartbeats 400000 in
theorem labelOff (a b : Int) (x y : Nat) (hx : x < 65536) (hy : y < 65536) (w : World) :
    Calls Tryd.prog 119 #[(.agg #[.int .i64 (a), .int .u16 ((x : Nat) : Int)]), (.agg #[.int .i64 (b), .int .u16 ((y : Nat) : Int)])] w fun e w' => e = .returned (.agg #[.int .i64 (offLv a b), .int .u16 ((mNot x y : Nat) : Int)]) ∧ Below w.heap.size w w' := by
  have hm : bits .andNot .u16 (x : Int) (y : Int) = ((mNot x y : Nat) : Int) := u16_andNot_nat x y hx hy
  unfold offLv
  go_enter Tryd.func119, Tryd.ntmps119
  generalize mNot x y = z at hm ⊢
  by_cases h1 : b < a
  · rw [if_pos h1]
    go_wp2
    exact bodyPost_ret (v := (.agg #[.int .i64 (a), .int .u16 ((z : Nat) : Int)])) (by simp [results, Tryd.results119, go_sem]) rfl ⟨rfl, below4 _ _ _ _ _⟩
  · rw [if_neg h1]
    go_wp2
    exact bodyPost_ret (v := (.agg #[.int .i64 (0), .int .u16 ((z : Nat) : Int)])) (by simp [results, Tryd.results119, go_sem]) rfl ⟨rfl, below4 _ _ _ _ _⟩

set_option maxHeartbeats 400000 in
theorem bit01 (x i : Nat) (hx : x < 65536) (hi : i < 16) (w : World) :
    Calls Tryd.prog 74 #[.int .u16 (x : Int), .int .i64 (i : Int)] w fun e w' => e = .returned (.bool (x.testBit i)) ∧ w = w' := by
  go_enter Tryd.func74, Tryd.ntmps74
  go_wp2
  go_ret
  refine ⟨?_, rfl⟩
  rw [Nat.testBit_eq_decide_div_mod_eq, show ((x : Int) / 2 ^ i).tmod 2 = ((x / 2 ^ i % 2 : Nat) : Int) by rw [Int.tmod_eq_emod_of_nonneg (Int.ediv_nonneg (by omega) (Int.pow_nonneg (by omega)))]; simp]
  generalize x / 2 ^ i % 2 = z
  by_cases h : z = 1
  · subst h; rfl
  · have h2 : ((z : Int) == 1) = false := by simp; omega
    simp [h, h2]


theorem leqBits {x y : Nat} (hx : x < 65536) (hy : y < 65536) (h : ∀ i, i < 16 → (x.testBit i && !y.testBit i) = false) : (mNot x y == 0) = true := by
  have : mNot x y = 0 := by
    apply Nat.eq_of_testBit_eq
    intro i
    rw [mNot_testBit hx hy, Nat.zero_testBit]
    by_cases hi : i < 16
    · exact h i hi
    · have : x.testBit i = false := Nat.testBit_lt_two_pow (Nat.lt_of_lt_of_le hx (by rw [show 65536 = 2 ^ 16 from rfl]; exact Nat.pow_le_pow_right (by decide) (by omega)))
      simp [this]
  simp [this]
theorem leqBits_no {x y i : Nat} (hx : x < 65536) (hy : y < 65536) (h : (x.testBit i && !y.testBit i) = true) : (mNot x y == 0) = false := by
  have : mNot x y ≠ 0 := by
    intro e
    have := mNot_testBit hx hy i
    rw [e, h] at this
    simp at this
  simpa using this

theorem leqB_no {a b : Int} {x y i : Nat} (hx : x < 65536) (hy : y < 65536) (h : (x.testBit i && !y.testBit i) = true) : leqB a x b y = false := by rw [leqB, leqBits_no hx hy h, Bool.and_false]
theorem leqB_yes {a b : Int} {x y : Nat} (hx : x < 65536) (hy : y < 65536) (h : ∀ i, i < 16 → (x.testBit i && !y.testBit i) = false) : leqB a x b y = decide (a ≤ b) := by rw [leqB, leqBits hx hy h, Bool.and_true]

set_option maxHeartbeats 1000000 in
theorem ref01Leq (a b : Int) (x y : Nat) (hx : x < 65536) (hy : y < 65536) (w : World) :
    Calls Tryd.prog 16 #[(.agg #[.int .i64 (a), .int .u16 ((x : Nat) : Int)]), (.agg #[.int .i64 (b), .int .u16 ((y : Nat) : Int)])] w fun e w' => e = .returned (.bool (leqB a x b y)) ∧ Below w.heap.size w w' := by
  have HX := Lib.hid hx
  have HY := Lib.hid hy
  have H1 := Lib.hid (fun i => leqB_no (a := a) (b := b) (i := i) hx hy)
  have H2 := Lib.hid (leqB_yes (a := a) (b := b) hx hy)
  generalize leqB a x b y = r at H1 H2 ⊢
  clear hx hy
  go_enter Tryd.func16, Tryd.ntmps16
  go_wp2
  go_loop [5] (fun i => ∃ j : Nat, j ≤ 16 ∧ i = .int .i64 j ∧ ∀ k, k < j → (x.testBit k && !y.testBit k) = false) (fun i => 16 - (intOf i).toNat)
  case atStart => exact ⟨0, by omega, rfl, fun k hk => absurd hk (by omega)⟩
  case round =>
    obtain ⟨j, hj, rfl, hall⟩ := hrel
    have HA := Lib.hid hall
    clear hall
    by_cases hlt : j < 16
    · cases e1 : x.testBit j
      · go_wp2_with (go_at_call 74; with_reducible refine (bit01 x j HX.out hlt _).mono ?_; rw [e1]; rintro e w' ⟨rfl, rfl⟩)
        go_round
        case rel => exact ⟨j + 1, by omega, by go_num, fun k hk => by by_cases e : k = j; (subst e; simp [e1]); exact HA.out k (by omega)⟩
        case measure => simp [intOf] <;> omega
      · cases e2 : y.testBit j
        · go_wp2_with (first | (go_at_call 74; with_reducible refine (bit01 x j HX.out hlt _).mono ?_; rw [e1]; rintro e w' ⟨rfl, rfl⟩) | (go_at_call 74; with_reducible refine (bit01 y j HY.out hlt _).mono ?_; rw [e2]; rintro e w' ⟨rfl, rfl⟩))
          go_ret
          refine ⟨?_, below2 _ _ _⟩
          rw [H1.out j (by simp [e1, e2])]
          rfl
        · go_wp2_with (first | (go_at_call 74; with_reducible refine (bit01 x j HX.out hlt _).mono ?_; rw [e1]; rintro e w' ⟨rfl, rfl⟩) | (go_at_call 74; with_reducible refine (bit01 y j HY.out hlt _).mono ?_; rw [e2]; rintro e w' ⟨rfl, rfl⟩))
          go_round
          case rel => exact ⟨j + 1, by omega, by go_num, fun k hk => by by_cases e : k = j; (subst e; simp [e2]); exact HA.out k (by omega)⟩
          case measure => simp [intOf] <;> omega
    · obtain rfl : j = 16 := by omega
      obtain rfl := H2.out HA.out
      cases h1 : decide (a ≤ b)
      all_goals
        go_wp2
        go_ret
        exact ⟨rfl, below2 _ _ _⟩

theorem setstep {z j : Nat} (hj : j < 16) (hz : z < 65536) (h : z.testBit j = true) : IntKind.u16.wrap (((z % 2 ^ j : Nat) : Int) + IntKind.u16.wrap ((2 : Int) ^ j)) = ((z % 2 ^ (j + 1) : Nat) : Int) := by
  have hp : IntKind.u16.wrap ((2 : Int) ^ j) = (2 : Int) ^ j := by
    have h2 : (2 : Nat) ^ j < 65536 := by rw [show 65536 = 2 ^ 16 from rfl]; exact Nat.pow_lt_pow_right (by decide) hj
    rw [show (2 : Int) ^ j = ((2 ^ j : Nat) : Int) by simp]
    generalize 2 ^ j = q at h2 ⊢
    simp [IntKind.wrap, IntKind.signed, IntKind.bits]
    omega
  rw [hp]
  have e : z % 2 ^ (j + 1) = z % 2 ^ j + 2 ^ j := by rw [mod_step, h]; simp
  have h1 : z % 2 ^ (j + 1) < 65536 := Nat.lt_of_le_of_lt (Nat.mod_le _ _) hz
  have e2 : (((z % 2 ^ j : Nat) : Int) + (2 : Int) ^ j) = ((z % 2 ^ (j + 1) : Nat) : Int) := by rw [e]; simp
  rw [e2]
  generalize z % 2 ^ (j + 1) = q at h1 ⊢
  simp [IntKind.wrap, IntKind.signed, IntKind.bits]
  omega
/-- what an accumulating loop over 16 bits holds -/
def AccAt (w wr : World) (x y : Nat) (v : Int) (q : Nat) : Prop :=
  Below w.heap.size w wr ∧ wr.heap.size = w.heap.size + 4 ∧ wr.cell? ⟨w.heap.size, 1, none⟩ = some (.int .u16 (x : Int)) ∧ wr.cell? ⟨w.heap.size + 1, 1, none⟩ = some (.int .u16 (y : Int)) ∧
  wr.cell? ⟨w.heap.size + 1 + 1 + 1, 0, none⟩ = some (.int .i64 v) ∧ wr.cell? ⟨w.heap.size + 1 + 1 + 1, 1, none⟩ = some (.int .u16 (q : Int)) ∧
  wr.frozen? ⟨w.heap.size + 1 + 1 + 1, 1, none⟩ = false ∧ wr.frozen? ⟨w.heap.size + 1 + 1, 0, none⟩ = false ∧ wr.frozen? ⟨w.heap.size + 1 + 1, 1, none⟩ = false ∧
  (∃ c, wr.cell? ⟨w.heap.size + 1 + 1, 0, none⟩ = some c) ∧ (∃ c, wr.cell? ⟨w.heap.size + 1 + 1, 1, none⟩ = some c)

set_option maxHeartbeats 2000000 in
theorem ref01Off (a b : Int) (x y : Nat) (hx : x < 65536) (hy : y < 65536) (w : World) :
    Calls Tryd.prog 18 #[(.agg #[.int .i64 (a), .int .u16 ((x : Nat) : Int)]), (.agg #[.int .i64 (b), .int .u16 ((y : Nat) : Int)])] w fun e w' => e = .returned (.agg #[.int .i64 (offLv a b), .int .u16 ((mNot x y : Nat) : Int)]) ∧ Below w.heap.size w w' := by
  have hz : mNot x y < 65536 := mNot_lt hx
  have hb := fun i => mNot_testBit hx hy i
  generalize mNot x y = z at hz hb ⊢
  have HX := Lib.hid hx
  have HY := Lib.hid hy
  have HZ := Lib.hid hz
  have HB := Lib.hid hb
  clear hx hy hz hb
  have hv : ∃ v, offLv a b = v := ⟨_, rfl⟩
  obtain ⟨v, hv⟩ := hv
  rw [hv]
  have HV := Lib.hid hv
  clear hv
  go_enter Tryd.func18, Tryd.ntmps18
  by_cases h1 : b < a
  all_goals
    go_wp2
    go_loopw [6] (fun i wr => ∃ j : Nat, j ≤ 16 ∧ i = .int .i64 j ∧ AccAt w wr x y v (z % 2 ^ j)) (fun i _ => 16 - (intOf i).toNat)
    case atStart =>
      refine ⟨0, by omega, rfl, below4 _ _ _ _ _, by simp, ?_⟩
      have hv : v = _ := HV.out.symm
      first | rw [offLv, if_pos h1] at hv | rw [offLv, if_neg (by omega)] at hv
      subst hv
      rw [Nat.pow_zero, Nat.mod_one]
      refine ⟨by go_simp, by go_simp, by go_simp, by go_simp, by go_simp, by go_simp, by go_simp, ⟨.int .i64 0, by go_simp⟩, ⟨.int .u16 0, by go_simp⟩⟩
    case round =>
      obtain ⟨j, hj, rfl, hacc⟩ := hrel
      have HR := Lib.hid hacc
      obtain ⟨hB, hS, c0, c1, c2, c3, f3, f4, f5, ⟨o1, c4⟩, ⟨o2, c5⟩⟩ := hacc
      have HB' := Lib.hid hB
      clear hB
      by_cases hlt : j < 16
      · cases e1 : x.testBit j
        · go_wp2_with (go_at_call 74; with_reducible refine (bit01 x j HX.out hlt _).mono ?_; rw [e1]; rintro e w' ⟨rfl, rfl⟩)
          go_roundw
          case rel =>
            have hq : AccAt w wr x y v (z % 2 ^ (j + 1)) := by rw [mod_step, HB.out, e1]; exact HR.out
            first | exact ⟨j + 1, by omega, by go_num, hq⟩ | ((repeat apply Exists.intro); exact ⟨⟨j + 1, by omega, by go_num, hq⟩, rfl⟩)
          case measure => simp [intOf] <;> omega
        · cases e2 : y.testBit j
          · have hs := setstep hlt HZ.out (by rw [HB.out, e1, e2]; rfl)
            obtain ⟨q, hq⟩ : ∃ q, z % 2 ^ j = q := ⟨_, rfl⟩
            obtain ⟨q', hq'⟩ : ∃ q, z % 2 ^ (j + 1) = q := ⟨_, rfl⟩
            rw [hq, hq'] at hs
            rw [hq] at c3
            clear hq
            go_wp2_with (first | (go_at_call 74; with_reducible refine (bit01 x j HX.out hlt _).mono ?_; rw [e1]; rintro e w' ⟨rfl, rfl⟩) | (go_at_call 74; with_reducible refine (bit01 y j HY.out hlt _).mono ?_; rw [e2]; rintro e w' ⟨rfl, rfl⟩))
            go_region
            go_wp2
            go_roundw
            case rel =>
              have hacc : AccAt w (wr.setCell ⟨w.heap.size + 1 + 1 + 1, 1, none⟩ (.int .u16 (q' : Int))).drew x y v (z % 2 ^ (j + 1)) := by
                rw [hq']
                refine ⟨(HB'.out.setCell (by simp; omega) _).drew, by simpa using hS, by go_simp, by go_simp, by go_simp, by go_simp, by go_simp, by go_simp, by go_simp, ⟨o1, by go_simp⟩, ⟨o2, by go_simp⟩⟩
              first | exact ⟨j + 1, by omega, by go_num, hacc⟩ | ((repeat apply Exists.intro); exact ⟨⟨j + 1, by omega, by go_num, hacc⟩, rfl⟩) | trace_state
            case measure => simp [intOf] <;> omega
          · go_wp2_with (first | (go_at_call 74; with_reducible refine (bit01 x j HX.out hlt _).mono ?_; rw [e1]; rintro e w' ⟨rfl, rfl⟩) | (go_at_call 74; with_reducible refine (bit01 y j HY.out hlt _).mono ?_; rw [e2]; rintro e w' ⟨rfl, rfl⟩))
            go_roundw
            case rel =>
              have hq : AccAt w wr x y v (z % 2 ^ (j + 1)) := by rw [mod_step, HB.out, e1, e2]; exact HR.out
              first | exact ⟨j + 1, by omega, by go_num, hq⟩ | ((repeat apply Exists.intro); exact ⟨⟨j + 1, by omega, by go_num, hq⟩, rfl⟩)
            case measure => simp [intOf] <;> omega
      · obtain rfl : j = 16 := by omega
        rw [show z % 2 ^ 16 = z from Nat.mod_eq_of_lt HZ.out] at c3
        go_wp2
        exact bodyPost_ret (v := (.agg #[.int .i64 (v), .int .u16 ((z : Nat) : Int)])) (by simp [results, Tryd.results18, go_sem, c4, c5]) rfl ⟨rfl, (HB'.out.setCell (by simp; omega) _).setCell (by simp; omega) _⟩
def mOr (x y : Nat) : Nat := x ||| y
theorem mOr_testBit (x y i : Nat) : (mOr x y).testBit i = (x.testBit i || y.testBit i) := by unfold mOr; exact Nat.testBit_or x y i
def joinLv (a b : Int) : Int := if a < b then b else a
set_option maxHeartbeats 2000000 in
theorem ref01Join (a b : Int) (x y : Nat) (hx : x < 65536) (hy : y < 65536) (w : World) :
    Calls Tryd.prog 19 #[(.agg #[.int .i64 (a), .int .u16 ((x : Nat) : Int)]), (.agg #[.int .i64 (b), .int .u16 ((y : Nat) : Int)])] w fun e w' => e = .returned (.agg #[.int .i64 (joinLv a b), .int .u16 ((mOr x y : Nat) : Int)]) ∧ Below w.heap.size w w' := by
  have hz : mOr x y < 65536 := by unfold mOr; exact Nat.or_lt_two_pow (n := 16) hx hy
  have hb := fun i => mOr_testBit x y i
  generalize mOr x y = z at hz hb ⊢
  have HX := Lib.hid hx
  have HY := Lib.hid hy
  have HZ := Lib.hid hz
  have HB := Lib.hid hb
  clear hx hy hz hb
  have hv : ∃ v, joinLv a b = v := ⟨_, rfl⟩
  obtain ⟨v, hv⟩ := hv
  rw [hv]
  have HV := Lib.hid hv
  clear hv
  go_enter Tryd.func19, Tryd.ntmps19
  by_cases h1 : a < b
  all_goals
    go_wp2
    go_loopw [6] (fun i wr => ∃ j : Nat, j ≤ 16 ∧ i = .int .i64 j ∧ AccAt w wr x y v (z % 2 ^ j)) (fun i _ => 16 - (intOf i).toNat)
    case atStart =>
      refine ⟨0, by omega, rfl, below4 _ _ _ _ _, by simp, ?_⟩
      have hv : v = _ := HV.out.symm
      first | rw [joinLv, if_pos h1] at hv | rw [joinLv, if_neg (by omega)] at hv
      subst hv
      rw [Nat.pow_zero, Nat.mod_one]
      refine ⟨by go_simp, by go_simp, by go_simp, by go_simp, by go_simp, by go_simp, by go_simp, ⟨.int .i64 0, by go_simp⟩, ⟨.int .u16 0, by go_simp⟩⟩
    case round =>
      obtain ⟨j, hj, rfl, hacc⟩ := hrel
      have HR := Lib.hid hacc
      obtain ⟨hB, hS, c0, c1, c2, c3, f3, f4, f5, ⟨o1, c4⟩, ⟨o2, c5⟩⟩ := hacc
      have HB' := Lib.hid hB
      clear hB
      by_cases hlt : j < 16
      · cases e2 : y.testBit j
        · cases e1 : x.testBit j
          · go_wp2_with (first | (go_at_call 74; with_reducible refine (bit01 x j HX.out hlt _).mono ?_; rw [e1]; rintro e w' ⟨rfl, rfl⟩) | (go_at_call 74; with_reducible refine (bit01 y j HY.out hlt _).mono ?_; rw [e2]; rintro e w' ⟨rfl, rfl⟩))
            go_roundw
            case rel =>
              have hq : AccAt w wr x y v (z % 2 ^ (j + 1)) := by rw [mod_step, HB.out, e1, e2]; exact HR.out
              first | exact ⟨j + 1, by omega, by go_num, hq⟩ | ((repeat apply Exists.intro); exact ⟨⟨j + 1, by omega, by go_num, hq⟩, rfl⟩)
            case measure => simp [intOf] <;> omega
          · have hs := setstep hlt HZ.out (by rw [HB.out, e1, e2]; rfl)
            obtain ⟨q, hq⟩ : ∃ q, z % 2 ^ j = q := ⟨_, rfl⟩
            obtain ⟨q', hq'⟩ : ∃ q, z % 2 ^ (j + 1) = q := ⟨_, rfl⟩
            rw [hq, hq'] at hs
            rw [hq] at c3
            clear hq
            go_wp2_with (first | (go_at_call 74; with_reducible refine (bit01 x j HX.out hlt _).mono ?_; rw [e1]; rintro e w' ⟨rfl, rfl⟩) | (go_at_call 74; with_reducible refine (bit01 y j HY.out hlt _).mono ?_; rw [e2]; rintro e w' ⟨rfl, rfl⟩))
            go_region
            go_wp2
            go_roundw
            case rel =>
              have hacc : AccAt w (wr.setCell ⟨w.heap.size + 1 + 1 + 1, 1, none⟩ (.int .u16 (q' : Int))).drew x y v (z % 2 ^ (j + 1)) := by
                rw [hq']
                refine ⟨(HB'.out.setCell (by simp; omega) _).drew, by simpa using hS, by go_simp, by go_simp, by go_simp, by go_simp, by go_simp, by go_simp, by go_simp, ⟨o1, by go_simp⟩, ⟨o2, by go_simp⟩⟩
              first | exact ⟨j + 1, by omega, by go_num, hacc⟩ | ((repeat apply Exists.intro); exact ⟨⟨j + 1, by omega, by go_num, hacc⟩, rfl⟩)
            case measure => simp [intOf] <;> omega
        · cases e1 : x.testBit j
          · have hs := setstep hlt HZ.out (by rw [HB.out, e1, e2]; rfl)
            obtain ⟨q, hq⟩ : ∃ q, z % 2 ^ j = q := ⟨_, rfl⟩
            obtain ⟨q', hq'⟩ : ∃ q, z % 2 ^ (j + 1) = q := ⟨_, rfl⟩
            rw [hq, hq'] at hs
            rw [hq] at c3
            clear hq
            go_wp2_with (first | (go_at_call 74; with_reducible refine (bit01 x j HX.out hlt _).mono ?_; rw [e1]; rintro e w' ⟨rfl, rfl⟩) | (go_at_call 74; with_reducible refine (bit01 y j HY.out hlt _).mono ?_; rw [e2]; rintro e w' ⟨rfl, rfl⟩))
            go_region
            go_wp2
            go_roundw
            case rel =>
              have hacc : AccAt w (wr.setCell ⟨w.heap.size + 1 + 1 + 1, 1, none⟩ (.int .u16 (q' : Int))).drew x y v (z % 2 ^ (j + 1)) := by
                rw [hq']
                refine ⟨(HB'.out.setCell (by simp; omega) _).drew, by simpa using hS, by go_simp, by go_simp, by go_simp, by go_simp, by go_simp, by go_simp, by go_simp, ⟨o1, by go_simp⟩, ⟨o2, by go_simp⟩⟩
              first | exact ⟨j + 1, by omega, by go_num, hacc⟩ | ((repeat apply Exists.intro); exact ⟨⟨j + 1, by omega, by go_num, hacc⟩, rfl⟩)
            case measure => simp [intOf] <;> omega
          · have hs := setstep hlt HZ.out (by rw [HB.out, e1, e2]; rfl)
            obtain ⟨q, hq⟩ : ∃ q, z % 2 ^ j = q := ⟨_, rfl⟩
            obtain ⟨q', hq'⟩ : ∃ q, z % 2 ^ (j + 1) = q := ⟨_, rfl⟩
            rw [hq, hq'] at hs
            rw [hq] at c3
            clear hq
            go_wp2_with (first | (go_at_call 74; with_reducible refine (bit01 x j HX.out hlt _).mono ?_; rw [e1]; rintro e w' ⟨rfl, rfl⟩) | (go_at_call 74; with_reducible refine (bit01 y j HY.out hlt _).mono ?_; rw [e2]; rintro e w' ⟨rfl, rfl⟩))
            go_region
            go_wp2
            go_roundw
            case rel =>
              have hacc : AccAt w (wr.setCell ⟨w.heap.size + 1 + 1 + 1, 1, none⟩ (.int .u16 (q' : Int))).drew x y v (z % 2 ^ (j + 1)) := by
                rw [hq']
                refine ⟨(HB'.out.setCell (by simp; omega) _).drew, by simpa using hS, by go_simp, by go_simp, by go_simp, by go_simp, by go_simp, by go_simp, by go_simp, ⟨o1, by go_simp⟩, ⟨o2, by go_simp⟩⟩
              first | exact ⟨j + 1, by omega, by go_num, hacc⟩ | ((repeat apply Exists.intro); exact ⟨⟨j + 1, by omega, by go_num, hacc⟩, rfl⟩)
            case measure => simp [intOf] <;> omega
      · obtain rfl : j = 16 := by omega
        rw [show z % 2 ^ 16 = z from Nat.mod_eq_of_lt HZ.out] at c3
        go_wp2
        exact bodyPost_ret (v := (.agg #[.int .i64 (v), .int .u16 ((z : Nat) : Int)])) (by simp [results, Tryd.results19, go_sem, c4, c5]) rfl ⟨rfl, (HB'.out.setCell (by simp; omega) _).setCell (by simp; omega) _⟩
end Go.Proofs.YtbbcicengfmhiaaDoor

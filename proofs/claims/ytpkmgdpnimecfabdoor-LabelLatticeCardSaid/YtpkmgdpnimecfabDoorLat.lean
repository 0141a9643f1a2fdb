/- Plain laws of labels: the order, what joins, what meets, what is taken off. Sets are Nats below 65536. No program here. -/
import Derived.Test.YtpkmgdpnimecfabDoorLbl2
namespace Go.Proofs.YtpkmgdpnimecfabDoor

theorem leqB_bits {a b : Int} {x y : Nat} (hx : x < 65536) (hy : y < 65536) : leqB a x b y = true ↔ a ≤ b ∧ ∀ i, i < 16 → (x.testBit i && !y.testBit i) = false := by
  constructor
  · intro h
    refine ⟨?_, fun i _ => ?_⟩
    · simp only [leqB, Bool.and_eq_true, decide_eq_true_eq] at h; exact h.1
    · cases hq : (x.testBit i && !y.testBit i) with
      | false => rfl
      | true => rw [leqB_no hx hy hq] at h; cases h
  · intro ⟨h1, h2⟩
    rw [leqB_yes hx hy h2]
    simpa using h1
theorem leqB_refl (a : Int) {x : Nat} (hx : x < 65536) : leqB a x a x = true := (leqB_bits hx hx).2 ⟨Int.le_refl _, fun i _ => by cases x.testBit i <;> rfl⟩
theorem leqB_trans {a b c : Int} {x y u : Nat} (hx : x < 65536) (hy : y < 65536) (hu : u < 65536) (h1 : leqB a x b y = true) (h2 : leqB b y c u = true) : leqB a x c u = true := by
  obtain ⟨k1, k2⟩ := (leqB_bits hx hy).1 h1
  obtain ⟨l1, l2⟩ := (leqB_bits hy hu).1 h2
  refine (leqB_bits hx hu).2 ⟨by omega, fun i hi => ?_⟩
  have := k2 i hi
  have := l2 i hi
  revert this
  revert this
  cases x.testBit i <;> cases y.testBit i <;> cases u.testBit i <;> simp
theorem set_ext {x y : Nat} (hx : x < 65536) (hy : y < 65536) (h : ∀ i, i < 16 → x.testBit i = y.testBit i) : x = y := by
  apply Nat.eq_of_testBit_eq
  intro i
  by_cases hi : i < 16
  · exact h i hi
  · have e : ∀ z, z < 65536 → z.testBit i = false := fun z hz => Nat.testBit_lt_two_pow (Nat.lt_of_lt_of_le hz (by rw [show 65536 = 2 ^ 16 from rfl]; exact Nat.pow_le_pow_right (by decide) (by omega)))
    rw [e x hx, e y hy]
theorem leqB_anti {a b : Int} {x y : Nat} (hx : x < 65536) (hy : y < 65536) (h1 : leqB a x b y = true) (h2 : leqB b y a x = true) : sameB a x b y = true := by
  obtain ⟨k1, k2⟩ := (leqB_bits hx hy).1 h1
  obtain ⟨l1, l2⟩ := (leqB_bits hy hx).1 h2
  have e1 : a = b := by omega
  have e2 : x = y := set_ext hx hy fun i hi => by
    have := k2 i hi
    have := l2 i hi
    revert this
    revert this
    cases x.testBit i <;> cases y.testBit i <;> simp
  subst e1 e2
  unfold sameB
  simp
theorem sameB_self (a : Int) (x : Nat) : sameB a x a x = true := by unfold sameB; simp
theorem leqB_left (a b : Int) {x y : Nat} (hx : x < 65536) (hy : y < 65536) : leqB a x (joinLv a b) (mOr x y) = true := by
  refine (leqB_bits hx (mOr_lt hx hy)).2 ⟨by unfold joinLv; split <;> omega, fun i hi => ?_⟩
  rw [mOr_testBit]
  cases x.testBit i <;> cases y.testBit i <;> rfl
theorem leqB_right (a b : Int) {x y : Nat} (hx : x < 65536) (hy : y < 65536) : leqB b y (joinLv a b) (mOr x y) = true := by
  refine (leqB_bits hy (mOr_lt hx hy)).2 ⟨by unfold joinLv; split <;> omega, fun i hi => ?_⟩
  rw [mOr_testBit]
  cases x.testBit i <;> cases y.testBit i <;> rfl
theorem leqB_join (a b c : Int) {x y u : Nat} (hx : x < 65536) (hy : y < 65536) (hu : u < 65536) : leqB (joinLv a b) (mOr x y) c u = (leqB a x c u && leqB b y c u) := by
  rw [Bool.eq_iff_iff, Bool.and_eq_true]
  constructor
  · intro h
    exact ⟨leqB_trans hx (mOr_lt hx hy) hu (leqB_left a b hx hy) h, leqB_trans hy (mOr_lt hx hy) hu (leqB_right a b hx hy) h⟩
  · rintro ⟨h1, h2⟩
    obtain ⟨k1, k2⟩ := (leqB_bits hx hu).1 h1
    obtain ⟨l1, l2⟩ := (leqB_bits hy hu).1 h2
    refine (leqB_bits (mOr_lt hx hy) hu).2 ⟨by unfold joinLv; split <;> omega, fun i hi => ?_⟩
    rw [mOr_testBit]
    have := k2 i hi
    have := l2 i hi
    revert this
    revert this
    cases x.testBit i <;> cases y.testBit i <;> cases u.testBit i <;> simp
theorem leqB_meetL (a b : Int) {x y : Nat} (hx : x < 65536) : leqB (meetLv a b) (mAnd x y) a x = true := by
  refine (leqB_bits (mAnd_lt hx) hx).2 ⟨by unfold meetLv; split <;> omega, fun i hi => ?_⟩
  rw [mAnd_testBit]
  cases x.testBit i <;> cases y.testBit i <;> rfl
theorem leqB_meetR (a b : Int) {x y : Nat} (hx : x < 65536) (hy : y < 65536) : leqB (meetLv a b) (mAnd x y) b y = true := by
  refine (leqB_bits (mAnd_lt hx) hy).2 ⟨by unfold meetLv; split <;> omega, fun i hi => ?_⟩
  rw [mAnd_testBit]
  cases x.testBit i <;> cases y.testBit i <;> rfl
theorem leqB_meet (a b c : Int) {x y u : Nat} (hx : x < 65536) (hy : y < 65536) (hu : u < 65536) : leqB c u (meetLv a b) (mAnd x y) = (leqB c u a x && leqB c u b y) := by
  rw [Bool.eq_iff_iff, Bool.and_eq_true]
  constructor
  · intro h
    exact ⟨leqB_trans hu (mAnd_lt hx) hx h (leqB_meetL a b hx), leqB_trans hu (mAnd_lt hx) hy h (leqB_meetR a b hx hy)⟩
  · rintro ⟨h1, h2⟩
    obtain ⟨k1, k2⟩ := (leqB_bits hu hx).1 h1
    obtain ⟨l1, l2⟩ := (leqB_bits hu hy).1 h2
    refine (leqB_bits hu (mAnd_lt hx)).2 ⟨by unfold meetLv; split <;> omega, fun i hi => ?_⟩
    rw [mAnd_testBit]
    have := k2 i hi
    have := l2 i hi
    revert this
    revert this
    cases x.testBit i <;> cases y.testBit i <;> cases u.testBit i <;> simp
theorem join_meet_lv (a b : Int) : joinLv a (meetLv a b) = a := by unfold joinLv meetLv; split <;> split at * <;> omega
theorem meet_join_lv (a b : Int) : meetLv a (joinLv a b) = a := by unfold joinLv meetLv; split <;> split at * <;> omega
theorem or_and_set (x y : Nat) : mOr x (mAnd x y) = x := by
  apply Nat.eq_of_testBit_eq
  intro i
  rw [mOr_testBit, mAnd_testBit]
  cases x.testBit i <;> cases y.testBit i <;> rfl
theorem and_or_set (x y : Nat) : mAnd x (mOr x y) = x := by
  apply Nat.eq_of_testBit_eq
  intro i
  rw [mAnd_testBit, mOr_testBit]
  cases x.testBit i <;> cases y.testBit i <;> rfl
theorem off_none {a b : Int} (x y : Nat) (hb : 0 ≤ b) : sameB (offLv a b) (mNot x y) 0 0 = leqB a x b y := by
  unfold sameB leqB offLv
  by_cases h : b < a
  · rw [if_pos h, decide_eq_false (show ¬ a ≤ b by omega)]
    have : (a == 0) = false := by simp; omega
    rw [this]
  · rw [if_neg h, decide_eq_true (show a ≤ b by omega)]
    rfl
theorem off_leq {a : Int} (b : Int) {x y : Nat} (hx : x < 65536) (hy : y < 65536) (ha : 0 ≤ a) : leqB (offLv a b) (mNot x y) a x = true := by
  refine (leqB_bits (mNot_lt hx) hx).2 ⟨by unfold offLv; split <;> omega, fun i hi => ?_⟩
  rw [mNot_testBit hx hy]
  cases x.testBit i <;> cases y.testBit i <;> rfl
theorem leqB_joinL {l a b : Int} {z x y : Nat} (hz : z < 65536) (hx : x < 65536) (hy : y < 65536) (h : leqB l z a x = true) : leqB l z (joinLv a b) (mOr x y) = true :=
  leqB_trans hz hx (mOr_lt hx hy) h (leqB_left a b hx hy)
end Go.Proofs.YtpkmgdpnimecfabDoor

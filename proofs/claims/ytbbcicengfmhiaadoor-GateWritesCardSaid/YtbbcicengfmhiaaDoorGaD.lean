/- lockageref12.Right. Conditions: sizes. -/
import Derived.Test.YtbbcicengfmhiaaDoorGat4
namespace Go.Proofs.YtbbcicengfmhiaaDoor
set_option maxRecDepth 100000
open Go.RowKit

theorem okFrom_get : ∀ (xs : List Int) (last : Int), okFrom last xs = true → ∀ i, i < xs.length → xs[i]! < 12 ∧ (i = 0 → last < xs[i]!) ∧ (0 < i → xs[i - 1]! < xs[i]!) := by
  intro xs
  induction xs with
  | nil => intro last _ i hi; simp at hi
  | cons x xs ih =>
    intro last h i hi
    simp only [okFrom, Bool.and_eq_true, Bool.not_eq_true', Bool.or_eq_false_iff, decide_eq_false_iff_not] at h
    obtain ⟨⟨h1, h2⟩, h3⟩ := h
    rcases i with _ | i
    · exact ⟨by simp; omega, fun _ => by simp; omega, fun h => by omega⟩
    · have hi' : i < xs.length := by simpa using hi
      obtain ⟨g1, g2, g3⟩ := ih x h3 i hi'
      have e1 : (x :: xs)[i + 1]! = xs[i]! := by simp
      rw [e1]
      refine ⟨g1, fun h => by omega, fun _ => ?_⟩
      rcases i with _ | i
      · simpa using g2 rfl
      · have := g3 (by omega)
        simpa using this
theorem okFrom_mk : ∀ (xs : List Int) (last : Int), (∀ i, i < xs.length → xs[i]! < 12 ∧ (i = 0 → last < xs[i]!) ∧ (0 < i → xs[i - 1]! < xs[i]!)) → okFrom last xs = true := by
  intro xs
  induction xs with
  | nil => intro last _; rfl
  | cons x xs ih =>
    intro last h
    obtain ⟨h1, h2, _⟩ := h 0 (by simp)
    simp at h1 h2
    simp only [okFrom, Bool.and_eq_true, Bool.not_eq_true', Bool.or_eq_false_iff, decide_eq_false_iff_not]
    refine ⟨⟨by omega, by omega⟩, ih x fun i hi => ?_⟩
    obtain ⟨g1, _, g3⟩ := h (i + 1) (by simpa using hi)
    have g3 := g3 (by omega)
    have e1 : (x :: xs)[i + 1]! = xs[i]! := by simp
    rw [e1] at g1 g3
    refine ⟨g1, fun e => ?_, fun e => ?_⟩
    · subst e; simpa using g3
    · obtain ⟨m, rfl⟩ : ∃ m, i = m + 1 := ⟨i - 1, by omega⟩
      simpa using g3
/-- each is one of the twelve, and above the one ahead of it -/
def upTo (xs : List Int) (k : Nat) : Prop := ∀ i, i < k → (0 ≤ xs[i]! ∧ xs[i]! ≤ 11) ∧ (0 < i → xs[i - 1]! < xs[i]!)
theorem rightG_all {xs : List Int} (h : rightG xs = true) : upTo xs xs.length ∧ xs.length ≤ 12 := by
  unfold rightG at h
  rw [Bool.and_eq_true, decide_eq_true_eq] at h
  refine ⟨?_, h.2⟩
  have hg := okFrom_get xs (-1) h.1
  have h0 : ∀ i, i < xs.length → 0 ≤ xs[i]! := by
    intro i
    induction i with
    | zero => intro hi; have := (hg 0 hi).2.1 rfl; omega
    | succ i ih =>
      intro hi
      have h1 := ih (by omega)
      have h2 := (hg (i + 1) hi).2.2 (by omega)
      simp only [Nat.add_sub_cancel] at h2
      omega
  intro i hi
  obtain ⟨g1, _, g3⟩ := hg i hi
  exact ⟨⟨h0 i hi, by omega⟩, g3⟩
theorem rightG_mk {xs : List Int} (h : upTo xs xs.length) : rightG xs = decide (xs.length ≤ 12) := by
  unfold rightG
  rw [okFrom_mk xs (-1) (fun i hi => by
    obtain ⟨⟨h1, h2⟩, h3⟩ := h i hi
    exact ⟨by omega, fun _ => by omega, h3⟩), Bool.true_and]
theorem rightG_no {xs : List Int} {k : Nat} (hk : k < xs.length) (h : ¬ ((0 ≤ xs[k]! ∧ xs[k]! ≤ 11) ∧ (0 < k → xs[k - 1]! < xs[k]!))) : rightG xs = false := by
  cases hr : rightG xs with
  | false => rfl
  | true => exact absurd ((rightG_all hr).1 k hk) h
theorem ret_boolG {a b : Bool} (h : a = b) : Ending.returned (.bool a) = .returned (.bool b) := by rw [h]
set_option maxHeartbeats 4000000 in
theorem ref12Right (v : Value) (xs : List Int) (w : World) (hS : SlAt 1 encI w v xs) (hbig : xs.length ≤ 1000000) :
    Calls Tryd.prog 27 #[v] w fun e w' => e = .returned (.bool (rightG xs)) ∧ Below w.heap.size w w' := by
  have HNO := Lib.hid (fun k (hk : k < xs.length) h => rightG_no (xs := xs) hk h)
  have HYE := Lib.hid (fun h => rightG_mk (xs := xs) h)
  obtain ⟨p, c, rfl, _, hc⟩ := hS
  have HC := Lib.hid (fun (h : 0 < xs.length) => show ∃ b off, p = some ⟨b, off, none⟩ ∧ ∀ W, Below w.heap.size w W → ∀ k, k < xs.length → W.cell? ⟨b, off + k, none⟩ = some (.int .i64 xs[k]!) by
    obtain ⟨b, off, hp, hlt, hcc⟩ := hc h
    refine ⟨b, off, hp, fun W hb k hk => (hb.cell (p := ⟨b, off + k, none⟩) hlt).trans ?_⟩
    have := hcc k hk 0 _ rfl
    simpa using this)
  clear hc
  generalize rightG xs = R at HNO HYE ⊢
  generalize hn : xs.length = n at *
  have HN := Lib.hid hn
  clear hn
  go_enter Tryd.func27, Tryd.ntmps27
  go_wp2
  go_loopw [3] (fun t wr => ∃ k : Nat, k ≤ n ∧ t = .int .i64 k ∧ Below w.heap.size w wr ∧ upTo xs k) (fun t _ => n - (intOf t).toNat)
  case atStart => exact ⟨0, by omega, rfl, Below.refl _ _, fun i hi => absurd hi (by omega)⟩
  case round =>
    obtain ⟨k, hk, rfl, hb, hall⟩ := hrel
    have HB := Lib.hid hb
    have HA := Lib.hid hall
    clear hb hall
    by_cases hlt : k < n
    · have hltz : (k : Int) < (n : Int) := by omega
      obtain ⟨b, off, rfl, hcc⟩ := HC.out (by omega)
      have c0 := hcc _ HB.out k hlt
      have HNX := Lib.hid (fun (h : (0 ≤ xs[k]! ∧ xs[k]! ≤ 11) ∧ (0 < k → xs[k - 1]! < xs[k]!)) => show upTo xs (k + 1) from fun i hi => by
        by_cases e : i = k
        · subst e; exact h
        · exact HA.out i (by omega))
      have HF := Lib.hid (fun h => HNO.out k hlt h)
      by_cases hk0 : k = 0
      · subst hk0
        clear hcc
        simp only [Nat.add_zero] at c0
        generalize xs[0]! = x at c0 HNX HF
        cases t1 : decide (x < 0) with
        | true =>
          have hR := Lib.hid (HF.out (fun h => by have := of_decide_eq_true t1; omega))
          go_wp2_with fail
          go_quiet (fail)
          go_wp2
          go_ret
          exact ⟨by rw [hR.out]; rfl, belowN HB.out _⟩
        | false =>
        cases t2 : decide (11 < x) with
        | true =>
          have hR := Lib.hid (HF.out (fun h => by have := of_decide_eq_true t2; omega))
          go_wp2_with fail
          go_quiet (fail)
          go_wp2
          go_ret
          exact ⟨by rw [hR.out]; rfl, belowN HB.out _⟩
        | false =>
        have hx := Lib.hid (HNX.out ⟨⟨by have := of_decide_eq_false t1; omega, by have := of_decide_eq_false t2; omega⟩, fun h => by omega⟩)
        go_wp2_with fail
        go_quiet (fail)
        go_wp2
        go_roundw
        case rel => first | exact ⟨1, by omega, by go_num, belowN HB.out _, hx.out⟩ | trace_state
        case measure => simp [intOf] <;> omega
      · obtain ⟨m, hm⟩ : ∃ m, k - 1 = m := ⟨_, rfl⟩
        have c1 := hcc _ HB.out m (by omega)
        clear hcc
        rw [hm] at HNX HF
        generalize xs[k]! = x at c0 HNX HF
        generalize xs[m]! = y at c1 HNX HF
        have hm1 : (k : Int) - 1 = (m : Int) := by omega
        have hm0 : (0 : Int) < (k : Int) := by omega
        have hm00 : 0 < k := by omega
        have hm01 : decide (0 < k) = true := decide_eq_true hm00
        clear hm
        have hmn : (m : Int) < (n : Int) := by omega
        cases t1 : decide (x < 0) with
        | true =>
          have hR := Lib.hid (HF.out (fun h => by have := of_decide_eq_true t1; omega))
          go_wp2_with fail
          go_quiet (fail)
          go_wp2
          go_ret
          exact ⟨by rw [hR.out]; rfl, belowN HB.out _⟩
        | false =>
        cases t2 : decide (11 < x) with
        | true =>
          have hR := Lib.hid (HF.out (fun h => by have := of_decide_eq_true t2; omega))
          go_wp2_with fail
          go_quiet (fail)
          go_wp2
          go_ret
          exact ⟨by rw [hR.out]; rfl, belowN HB.out _⟩
        | false =>
        cases t3 : decide (x ≤ y) with
        | true =>
          have hR := Lib.hid (HF.out (fun h => by have := of_decide_eq_true t3; have := h.2 (by omega); omega))
          go_wp2_with fail
          go_quiet (fail)
          go_wp2
          go_ret
          exact ⟨by rw [hR.out]; rfl, belowN HB.out _⟩
        | false =>
        have hx := Lib.hid (HNX.out ⟨⟨by have := of_decide_eq_false t1; omega, by have := of_decide_eq_false t2; omega⟩, fun h => by have := of_decide_eq_false t3; omega⟩)
        go_wp2_with fail
        go_quiet (fail)
        go_wp2
        go_roundw
        case rel => first | exact ⟨k + 1, by omega, by go_num, belowN HB.out _, hx.out⟩ | trace_state
        case measure => simp [intOf] <;> omega
    · obtain rfl : k = n := by omega
      have HR := Lib.hid (HYE.out HA.out)
      go_wp2
      go_ret
      exact ⟨ret_boolG (show decide ((k : Int) ≤ 12) = R by rw [HR.out, Bool.eq_iff_iff]; simp; try omega), HB.out⟩
end Go.Proofs.YtbbcicengfmhiaaDoor

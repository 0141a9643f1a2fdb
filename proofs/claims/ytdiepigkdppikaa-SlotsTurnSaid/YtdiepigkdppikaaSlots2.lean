/- SlotsTurn: in as many ticks as there are partitions each one's time comes once; from any time on it comes within so many. Every input. -/
import Derived.Test.YtdiepigkdppikaaFrame
import Derived.Test.YtdiepigkdppikaaSlots1
import Derived.Test.YtdiepigkdppikaaMapB
namespace Go.Proofs.Ytdiepigkdppikaa
open Go.ChangeShapes Go.WideShapes Go.ChangeAt Go.RowKit

set_option maxHeartbeats 1000000 in
theorem awake18 (w : World) : Calls Try.prog 15 #[] w fun e w' => e = .returned (.bool true) ∧ Below w.heap.size w w' := by
  go_enter Try.func15, Try.ntmps15
  go_wp2_with fail
  refine (slotsNew_ok 4 (by omega) (by omega) _).mono ?_
  rintro e w1 ⟨rfl, rfl⟩
  go_wp2_with fail
  refine (slotsNew_no _).mono ?_
  rintro e w1 ⟨rfl, rfl⟩
  have hc : ∀ q, ((w.alloc (.cells #[.int .i64 4] 97)).drewN q).cell? ⟨w.heap.size, 0, none⟩ = some (.int .i64 4) := by intro q; go_simp
  go_wp2_with fail
  refine (slotsAt w.heap.size 4 6 (by omega) (by omega) (by omega) (by omega) _ (hc 0)).mono ?_
  rintro e w1 ⟨rfl, rfl⟩
  go_wp2_with fail
  refine (slotsAt_neg w.heap.size (-1) (by omega) _).mono ?_
  rintro e w1 ⟨rfl, rfl⟩
  go_wp2_with fail
  refine (slotsNext w.heap.size 4 6 1 (by omega) (by omega) (by omega) (by omega) (by omega) (by omega) _ (hc 0)).mono ?_
  rintro e w1 ⟨rfl, q1, rfl⟩
  go_wp2_with fail
  refine (slotsNext w.heap.size 4 6 2 (by omega) (by omega) (by omega) (by omega) (by omega) (by omega) _ (hc _)).mono ?_
  rintro e w1 ⟨rfl, q2, rfl⟩
  go_wp2_with fail
  refine (slotsNext_no w.heap.size 4 6 4 (by omega) (by omega) _ (hc _)).mono ?_
  rintro e w1 ⟨rfl, rfl⟩
  go_wp2_with fail
  refine (slotsLen w.heap.size 4 _ (hc _)).mono ?_
  rintro e w1 ⟨rfl, rfl⟩
  go_wp2
  go_ret
  exact ⟨rfl, below_drewN (below1 _ _) _⟩

/-- the times that were seen after i rounds -/
def seenL (N P : Int) : Nat → List (Int × Bool)
  | 0 => []
  | i + 1 => mput (seenL N P i) ((N + i) % P) true
theorem mod_sub {P a : Int} (hP : 0 < P) : a = P * (a / P) + a % P := (Int.mul_ediv_add_emod a P).symm
theorem mod_ne {N P : Int} {i j : Nat} (hP : 0 < P) (h : i < j) (hj : (j : Int) < P) : (N + i) % P ≠ (N + j) % P := by
  intro e
  have h1 := Int.emod_emod_of_dvd (N + j - (N + i)) (Int.dvd_refl P)
  have h2 : (N + j - (N + i)) % P = 0 := by rw [Int.sub_emod, e]; simp
  have h3 : (N + j - (N + i)) = (j : Int) - i := by omega
  rw [h3, Int.emod_eq_of_lt (by omega) (by omega)] at h2
  omega
theorem seenL_none (N P : Int) (hP : 0 < P) (i : Nat) : ∀ j : Nat, i ≤ j → (j : Int) < P → mlook (seenL N P i) ((N + j) % P) = none := by
  induction i with
  | zero => intros; rfl
  | succ i ih =>
    intro j hj hjP
    unfold seenL
    rw [mlook_put_other _ _ _ _ (Ne.symm (mod_ne hP (by omega) hjP))]
    exact ih j (by omega) hjP
theorem seenL_len (N P : Int) (hP : 0 < P) : ∀ i : Nat, (i : Int) ≤ P → (seenL N P i).length = i := by
  intro i
  induction i with
  | zero => intro _; rfl
  | succ i ih =>
    intro h
    unfold seenL
    rw [mput_length_new _ _ _ (seenL_none N P hP i i (Nat.le_refl _) (by omega)), ih (by omega)]
theorem seenL_some (N P : Int) (hP : 0 < P) (i : Nat) : ∀ j : Nat, j < i → mlook (seenL N P i) ((N + j) % P) = some true := by
  induction i with
  | zero => intro j h; omega
  | succ i ih =>
    intro j h
    unfold seenL
    by_cases e : (N + j) % P = (N + i) % P
    · rw [e]; exact mlook_put_same _ _ _
    · rw [mlook_put_other _ _ _ _ e]
      by_cases hji : j = i
      · subst hji; exact absurd rfl e
      · exact ih j (by omega)
theorem seenL_all (N P p : Int) (hP : 0 < P) (h0 : 0 ≤ p) (h1 : p < P) (R : Nat) (hR : (R : Int) = P) : (mlook (seenL N P R) p).getD false = true := by
  have g0 : 0 ≤ (p - N) % P := Int.emod_nonneg _ (by omega)
  have g1 : (p - N) % P < P := Int.emod_lt_of_pos _ hP
  have hp : (N + (p - N) % P) % P = p := by
    rw [Int.add_emod, Int.emod_emod_of_dvd _ (Int.dvd_refl P), ← Int.add_emod]
    rw [show N + (p - N) = p by omega]
    exact Int.emod_eq_of_lt h0 h1
  have := seenL_some N P hP R ((p - N) % P).toNat (by omega)
  rw [Int.toNat_of_nonneg g0, hp] at this
  rw [this]; rfl

theorem zeroB (w : World) : (zeroValue 4).run Try.prog w = .ok (.bool false) w := by kernel_rfl
theorem keyI : KeyOf Try.prog 3 (fun n : Int => Value.int .i64 n) := keyOf_i64 Try.underlying3
theorem next_at {N P p : Int} (hP : 0 < P) (h0 : 0 ≤ p) (h1 : p < P) : (N + (p - N) % P) % P = p := by
  rw [Int.add_emod, Int.emod_emod_of_dvd _ (Int.dvd_refl P), ← Int.add_emod, show N + (p - N) = p by omega]
  exact Int.emod_eq_of_lt h0 h1

def SlotsW (w wr : World) (bs bm : Nat) (P : Int) (l : List (Int × Bool)) : Prop :=
  Below w.heap.size w wr ∧ wr.cell? ⟨bs, 0, none⟩ = some (.int .i64 P) ∧ bs < wr.heap.size ∧ bs < bm ∧ MapIs wr bm (fun n : Int => Value.int .i64 n) (fun b : Bool => Value.bool b) l

set_option maxRecDepth 100000 in
set_option maxHeartbeats 2000000 in
theorem slotsTurn_walk (a0 a1 : Int) (w : World) :
    Calls Try.prog 3 #[.int .i64 a0, .int .i64 a1] w fun e w' => e = .returned (.bool true) ∧ Below w.heap.size w w' := by
  obtain ⟨p, ⟨p0, p1⟩, e0⟩ := umod a0 4 (by omega)
  obtain ⟨N, ⟨n0, n1⟩, e1⟩ := umod a1 100000 (by omega)
  have hmm := @run_makeMap Try.prog
  go_enter Try.func3, Try.ntmps3
  go_wp2_with fail
  clear e0 e1
  obtain ⟨R, hR1, hR2⟩ : ∃ R : Nat, (R : Int) ≤ 1 + p ∧ 1 + p ≤ R := ⟨(1 + p).toNat, by omega⟩
  refine (slotsNew_ok (1 + p) (by omega) (by omega) _).mono ?_
  rintro e w1 ⟨rfl, rfl⟩
  go_wp2_with fail
  refine (awake18 _).mono ?_
  rintro e w2 ⟨rfl, hb2⟩
  have hz2 := hb2.size
  have hc2 : w2.cell? ⟨w.heap.size, 0, none⟩ = some (.int .i64 (1 + p)) := by
    rw [hb2.cell (by simp)]; go_simp
  go_wp2_with fail
  have hsw : SlotsW w (w2.alloc (.map #[] 0)) w.heap.size w2.heap.size (1 + p) (seenL N (1 + p) 0) := by
    refine ⟨((below1 w _).trans (hb2.mono (by simp))).alloc (by simp at hz2; omega) _, ?_, by simp at hz2 ⊢; omega, by simp at hz2; omega, MapIs.made _ _ _⟩
    have : w.heap.size < w2.heap.size := by simp at hz2; omega
    go_simp
  have hz : w.heap.size < w2.heap.size := by simp at hz2; omega
  clear hb2 hz2 hc2
  generalize w2.heap.size = bm at *
  generalize w2.alloc (.map #[] 0) = w3 at *
  go_loopw [33] (fun i wr => ∃ k : Nat, (k : Int) ≤ 1 + p ∧ i = .int .i64 k ∧ SlotsW w wr w.heap.size bm (1 + p) (seenL N (1 + p) k)) (fun i _ => R - (intOf i).toNat)
  case atStart => exact ⟨0, by omega, rfl, hsw⟩
  case round =>
    obtain ⟨k, hk, rfl, hS⟩ := hrel
    by_cases hlt : (k : Int) < 1 + p
    · obtain ⟨hS1, hS2, hS3, hS4, hS5⟩ := hS
      have g0 : 0 ≤ (N + k) % (1 + p) := Int.emod_nonneg _ (by omega)
      have g1 : (N + k) % (1 + p) < 1 + p := Int.emod_lt_of_pos _ (by omega)
      go_wp2_with (first
        | (go_at_call 16; (with_reducible refine (slotsAt w.heap.size (1 + p) (N + k) (by omega) (by omega) (by omega) (by omega) _ hS2).mono ?_); rintro e w' ⟨rfl, rfl⟩)
        | (at_mapUpdate; refine wpList_store rfl _ _ _ 28 rfl 3 4 keyI Try.underlying28 bm (seenL N (1 + p) k) rfl hS5 ((N + k) % (1 + p)) rfl true rfl ?_; intro w4 hM hg))
      go_roundw
      case rel =>
        refine ⟨k + 1, by omega, by go_num, ?_⟩
        have hlb := hS5.lt
        refine ⟨hS1.grown hg hS1.size (fun j hj => by cases hj; omega), ?_, Nat.lt_of_lt_of_le hS3 hg.size, hS4, hM⟩
        rw [World.cell?_of_block (w := wr) (hg.block _ hS3 (by simp; omega))]
        exact hS2
      case measure => simp [intOf]; omega
    · obtain rfl : R = k := by omega
      clear hlt hk
      go_wp2
      go_loopw [44] (fun i ws => ∃ k : Nat, (k : Int) ≤ 1 + p ∧ i = .int .i64 k ∧ SlotsW w ws w.heap.size bm (1 + p) (seenL N (1 + p) R)) (fun i _ => R - (intOf i).toNat)
      case atStart => exact ⟨0, by omega, rfl, hS⟩
      case round =>
        obtain ⟨k, hk, rfl, hS'⟩ := hrel
        clear hS
        obtain ⟨hS1, hS2, hS3, hS4, hS5⟩ := hS'
        by_cases hlt : (k : Int) < 1 + p
        · have g0 : 0 ≤ (k - N) % (1 + p) := Int.emod_nonneg _ (by omega)
          have g1 : (k - N) % (1 + p) < 1 + p := Int.emod_lt_of_pos _ (by omega)
          have HN := Lib.hid (next_at (N := N) (P := 1 + p) (p := k) (by omega) (by omega) hlt)
          have HC := Lib.hid (fun q : Nat => (slotsAt w.heap.size (1 + p) (N + (k - N) % (1 + p)) (by omega) (by omega) (by omega) (by omega) (wr.drewN q) hS2).mono (fun e w' (h : e = .returned (.int .i64 ((N + (k - N) % (1 + p)) % (1 + p))) ∧ wr.drewN q = w') => (⟨by rw [h.1, HN.out], h.2⟩ : e = .returned (.int .i64 k) ∧ wr.drewN q = w')))
          have HA := Lib.hid (seenL_all N (1 + p) k (by omega) (by omega) hlt R (by omega))
          go_wp2_with (first
            | (go_at_call 17; (with_reducible refine (slotsNext w.heap.size (1 + p) N k (by omega) (by omega) (by omega) (by omega) (by omega) (by omega) _ hS2).mono ?_); rintro e w' ⟨rfl, q, rfl⟩)
            | (at_lookup; refine wpList_look rfl _ _ 28 rfl 3 4 keyI Try.underlying28 false (zeroB _) bm (seenL N (1 + p) R) rfl (hS5.kept rfl) k rfl ?_; rw [HA.out])
            | (go_at_call 16; (with_reducible refine (HC.out _).mono ?_); rintro e w' ⟨rfl, rfl⟩))
          go_roundw
          case rel => first | exact ⟨k + 1, by omega, by go_num, below_drewN hS1 _, hS2, hS3, hS4, hS5.kept rfl⟩ | ((repeat apply Exists.intro); exact ⟨⟨k + 1, by omega, by go_num, below_drewN hS1 _, hS2, hS3, hS4, hS5.kept rfl⟩, rfl⟩)
          case measure => simp [intOf]; omega
        · have hlen : ∀ ty, (Builtin.len_ #[28] ty #[.map (some bm)]).run Try.prog wr = .ok (.int .i64 (1 + p)) wr := fun ty => by
            rw [hS5.len Try.underlying28 ty, seenL_len N (1 + p) (by omega) R (by omega), show (R : Int) = 1 + p by omega]
          go_wp2
          go_ret
          exact ⟨rfl, hS1⟩

set_option maxRecDepth 100000 in
theorem slotsTurn_lifted (os : Os) (started : os.Started) (H : Type) (enc : TypeId × Value → H) :
    ReturnsInHanded {} Try.checked os 3 .any (Rows.slotsTurnSpec.pre6 enc Try.prog Try.f3 Rows.slotsTurnRow.domain false) (Rows.slotsTurnSpec.post enc Try.prog Try.f3 false true false false) := by
  refine law_lift started Try.func3 (by kernel_rfl) (by kernel_rfl) rfl (by kernel_rfl) ?_
    (ChangeSpec.witness6 (enc := enc) (C := Try.checked) false ⟨#[], #[.int .i64 0, .int .i64 0], []⟩ 8 (by kernel_rfl) (by kernel_rfl) (by kernel_rfl) (by kernel_rfl)) ?_
  · intro ds hd
    rw [Try.params3] at hd
    match ds, hd with
    | [d0, d1], _ => rfl
  · intro W base args ds ps hval hA
    rw [Try.params3] at hA hval
    obtain ⟨v0, v1, d0, d1, p0, p1, hargs, rfl, rfl, h0, h1⟩ := trodAll_two hA
    subst hargs
    obtain ⟨a0, rfl, _, _, w0⟩ := open_int Try.underlying3 (hval 0 3 v0 rfl rfl) h0
    obtain ⟨a1, rfl, _, _, w1⟩ := open_int Try.underlying3 (hval 1 3 v1 rfl rfl) h1
    exact slotsTurn_walk _ _ _

theorem slotsTurn_holds : Rows.SlotsTurnSaid :=
  OpenClaim.holds_of_wide 3 Try.f3 rfl rfl rfl rfl rfl rfl rfl ⟨rfl, rfl, rfl, rfl, rfl⟩ rfl rfl rfl rfl rfl (by kernel_rfl) Try.func3 (by kernel_rfl)
    (of_decide_eq_true (by kernel_rfl)) (by unfold Func.isWrapper; first | (rw [if_pos (by decide +kernel)]; kernel_rfl) | (rw [if_neg (by decide +kernel)]; exact ⟨rfl, rfl⟩))
    (fun os started H enc _ => slotsTurn_lifted os started H enc)
end Go.Proofs.Ytdiepigkdppikaa

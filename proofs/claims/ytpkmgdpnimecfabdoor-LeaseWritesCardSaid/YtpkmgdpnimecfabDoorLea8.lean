/- LeaseWrites: a try is written as its numbers, and read as it was; numbers that are none stop the reader. Every input. -/
import Derived.Test.YtpkmgdpnimecfabDoorLea7
import Derived.Test.YtpkmgdpnimecfabDoorLea5
import Derived.Test.YtpkmgdpnimecfabDoorCbk4
namespace Go.Proofs.YtpkmgdpnimecfabDoor
open Go.RowKit

theorem inB_iff {n hi : Int} (h : inB n hi = true) : 0 ≤ n ∧ n ≤ hi := by
  unfold inB at h
  simpa using h
theorem rd_in {n hi : Int} (hn : okI n) (h : inB n hi = true) (rest : List UInt8) : rd (numL n ++ rest, false) hi = (n, (rest, false)) := rd_num hn (inB_iff h).1 (inB_iff h).2 rest
theorem rd_out {n hi : Int} (hn : okI n) (h : inB n hi = false) (rest : List UInt8) : rd (numL n ++ rest, false) hi = (0, (numL n ++ rest, true)) := by
  refine rdStep_none ?_
  have := rdInt_num (n := n) (lo := 0) (hi := hi) rest hn.1 hn.2
  rw [if_neg (fun q => by rw [inB_yes q] at h; cases h)] at this
  unfold numL
  simpa using this
theorem rd_bad (x : List UInt8) (hi : Int) : rd (x, true) hi = (0, (x, true)) := rfl
def wantL (s si m k l u : Int) : List UInt8 := numL s ++ (numL si ++ (numL m ++ (numL k ++ (numL l ++ (numL u ++ [])))))
theorem want_nums (s si m k l u : Int) : numsL [s, si, m, k, l, u] = wantL s si m k l u := by simp [numsL, wantL]
theorem six_want {s si m k l u : Int} (o1 : okI s) (o2 : okI si) (o3 : okI m) (o4 : okI k) (o5 : okI l) (o6 : okI u) :
    okSix (six (wantL s si m k l u, false)) = rightT s si m k l u ∧ (rightT s si m k l u = true → six (wantL s si m k l u, false) = ⟨s, si, m, k, l, u, ([], false)⟩) := by
  unfold wantL
  cases h1 : inB s 4 with
  | false =>
    refine ⟨by unfold six; simp only [rd_out o1 h1, rd_bad]; unfold okSix rightT; rw [h1]; rfl, fun h => by unfold rightT at h; rw [h1] at h; cases h⟩
  | true =>
  cases h2 : inB si 1000000 with
  | false =>
    refine ⟨by unfold six; simp only [rd_in o1 h1, rd_out o2 h2, rd_bad]; unfold okSix rightT; rw [h1, h2]; simp, fun h => by unfold rightT at h; rw [h1, h2] at h; simp at h⟩
  | true =>
  cases h3 : inB m 6 with
  | false =>
    refine ⟨by unfold six; simp only [rd_in o1 h1, rd_in o2 h2, rd_out o3 h3, rd_bad]; unfold okSix rightT; rw [h1, h2, h3]; simp, fun h => by unfold rightT at h; rw [h1, h2, h3] at h; simp at h⟩
  | true =>
  cases h4 : inB k 1000000 with
  | false =>
    refine ⟨by unfold six; simp only [rd_in o1 h1, rd_in o2 h2, rd_in o3 h3, rd_out o4 h4, rd_bad]; unfold okSix rightT; rw [h1, h2, h3, h4]; simp, fun h => by unfold rightT at h; rw [h1, h2, h3, h4] at h; simp at h⟩
  | true =>
  cases h5 : inB l 1000000 with
  | false =>
    refine ⟨by unfold six; simp only [rd_in o1 h1, rd_in o2 h2, rd_in o3 h3, rd_in o4 h4, rd_out o5 h5, rd_bad]; unfold okSix rightT; rw [h1, h2, h3, h4, h5]; simp, fun h => by unfold rightT at h; rw [h1, h2, h3, h4, h5] at h; simp at h⟩
  | true =>
  cases h6 : inB u 1000000 with
  | false =>
    refine ⟨by unfold six; simp only [rd_in o1 h1, rd_in o2 h2, rd_in o3 h3, rd_in o4 h4, rd_in o5 h5, rd_out o6 h6]; unfold okSix rightT; rw [h1, h2, h3, h4, h5, h6]; simp, fun h => by unfold rightT at h; rw [h1, h2, h3, h4, h5, h6] at h; simp at h⟩
  | true =>
    have e : six (numL s ++ (numL si ++ (numL m ++ (numL k ++ (numL l ++ (numL u ++ []))))), false) = ⟨s, si, m, k, l, u, ([], false)⟩ := by
      unfold six
      simp only [rd_in o1 h1, rd_in o2 h2, rd_in o3 h3, rd_in o4 h4, rd_in o5 h5, rd_in o6 h6]
    refine ⟨by rw [e]; unfold okSix; simp, fun _ => e⟩
theorem RdAt.of_block {b : Nat} {s : List UInt8} {bad : Bool} {w w' : World} (h : RdAt b s bad w) (e : w'.heap[b]? = w.heap[b]?) (hz : b < w'.heap.size) : RdAt b s bad w' := by
  obtain ⟨h0, ⟨h1, h2⟩, h3, h4⟩ := h
  exact ⟨hz, ⟨(World.cell?_of_block e).trans h1, (World.cell?_of_block e).trans h2⟩, (World.frozen?_of_block e).trans h3, (World.frozen?_of_block e).trans h4⟩
theorem WrAt.keptB {R T b c : Nat} {l : List UInt8} {w w' : World} (h : WrAt R T b l w) (hk : KeptB c w w') (h1 : T ≤ c) (h2 : b ≠ c) : WrAt R T b l w' := by
  obtain ⟨⟨q1, q2, q3⟩, p, v, hp, hbk, hown, hT⟩ := h
  refine ⟨⟨q1, Nat.le_trans q2 hk.2.2, Nat.le_trans q3 hk.2.2⟩, p, v, hp, (hk.2.1 b (by omega) h2).trans hbk, owns_kept hown (fun k hkk => ?_), hT⟩
  have := hT k hkk
  exact hk.2.1 k (by omega) (by omega)
/-- what Read tells -/
theorem SixPost.cases {b : Nat} {st : List UInt8 × Bool} {w w' : World} {e : Ending} (h : SixPost b st w e w') :
    ∃ s si m k l u : Int, ∃ (r : List UInt8) (bd : Bool), e = .returned (.agg #[.int .i64 (s), .int .i64 (si), .int .i64 (m), .int .i64 (k), .int .i64 (l), .int .i64 (u)]) ∧ RdAt b r bd w' ∧ KeptB b w w' ∧ ((bd = false ∧ rightT s si m k l u = true) ∨ (bd = true ∧ s = 0 ∧ si = 0 ∧ m = 0 ∧ k = 0 ∧ l = 0 ∧ u = 0)) := by
  rcases h with ⟨h1, h2, h3, h4⟩ | ⟨h1, h2, h3, h4⟩
  · refine ⟨_, _, _, _, _, _, _, false, h2, h3, h4, .inl ⟨rfl, ?_⟩⟩
    unfold okSix at h1
    rw [Bool.and_eq_true] at h1
    exact h1.2
  · exact ⟨0, 0, 0, 0, 0, 0, _, true, h2, h3, h4, .inr ⟨rfl, rfl, rfl, rfl, rfl, rfl, rfl⟩⟩
end Go.Proofs.YtpkmgdpnimecfabDoor

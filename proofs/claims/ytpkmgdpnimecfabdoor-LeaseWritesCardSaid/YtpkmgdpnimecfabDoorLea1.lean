/- What the functions of package lease, and of the statements' own helpers over a try, give back. Conditions: the sums stay small (said at each). -/
import Derived.Test.YtpkmgdpnimecfabDoorRows
import Derived.Test.YtpkmgdpnimecfabDoorBase
import Derived.WalkKit
import Derived.WalkSpells
import Derived.WalkLawsBesides
import Derived.Laws.StructEq
import Derived.Lib.Hide
namespace Go.Proofs.YtpkmgdpnimecfabDoor
open Go.RowKit

set_option maxHeartbeats 400000 in
theorem open_0 (si m k l u now : Int) (w : World) :
    Calls Tryd.prog 90 #[(.agg #[.int .i64 (0), .int .i64 (si), .int .i64 (m), .int .i64 (k), .int .i64 (l), .int .i64 (u)]), .int .i64 now] w fun e w' => e = .returned (.agg #[.int .i64 (1), .int .i64 (now), .int .i64 (m), .int .i64 (k), .int .i64 (l), .int .i64 (u)]) ∧ Below w.heap.size w w' := by
  go_enter Tryd.func90, Tryd.ntmps90
  go_wp2
  exact bodyPost_ret (v := (.agg #[.int .i64 (1), .int .i64 (now), .int .i64 (m), .int .i64 (k), .int .i64 (l), .int .i64 (u)])) (by simp [results, Tryd.results90, go_sem]) rfl ⟨rfl, below2 _ _ _⟩

set_option maxHeartbeats 400000 in
theorem take_ok (si m k l u now wk n tm : Int) (hs : si ≤ now) (w : World) (bnow : -4398046511104 ≤ now) (cnow : now ≤ 4398046511104) (btm : -4398046511104 ≤ tm) (ctm : tm ≤ 4398046511104) :
    Calls Tryd.prog 91 #[(.agg #[.int .i64 (1), .int .i64 (si), .int .i64 (m), .int .i64 (k), .int .i64 (l), .int .i64 (u)]), .int .i64 now, .int .i64 wk, .int .i64 n, .int .i64 tm] w fun e w' => e = .returned (.tuple #[(.agg #[.int .i64 (2), .int .i64 (0), .int .i64 (m), .int .i64 (wk), .int .i64 (n), .int .i64 (now + tm)]), .int .i64 0]) ∧ Below w.heap.size w w' := by
  go_enter Tryd.func91, Tryd.ntmps91
  go_wp2
  exact bodyPost_ret (v := .tuple #[(.agg #[.int .i64 (2), .int .i64 (0), .int .i64 (m), .int .i64 (wk), .int .i64 (n), .int .i64 (now + tm)]), .int .i64 0]) (by simp [results, Tryd.results91, go_sem]) rfl ⟨rfl, below2 _ _ _⟩

set_option maxHeartbeats 400000 in
theorem take_no (si m k l u now wk n tm : Int) (hs : now < si) (w : World) :
    Calls Tryd.prog 91 #[(.agg #[.int .i64 (1), .int .i64 (si), .int .i64 (m), .int .i64 (k), .int .i64 (l), .int .i64 (u)]), .int .i64 now, .int .i64 wk, .int .i64 n, .int .i64 tm] w fun e w' => e = .returned (.tuple #[(.agg #[.int .i64 (0), .int .i64 (0), .int .i64 (0), .int .i64 (0), .int .i64 (0), .int .i64 (0)]), .int .i64 12]) ∧ Below w.heap.size w w' := by
  go_enter Tryd.func91, Tryd.ntmps91
  go_wp2
  exact bodyPost_ret (v := .tuple #[(.agg #[.int .i64 (0), .int .i64 (0), .int .i64 (0), .int .i64 (0), .int .i64 (0), .int .i64 (0)]), .int .i64 12]) (by simp [results, Tryd.results91, go_sem]) rfl ⟨rfl, below2 _ _ _⟩

set_option maxHeartbeats 400000 in
theorem miss_fail (si m k l u at_ retry : Int) (h : retry < m + 1) (bm : -4398046511104 ≤ m) (cm : m ≤ 4398046511104) (w : World) :
    Calls Tryd.prog 93 #[(.agg #[.int .i64 (2), .int .i64 (si), .int .i64 (m), .int .i64 (k), .int .i64 (l), .int .i64 (u)]), .int .i64 at_, .int .i64 retry] w fun e w' => e = .returned (.agg #[.int .i64 (4), .int .i64 (0), .int .i64 (m + 1), .int .i64 (0), .int .i64 (0), .int .i64 (0)]) ∧ Below w.heap.size w w' := by
  go_enter Tryd.func93, Tryd.ntmps93
  go_wp2
  exact bodyPost_ret (v := (.agg #[.int .i64 (4), .int .i64 (0), .int .i64 (m + 1), .int .i64 (0), .int .i64 (0), .int .i64 (0)])) (by simp [results, Tryd.results93, go_sem]) rfl ⟨rfl, below3 _ _ _ _⟩

set_option maxHeartbeats 400000 in
theorem miss_ready (si m k l u at_ retry : Int) (h : m + 1 ≤ retry) (bm : -4398046511104 ≤ m) (cm : m ≤ 4398046511104) (bat_ : -4398046511104 ≤ at_) (cat_ : at_ ≤ 4398046511104) (w : World) :
    Calls Tryd.prog 93 #[(.agg #[.int .i64 (2), .int .i64 (si), .int .i64 (m), .int .i64 (k), .int .i64 (l), .int .i64 (u)]), .int .i64 at_, .int .i64 retry] w fun e w' => e = .returned (.agg #[.int .i64 (1), .int .i64 (at_ + (m + 1)), .int .i64 (m + 1), .int .i64 (0), .int .i64 (0), .int .i64 (0)]) ∧ Below w.heap.size w w' := by
  go_enter Tryd.func93, Tryd.ntmps93
  go_wp2
  exact bodyPost_ret (v := (.agg #[.int .i64 (1), .int .i64 (at_ + (m + 1)), .int .i64 (m + 1), .int .i64 (0), .int .i64 (0), .int .i64 (0)])) (by simp [results, Tryd.results93, go_sem]) rfl ⟨rfl, below3 _ _ _ _⟩

set_option maxHeartbeats 400000 in
theorem settle_not (s si m k l u now retry : Int) (h : s ≠ 2) (w : World) :
    Calls Tryd.prog 92 #[(.agg #[.int .i64 (s), .int .i64 (si), .int .i64 (m), .int .i64 (k), .int .i64 (l), .int .i64 (u)]), .int .i64 now, .int .i64 retry] w fun e w' => e = .returned (.agg #[.int .i64 (s), .int .i64 (si), .int .i64 (m), .int .i64 (k), .int .i64 (l), .int .i64 (u)]) ∧ Below w.heap.size w w' := by
  go_enter Tryd.func92, Tryd.ntmps92
  go_wp2
  exact bodyPost_ret (v := (.agg #[.int .i64 (s), .int .i64 (si), .int .i64 (m), .int .i64 (k), .int .i64 (l), .int .i64 (u)])) (by simp [results, Tryd.results92, go_sem]) rfl ⟨rfl, below2 _ _ _⟩

set_option maxHeartbeats 400000 in
theorem settle_held (si m k l u now retry : Int) (h : now < u) (w : World) :
    Calls Tryd.prog 92 #[(.agg #[.int .i64 (2), .int .i64 (si), .int .i64 (m), .int .i64 (k), .int .i64 (l), .int .i64 (u)]), .int .i64 now, .int .i64 retry] w fun e w' => e = .returned (.agg #[.int .i64 (2), .int .i64 (si), .int .i64 (m), .int .i64 (k), .int .i64 (l), .int .i64 (u)]) ∧ Below w.heap.size w w' := by
  go_enter Tryd.func92, Tryd.ntmps92
  go_wp2
  exact bodyPost_ret (v := (.agg #[.int .i64 (2), .int .i64 (si), .int .i64 (m), .int .i64 (k), .int .i64 (l), .int .i64 (u)])) (by simp [results, Tryd.results92, go_sem]) rfl ⟨rfl, below2 _ _ _⟩


set_option maxHeartbeats 400000 in
theorem settle_fail (si m k l u now retry : Int) (hu : u ≤ now) (h : retry < m + 1) (bm : -4398046511104 ≤ m) (cm : m ≤ 4398046511104) (w : World) :
    Calls Tryd.prog 92 #[(.agg #[.int .i64 (2), .int .i64 (si), .int .i64 (m), .int .i64 (k), .int .i64 (l), .int .i64 (u)]), .int .i64 now, .int .i64 retry] w fun e w' => e = .returned (.agg #[.int .i64 (4), .int .i64 (0), .int .i64 (m + 1), .int .i64 (0), .int .i64 (0), .int .i64 (0)]) ∧ Below w.heap.size w w' := by
  go_enter Tryd.func92, Tryd.ntmps92
  go_wp2_with (go_at_call 93; refine (miss_fail _ _ _ _ _ _ _ h bm cm _).mono ?_; rintro e w1 ⟨rfl, hb⟩; obtain ⟨hc, hf⟩ := bcell hb; have hz := hb.size)
  exact bodyPost_ret (v := (.agg #[.int .i64 (4), .int .i64 (0), .int .i64 (m + 1), .int .i64 (0), .int .i64 (0), .int .i64 (0)])) (by simp [results, Tryd.results92, go_sem, hc]) rfl ⟨rfl, below_set6 ((below2 w _ _).trans (hb.mono (by simp; omega))) (by omega) _ _ _ _ _ _⟩

set_option maxHeartbeats 400000 in
theorem settle_ready (si m k l u now retry : Int) (hu : u ≤ now) (h : m + 1 ≤ retry) (bm : -4398046511104 ≤ m) (cm : m ≤ 4398046511104) (bu : -4398046511104 ≤ u) (cu : u ≤ 4398046511104) (w : World) :
    Calls Tryd.prog 92 #[(.agg #[.int .i64 (2), .int .i64 (si), .int .i64 (m), .int .i64 (k), .int .i64 (l), .int .i64 (u)]), .int .i64 now, .int .i64 retry] w fun e w' => e = .returned (.agg #[.int .i64 (1), .int .i64 (u + (m + 1)), .int .i64 (m + 1), .int .i64 (0), .int .i64 (0), .int .i64 (0)]) ∧ Below w.heap.size w w' := by
  go_enter Tryd.func92, Tryd.ntmps92
  go_wp2_with (go_at_call 93; refine (miss_ready _ _ _ _ _ _ _ h bm cm bu cu _).mono ?_; rintro e w1 ⟨rfl, hb⟩; obtain ⟨hc, hf⟩ := bcell hb; have hz := hb.size)
  exact bodyPost_ret (v := (.agg #[.int .i64 (1), .int .i64 (u + (m + 1)), .int .i64 (m + 1), .int .i64 (0), .int .i64 (0), .int .i64 (0)])) (by simp [results, Tryd.results92, go_sem, hc]) rfl ⟨rfl, below_set6 ((below2 w _ _).trans (hb.mono (by simp; omega))) (by omega) _ _ _ _ _ _⟩

/-- who holds a try: a bool of its own, closed to the walk -/
def holdsB (s k l u now wk n : Int) : Bool := s == 2 && k == wk && l == n && decide (u > now)

set_option maxHeartbeats 400000 in
theorem holds_any (s si m k l u now wk n : Int) (w : World) :
    Calls Tryd.prog 94 #[(.agg #[.int .i64 (s), .int .i64 (si), .int .i64 (m), .int .i64 (k), .int .i64 (l), .int .i64 (u)]), .int .i64 now, .int .i64 wk, .int .i64 n] w fun e w' => e = .returned (.bool (holdsB s k l u now wk n)) ∧ Below w.heap.size w w' := by
  go_enter Tryd.func94, Tryd.ntmps94
  go_wp2
  all_goals
    go_ret
    refine ⟨?_, below1 _ _⟩
    simp_all [holdsB]

set_option maxHeartbeats 400000 in
theorem beat_held (si m k l u now tm : Int) (bnow : -4398046511104 ≤ now) (cnow : now ≤ 4398046511104) (btm : -4398046511104 ≤ tm) (ctm : tm ≤ 4398046511104) (w : World) :
    Calls Tryd.prog 95 #[(.agg #[.int .i64 (2), .int .i64 (si), .int .i64 (m), .int .i64 (k), .int .i64 (l), .int .i64 (u)]), .int .i64 now, .int .i64 tm] w fun e w' => e = .returned (.agg #[.int .i64 (2), .int .i64 (si), .int .i64 (m), .int .i64 (k), .int .i64 (l), .int .i64 (now + tm)]) ∧ Below w.heap.size w w' := by
  go_enter Tryd.func95, Tryd.ntmps95
  go_wp2
  exact bodyPost_ret (v := (.agg #[.int .i64 (2), .int .i64 (si), .int .i64 (m), .int .i64 (k), .int .i64 (l), .int .i64 (now + tm)])) (by simp [results, Tryd.results95, go_sem]) rfl ⟨rfl, below2 _ _ _⟩

set_option maxHeartbeats 400000 in
theorem done_held (si m k l u : Int) (w : World) :
    Calls Tryd.prog 96 #[(.agg #[.int .i64 (2), .int .i64 (si), .int .i64 (m), .int .i64 (k), .int .i64 (l), .int .i64 (u)])] w fun e w' => e = .returned (.agg #[.int .i64 (3), .int .i64 (0), .int .i64 (m), .int .i64 (0), .int .i64 (0), .int .i64 (0)]) ∧ Below w.heap.size w w' := by
  go_enter Tryd.func96, Tryd.ntmps96
  go_wp2
  exact bodyPost_ret (v := (.agg #[.int .i64 (3), .int .i64 (0), .int .i64 (m), .int .i64 (0), .int .i64 (0), .int .i64 (0)])) (by simp [results, Tryd.results96, go_sem]) rfl ⟨rfl, below2 _ _ _⟩

set_option maxHeartbeats 400000 in
theorem like_any (s si m k l u : Int) (w : World) :
    Calls Tryd.prog 59 #[(.agg #[.int .i64 (s), .int .i64 (si), .int .i64 (m), .int .i64 (k), .int .i64 (l), .int .i64 (u)])] w fun e w' => e = .returned (.agg #[.int .i64 (s), .int .i64 (si), .int .i64 (m), .int .i64 (k), .int .i64 (l), .int .i64 (u)]) ∧ Below w.heap.size w w' := by
  go_enter Tryd.func59, Tryd.ntmps59
  go_wp2
  exact bodyPost_ret (v := (.agg #[.int .i64 (s), .int .i64 (si), .int .i64 (m), .int .i64 (k), .int .i64 (l), .int .i64 (u)])) (by simp [results, Tryd.results59, go_sem]) rfl ⟨rfl, below2 _ _ _⟩

set_option maxHeartbeats 400000 in
theorem right_2 (w : World) : Calls Tryd.prog 97 #[(.agg #[.int .i64 (2), .int .i64 (0), .int .i64 (0), .int .i64 (1), .int .i64 (7), .int .i64 (8)])] w fun e w' => e = .returned (.bool true) ∧ Below w.heap.size w w' := by
  go_enter Tryd.func97, Tryd.ntmps97
  go_wp2
  go_ret
  exact ⟨rfl, below1 _ _⟩

end Go.Proofs.YtpkmgdpnimecfabDoor

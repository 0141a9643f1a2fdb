/- Package lease, any try. Conditions: the numbers stay small. -/
import Derived.Test.YtbbcicengfmhiaaGreatDoorM1
import Derived.Test.YtbbcicengfmhiaaGreatDoorM4
import Derived.Test.YtbbcicengfmhiaaGreatDoorBlk
import Derived.WalkSpells
import Derived.WalkLawsBesides
namespace Go.Proofs.YtbbcicengfmhiaaGreatDoor
set_option maxRecDepth 100000
open Go.RowKit

abbrev aT (t : TryV) : Value := .agg #[.int .i64 t.st, .int .i64 t.since, .int .i64 t.missed, .int .i64 t.wk, .int .i64 t.ls, .int .i64 t.til]
theorem aT_enc (t : TryV) : Value.agg (encTry t).toArray = aT t := rfl
def smallI (n : Int) : Prop := -4398046511104 ≤ n ∧ n ≤ 4398046511104
theorem below2' (w : World) (a b : Obj) : Below w.heap.size w ((w.alloc a).alloc b) := below2 w a b
set_option maxHeartbeats 1000000 in
theorem leaseOpen (t : TryV) (now : Int) (w : World) : Calls Tryz.prog 104 #[aT t, .int .i64 now] w fun e w' => e = .returned (aT (openT t now)) ∧ Below w.heap.size w w' := by
  obtain ⟨s, si, m, k, l, u⟩ := t
  by_cases h : s = 0
  · subst h
    rw [show openT ⟨0, si, m, k, l, u⟩ now = ⟨1, now, m, k, l, u⟩ from rfl]
    go_enter Tryz.func104, Tryz.ntmps104
    go_wp2
    exact bodyPost_ret (v := aT ⟨1, now, m, k, l, u⟩) (by simp [results, Tryz.results104, go_sem]) rfl ⟨rfl, below2 _ _ _⟩
  · rw [show openT ⟨s, si, m, k, l, u⟩ now = ⟨s, si, m, k, l, u⟩ from if_neg h]
    have hs : (s == 0) = false := by simpa using h
    go_enter Tryz.func104, Tryz.ntmps104
    go_wp2
    exact bodyPost_ret (v := aT ⟨s, si, m, k, l, u⟩) (by simp [results, Tryz.results104, go_sem]) rfl ⟨rfl, below2 _ _ _⟩
set_option maxHeartbeats 1000000 in
theorem leaseMiss (t : TryV) (at_ retry : Int) (w : World) (hm : smallI t.missed) (ha : smallI at_) : Calls Tryz.prog 64 #[aT t, .int .i64 at_, .int .i64 retry] w fun e w' => e = .returned (aT (missT t at_ retry)) ∧ Below w.heap.size w w' := by
  obtain ⟨s, si, m, k, l, u⟩ := t
  obtain ⟨m0, m1⟩ := hm
  obtain ⟨a0, a1⟩ := ha
  dsimp only at m0 m1
  by_cases h : s = 2
  · subst h
    by_cases hr : retry < m + 1
    · rw [show missT ⟨2, si, m, k, l, u⟩ at_ retry = ⟨4, 0, m + 1, 0, 0, 0⟩ by simp [missT, hr]]
      go_enter Tryz.func64, Tryz.ntmps64
      go_wp2
      exact bodyPost_ret (v := aT ⟨4, 0, m + 1, 0, 0, 0⟩) (by simp [results, Tryz.results64, go_sem]) rfl ⟨rfl, below3 _ _ _ _⟩
    · have hr' : m + 1 ≤ retry := by omega
      rw [show missT ⟨2, si, m, k, l, u⟩ at_ retry = ⟨1, at_ + (m + 1), m + 1, 0, 0, 0⟩ by simp [missT, hr]]
      clear hr
      go_enter Tryz.func64, Tryz.ntmps64
      go_wp2
      exact bodyPost_ret (v := aT ⟨1, at_ + (m + 1), m + 1, 0, 0, 0⟩) (by simp [results, Tryz.results64, go_sem]) rfl ⟨rfl, below3 _ _ _ _⟩
  · rw [show missT ⟨s, si, m, k, l, u⟩ at_ retry = ⟨s, si, m, k, l, u⟩ from if_pos h]
    have hs : (s == 2) = false := by simpa using h
    go_enter Tryz.func64, Tryz.ntmps64
    go_wp2
    exact bodyPost_ret (v := aT ⟨s, si, m, k, l, u⟩) (by simp [results, Tryz.results64, go_sem]) rfl ⟨rfl, below2 _ _ _⟩
set_option maxHeartbeats 1000000 in
theorem leaseSettle (t : TryV) (now retry : Int) (w : World) (hm : smallI t.missed) (ha : smallI t.til) : Calls Tryz.prog 57 #[aT t, .int .i64 now, .int .i64 retry] w fun e w' => e = .returned (aT (settleT t now retry)) ∧ Below w.heap.size w w' := by
  have K := Lib.hid (fun W => leaseMiss t t.til retry W hm ha)
  obtain ⟨s, si, m, k, l, u⟩ := t
  clear hm ha
  by_cases h : s = 2 ∧ u ≤ now
  · rw [show settleT ⟨s, si, m, k, l, u⟩ now retry = missT ⟨s, si, m, k, l, u⟩ u retry from if_pos h]
    obtain ⟨rfl, h2⟩ := h
    dsimp only at K
    generalize missT ⟨2, si, m, k, l, u⟩ u retry = r at *
    have HB := Lib.hid (below2 w (.cells #[.int .i64 2, .int .i64 si, .int .i64 m, .int .i64 k, .int .i64 l, .int .i64 u] 103) (.cells #[.int .i64 0, .int .i64 0, .int .i64 0, .int .i64 0, .int .i64 0, .int .i64 0] 103))
    have hq := BlkIs.alloc (w.alloc (.cells #[.int .i64 2, .int .i64 si, .int .i64 m, .int .i64 k, .int .i64 l, .int .i64 u] 103)) [.int .i64 0, .int .i64 0, .int .i64 0, .int .i64 0, .int .i64 0, .int .i64 0] 103
    have hz : (w.alloc (.cells #[.int .i64 2, .int .i64 si, .int .i64 m, .int .i64 k, .int .i64 l, .int .i64 u] 103)).heap.size = w.heap.size + 1 := Array.size_push _
    rw [hz] at hq
    have HQ := Lib.hid hq
    clear hq hz
    go_enter Tryz.func57, Tryz.ntmps57
    go_wp2_with fail
    generalize (w.alloc (.cells #[.int .i64 2, .int .i64 si, .int .i64 m, .int .i64 k, .int .i64 l, .int .i64 u] 103)).alloc (.cells #[.int .i64 0, .int .i64 0, .int .i64 0, .int .i64 0, .int .i64 0, .int .i64 0] 103) = W1 at HB HQ ⊢
    refine (K.out _).mono ?_
    rintro e w2 ⟨rfl, hb⟩
    have HQ2 := HQ.out.below hb
    have c0 := HQ2.cell 0
    have c1 := HQ2.cell 1
    have c2 := HQ2.cell 2
    have c3 := HQ2.cell 3
    have c4 := HQ2.cell 4
    have c5 := HQ2.cell 5
    simp only [List.getElem?_cons_zero, List.getElem?_cons_succ] at c0 c1 c2 c3 c4 c5
    have f0 := HQ2.frozen 0
    have f1 := HQ2.frozen 1
    have f2 := HQ2.frozen 2
    have f3 := HQ2.frozen 3
    have f4 := HQ2.frozen 4
    have f5 := HQ2.frozen 5
    have HB2 := Lib.hid (HB.out.trans (hb.mono HB.out.size))
    clear hb HQ2
    go_wp2
    refine bodyPost_ret (v := aT r) (by rw [results_cellY rfl]; go_simp) rfl ⟨rfl, ?_⟩
    exact below_set6 HB2.out (by omega) _ _ _ _ _ _
  · rw [show settleT ⟨s, si, m, k, l, u⟩ now retry = ⟨s, si, m, k, l, u⟩ from if_neg h]
    by_cases h2 : s = 2
    · subst h2
      have h3 : now < u := by omega
      clear h K
      go_enter Tryz.func57, Tryz.ntmps57
      go_wp2
      exact bodyPost_ret (v := aT ⟨2, si, m, k, l, u⟩) (by simp [results, Tryz.results57, go_sem]) rfl ⟨rfl, below2 _ _ _⟩
    · have hs : (s == 2) = false := by simpa using h2
      clear h K
      go_enter Tryz.func57, Tryz.ntmps57
      go_wp2
      exact bodyPost_ret (v := aT ⟨s, si, m, k, l, u⟩) (by simp [results, Tryz.results57, go_sem]) rfl ⟨rfl, below2 _ _ _⟩
set_option maxHeartbeats 1000000 in
theorem leaseTake (t : TryV) (now wk n time : Int) (w : World) (hn : smallI now) (ht : smallI time) : Calls Tryz.prog 61 #[aT t, .int .i64 now, .int .i64 wk, .int .i64 n, .int .i64 time] w fun e w' => e = .returned (.tuple #[aT (takeT t now wk n time).1, .int .i64 (takeT t now wk n time).2]) ∧ Below w.heap.size w w' := by
  obtain ⟨s, si, m, k, l, u⟩ := t
  obtain ⟨n0, n1⟩ := hn
  obtain ⟨t0, t1⟩ := ht
  by_cases h : s = 1
  · subst h
    by_cases h2 : now < si
    · rw [show takeT ⟨1, si, m, k, l, u⟩ now wk n time = (zT, 12) from if_pos (.inr h2)]
      go_enter Tryz.func61, Tryz.ntmps61
      go_wp2
      exact bodyPost_ret (v := .tuple #[aT zT, .int .i64 12]) (by simp [results, Tryz.results61, go_sem, zT]) rfl ⟨rfl, below2 _ _ _⟩
    · have h3 : si ≤ now := by omega
      rw [show takeT ⟨1, si, m, k, l, u⟩ now wk n time = (⟨2, 0, m, wk, n, now + time⟩, 0) from if_neg (by simp; omega)]
      clear h2
      go_enter Tryz.func61, Tryz.ntmps61
      go_wp2
      exact bodyPost_ret (v := .tuple #[aT ⟨2, 0, m, wk, n, now + time⟩, .int .i64 0]) (by simp [results, Tryz.results61, go_sem]) rfl ⟨rfl, below2 _ _ _⟩
  · rw [show takeT ⟨s, si, m, k, l, u⟩ now wk n time = (zT, 12) from if_pos (.inl h)]
    have hs : (s != 1) = true := by simpa using h
    go_enter Tryz.func61, Tryz.ntmps61
    go_wp2
    exact bodyPost_ret (v := .tuple #[aT zT, .int .i64 12]) (by simp [results, Tryz.results61, go_sem, zT]) rfl ⟨rfl, below2 _ _ _⟩
set_option maxHeartbeats 1000000 in
theorem leaseBeat (t : TryV) (now time : Int) (w : World) (hn : smallI now) (ht : smallI time) : Calls Tryz.prog 70 #[aT t, .int .i64 now, .int .i64 time] w fun e w' => e = .returned (aT (beatT t now time)) ∧ Below w.heap.size w w' := by
  obtain ⟨s, si, m, k, l, u⟩ := t
  obtain ⟨n0, n1⟩ := hn
  obtain ⟨t0, t1⟩ := ht
  by_cases h : s = 2
  · subst h
    rw [show beatT ⟨2, si, m, k, l, u⟩ now time = ⟨2, si, m, k, l, now + time⟩ from rfl]
    go_enter Tryz.func70, Tryz.ntmps70
    go_wp2
    exact bodyPost_ret (v := aT ⟨2, si, m, k, l, now + time⟩) (by simp [results, Tryz.results70, go_sem]) rfl ⟨rfl, below2 _ _ _⟩
  · rw [show beatT ⟨s, si, m, k, l, u⟩ now time = ⟨s, si, m, k, l, u⟩ from if_neg h]
    have hs : (s == 2) = false := by simpa using h
    go_enter Tryz.func70, Tryz.ntmps70
    go_wp2
    exact bodyPost_ret (v := aT ⟨s, si, m, k, l, u⟩) (by simp [results, Tryz.results70, go_sem]) rfl ⟨rfl, below2 _ _ _⟩
set_option maxHeartbeats 1000000 in
theorem leaseDone (t : TryV) (w : World) : Calls Tryz.prog 63 #[aT t] w fun e w' => e = .returned (aT (doneT t)) ∧ Below w.heap.size w w' := by
  obtain ⟨s, si, m, k, l, u⟩ := t
  by_cases h : s = 2
  · subst h
    rw [show doneT ⟨2, si, m, k, l, u⟩ = ⟨3, 0, m, 0, 0, 0⟩ from rfl]
    go_enter Tryz.func63, Tryz.ntmps63
    go_wp2
    exact bodyPost_ret (v := aT ⟨3, 0, m, 0, 0, 0⟩) (by simp [results, Tryz.results63, go_sem]) rfl ⟨rfl, below2 _ _ _⟩
  · by_cases h1 : s = 1
    · subst h1
      rw [show doneT ⟨1, si, m, k, l, u⟩ = ⟨3, 0, m, 0, 0, 0⟩ from rfl]
      clear h
      go_enter Tryz.func63, Tryz.ntmps63
      go_wp2
      exact bodyPost_ret (v := aT ⟨3, 0, m, 0, 0, 0⟩) (by simp [results, Tryz.results63, go_sem]) rfl ⟨rfl, below2 _ _ _⟩
    · rw [show doneT ⟨s, si, m, k, l, u⟩ = ⟨s, si, m, k, l, u⟩ from if_neg (by simp [h, h1])]
      have hs : (s == 2) = false := by simpa using h
      have hs1 : (s == 1) = false := by simpa using h1
      go_enter Tryz.func63, Tryz.ntmps63
      go_wp2
      exact bodyPost_ret (v := aT ⟨s, si, m, k, l, u⟩) (by simp [results, Tryz.results63, go_sem]) rfl ⟨rfl, below2 _ _ _⟩
set_option maxHeartbeats 1000000 in
theorem leaseHolds (t : TryV) (now wk n : Int) (w : World) : Calls Tryz.prog 66 #[aT t, .int .i64 now, .int .i64 wk, .int .i64 n] w fun e w' => e = .returned (.bool (holdsT t now wk n)) ∧ Below w.heap.size w w' := by
  obtain ⟨s, si, m, k, l, u⟩ := t
  have HX := Lib.hid (below1 w (.cells #[.int .i64 s, .int .i64 si, .int .i64 m, .int .i64 k, .int .i64 l, .int .i64 u] 103))
  show Calls Tryz.prog 66 _ w fun e w' => e = .returned (.bool (decide (s = 2) && (decide (k = wk) && (decide (l = n) && decide (now < u))))) ∧ Below w.heap.size w w'
  by_cases h1 : s = 2
  · subst h1
    by_cases h2 : k = wk
    · subst h2
      by_cases h3 : l = n
      · subst h3
        by_cases h4 : now < u
        · rw [show (decide ((2 : Int) = 2) && (decide (k = k) && (decide (l = l) && decide (now < u)))) = true by simp [h4]]
          go_enter Tryz.func66, Tryz.ntmps66
          go_wp2
          go_ret
          exact ⟨rfl, HX.out⟩
        · rw [show (decide ((2 : Int) = 2) && (decide (k = k) && (decide (l = l) && decide (now < u)))) = false by simp; omega]
          have h5 : decide (now < u) = false := by simpa using h4
          clear h4
          go_enter Tryz.func66, Tryz.ntmps66
          go_wp2
          go_ret
          exact ⟨rfl, HX.out⟩
      · rw [show (decide ((2 : Int) = 2) && (decide (k = k) && (decide (l = n) && decide (now < u)))) = false by simp [h3]]
        have h5 : (l == n) = false := by simpa using h3
        clear h3
        go_enter Tryz.func66, Tryz.ntmps66
        go_wp2
        go_ret
        exact ⟨rfl, HX.out⟩
    · rw [show (decide ((2 : Int) = 2) && (decide (k = wk) && (decide (l = n) && decide (now < u)))) = false by simp [h2]]
      have h5 : (k == wk) = false := by simpa using h2
      clear h2
      go_enter Tryz.func66, Tryz.ntmps66
      go_wp2
      go_ret
      exact ⟨rfl, HX.out⟩
  · rw [show (decide (s = 2) && (decide (k = wk) && (decide (l = n) && decide (now < u)))) = false by simp [h1]]
    have h5 : (s == 2) = false := by simpa using h1
    clear h1
    go_enter Tryz.func66, Tryz.ntmps66
    go_wp2
    go_ret
    exact ⟨rfl, HX.out⟩
end Go.Proofs.YtbbcicengfmhiaaGreatDoor

/- 'small' and the document's Right of layer 11 give back a bool; where it is true the numbers are bounded. No condition. -/
import Derived.Test.YtdiepigkdppikaaLease1
import Derived.ArgAppend
import Derived.Deep.AppendLies
namespace Go.Proofs.Ytdiepigkdppikaa
open Go.RowKit

theorem int_info : (Try.prog.info? 3).map (fun i => (i.zero, i.size, i.bytes)) = some (some (.int .i64 0), 1, 8) := by kernel_rfl

def inR (n : Int) : Bool := decide (-1099511627776 ≤ n ∧ n ≤ 1099511627776)
theorem inR_true {n : Int} (h : inR n = true) : -1099511627776 ≤ n ∧ n ≤ 1099511627776 := by simpa [inR] using h
theorem inR_lo {n : Int} (h : n < -1099511627776) : inR n = false := by simp [inR]; omega
theorem inR_hi {n : Int} (h : 1099511627776 < n) : inR n = false := by simp [inR]; omega
theorem inR_mk {n : Int} (h : -1099511627776 ≤ n) (h' : n ≤ 1099511627776) : inR n = true := by simp [inR]; omega
def allR (l : List Int) : Bool := l.all inR
theorem allR_step {l : List Int} {k : Nat} (hk : k < l.length) (h : allR (l.take k) = true) (h2 : inR (l.getD k 0) = true) : allR (l.take (k + 1)) = true := by
  unfold allR at *
  rw [List.take_succ_eq_append_getElem hk, List.all_append]
  simp [h]
  simpa [List.getD_eq_getElem?_getD, hk] using h2
theorem allR_no {l : List Int} {k : Nat} (hk : k < l.length) (h2 : inR (l.getD k 0) = false) : allR l = false := by
  unfold allR
  rw [List.all_eq_false]
  exact ⟨l.getD k 0, by rw [List.getD_eq_getElem?_getD, List.getElem?_eq_getElem hk]; simp, by rw [h2]; decide⟩

def row9 (s si m k l u a b c : Int) : List Int := [a, b, c, s, si, m, k, l, u]
theorem row9_len (s si m k l u a b c : Int) : (row9 s si m k l u a b c).length = 9 := rfl

set_option maxRecDepth 100000 in
set_option maxHeartbeats 1000000 in
theorem small_any (s si m k l u a b c : Int) (q o : Nat) (w : World) (h0 : w.cell? ⟨q, o, none⟩ = some (.int .i64 a)) (h1 : w.cell? ⟨q, o + 1, none⟩ = some (.int .i64 b)) (h2 : w.cell? ⟨q, o + 2, none⟩ = some (.int .i64 c)) :
    Calls Try.prog 19 #[(.agg #[.int .i64 (s), .int .i64 (si), .int .i64 (m), .int .i64 (k), .int .i64 (l), .int .i64 (u)]), .slice (some ⟨q, o, none⟩) 3 3] w fun e w' => e = .returned (.bool (allR (row9 s si m k l u a b c))) ∧ Below w.heap.size w w' := by
  obtain ⟨i0, hi, hz0, hz1, hz2⟩ := info_parts int_info
  have hq : q < w.heap.size := by
    have := h0
    unfold World.cell? at this
    cases hh : w.heap[q]? with
    | none => simp [hh] at this
    | some x => exact (Array.getElem?_eq_some_iff.1 hh).1
  go_enter Try.func19, Try.ntmps19
  go_wp2_with (at_builtin; refine wpList_append_grows _ rfl (.tmp 7) (.tmp 20) 64 rfl 3 i0 (.int .i64 0) 1 8 Try.underlying64 hi hz0 hz1 hz2 rfl (by decide) (some ⟨q, o, none⟩) 3 3 [.int .i64 a, .int .i64 b, .int .i64 c] rfl (by simp) rfl ?c1 ⟨w.heap.size + 1, 0, none⟩ 6 6 [.int .i64 s, .int .i64 si, .int .i64 m, .int .i64 k, .int .i64 l, .int .i64 u] rfl rfl ?c2 ?c3 (by omega) (by unfold maxLen; omega) (by omega) ?_)
  case c1 =>
    rintro x hx j u hj
    obtain rfl : ⟨q, o, none⟩ = x := by simpa using hx
    match j, hj with
    | 0, hj => simp at hj; subst hj; go_simp
    | 1, hj => simp at hj; subst hj; simp only [Addr.add]; go_simp
    | 2, hj => simp at hj; subst hj; simp only [Addr.add]; go_simp
  case c2 =>
    rintro j u hj
    match j, hj with
    | 0, hj => simp at hj; subst hj; go_simp
    | 1, hj => simp at hj; subst hj; simp only [Addr.add]; go_simp
    | 2, hj => simp at hj; subst hj; simp only [Addr.add]; go_simp
    | 3, hj => simp at hj; subst hj; simp only [Addr.add]; go_simp
    | 4, hj => simp at hj; subst hj; simp only [Addr.add]; go_simp
    | 5, hj => simp at hj; subst hj; simp only [Addr.add]; go_simp
  case c3 => simp [Value.oneCell']
  intro v' w1 hown hg
  obtain ⟨g, cap, rfl, hg1, hg2⟩ := World.ownsRow.form hown (by omega)
  have hcell : ∀ j, j < 9 → w1.cell? ⟨g, j, none⟩ = some (.int .i64 ((row9 s si m k l u a b c).getD j 0)) := by
    intro j hj
    rw [World.ownsRow.cellAt hown j (by omega)]
    match j, hj with
    | 0, _ => rfl
    | 1, _ => rfl
    | 2, _ => rfl
    | 3, _ => rfl
    | 4, _ => rfl
    | 5, _ => rfl
    | 6, _ => rfl
    | 7, _ => rfl
    | 8, _ => rfl
  have hbw : Below w.heap.size w w1 := (below2 w _ _).grown hg (by simp; omega) (by simp)
  clear hown hg
  go_wp2
  go_loop [6, 23] (fun _ i => ∃ j : Nat, j ≤ 9 ∧ i = .int .i64 j ∧ allR ((row9 s si m k l u a b c).take j) = true) (fun _ i => 9 - (intOf i).toNat)
  case atStart => exact ⟨0, by omega, rfl, rfl⟩
  case round =>
    obtain ⟨j, hj, rfl, hall⟩ := hrel
    by_cases hlt : j < 9
    · have hc := hcell j hlt
      have HA := Lib.hid hall
      clear hall hcell
      generalize hx : (row9 s si m k l u a b c).getD j 0 = x at hc
      have HX := Lib.hid hx
      clear hx
      by_cases p1 : x < -1099511627776
      · have t1 : decide (x < -1099511627776) = true := decide_eq_true p1
        have HP := Lib.hid p1
        clear p1
        go_wp2
        go_ret
        refine ⟨?_, hbw⟩
        rw [allR_no (k := j) (by rw [row9_len]; exact hlt) (by rw [HX.out]; exact inR_lo HP.out)]
        rfl
      · by_cases p2 : 1099511627776 < x
        · have t1 : decide (x < -1099511627776) = false := decide_eq_false p1
          have t2 : decide (1099511627776 < x) = true := decide_eq_true p2
          have HP := Lib.hid p2
          clear p1 p2
          go_wp2
          go_ret
          refine ⟨?_, hbw⟩
          rw [allR_no (k := j) (by rw [row9_len]; exact hlt) (by rw [HX.out]; exact inR_hi HP.out)]
          rfl
        · have t1 : decide (x < -1099511627776) = false := decide_eq_false p1
          have t2 : decide (1099511627776 < x) = false := decide_eq_false p2
          have HP := Lib.hid p1
          have HP2 := Lib.hid p2
          clear p1 p2
          go_wp2
          go_round
          case rel => exact ⟨j + 1, by omega, by go_num, allR_step (by rw [row9_len]; exact hlt) HA.out (by rw [HX.out]; exact inR_mk (by have := HP.out; omega) (by have := HP2.out; omega))⟩
          case measure => simp [intOf]; omega
    · obtain rfl : j = 9 := by omega
      have HA := Lib.hid hall
      clear hall hcell
      go_wp2
      go_ret
      refine ⟨?_, hbw⟩
      rw [show allR (row9 s si m k l u a b c) = true from HA.out]
      rfl
end Go.Proofs.Ytdiepigkdppikaa

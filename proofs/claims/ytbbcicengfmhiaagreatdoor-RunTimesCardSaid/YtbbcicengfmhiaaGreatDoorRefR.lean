/- The document's: which texts are names, which pipelines may be. Conditions: sizes. -/
import Derived.Test.YtbbcicengfmhiaaGreatDoorMan2
import Derived.Test.YtbbcicengfmhiaaGreatDoorRou
import Derived.Deep.DeepCutAuto
import Derived.RegionTactic
import Derived.ChangeAlike
import Derived.BigRegion
import Derived.Deep.RegionHeld3
namespace Go.Proofs.YtbbcicengfmhiaaGreatDoor
set_option maxRecDepth 100000
open Go.RowKit

set_option maxHeartbeats 1000000 in
theorem ref07Name (s : ByteArray) (w : World) (hs : s.size ≤ maxLen) :
    Calls Tryz.prog 96 #[.string s] w fun e w' => e = .returned (.bool (nameB s)) ∧ w = w' := by
  unfold maxLen at hs
  have HY := Lib.hid (fun (h : ∀ j (hj : j < s.size), lowB s[j] = true) => show nameB s = (decide (1 ≤ s.size) && decide (s.size ≤ 8)) by
    rw [name_yes h]
    have hsz : s.data.toList.length = s.size := by simp
    have : (!s.data.toList.isEmpty) = decide (1 ≤ s.size) := by
      rw [← hsz]
      cases s.data.toList <;> simp
    rw [this])
  have HN := Lib.hid (fun k (hk : k < s.size) (h : lowB s[k] = false) => name_no hk h)
  generalize nameB s = R at HY HN ⊢
  go_enter Tryz.func96, Tryz.ntmps96
  go_wp2
  go_loop [3] (fun i => ∃ k : Nat, k ≤ s.size ∧ i = .int .i64 k ∧ ∀ j (hj : j < s.size), j < k → lowB s[j] = true) (fun i => s.size - (intOf i).toNat)
  case atStart => exact ⟨0, by omega, rfl, fun j _ hj => absurd hj (by omega)⟩
  case round =>
    obtain ⟨k, hk, rfl, hall⟩ := hrel
    have HA := Lib.hid hall
    clear hall
    by_cases hlt : k < s.size
    · have hltz : (k : Int) < (s.size : Int) := by omega
      have HL := Lib.hid (show lowB s[k] = (decide (97 ≤ s[k].toNat) && decide (s[k].toNat ≤ 122)) from rfl)
      have HX := Lib.hid (fun (h : lowB s[k] = true) => show ∀ j (hj : j < s.size), j < k + 1 → lowB s[j] = true from fun j hj hjk => by
        by_cases e : j = k
        · subst e; exact h
        · exact HA.out j hj (by omega))
      have HF := Lib.hid (fun (h : lowB s[k] = false) => HN.out k hlt h)
      go_wp2
      all_goals first
        | (go_round
           case rel => exact ⟨k + 1, by omega, by go_num, HX.out (by rw [HL.out]; simp; omega)⟩
           case measure => simp [intOf]; omega)
        | (have hR := HF.out (by rw [HL.out]; simp; omega)
           go_ret
           exact ⟨by rw [hR]; rfl, rfl⟩)
    · obtain rfl : k = s.size := by omega
      have HR := Lib.hid (HY.out (fun j hj => HA.out j hj hj))
      by_cases h1 : (1 : Int) ≤ (s.size : Int)
      · have hR : R = decide (s.size ≤ 8) := by rw [HR.out, decide_eq_true (show 1 ≤ s.size by omega)]; rfl
        have HRR := Lib.hid hR
        clear hR
        go_wp2
        go_ret
        exact ⟨ret_bool (show decide ((s.size : Int) ≤ 8) = R by rw [HRR.out, Bool.eq_iff_iff]; simp; try omega), rfl⟩
      · have hR : R = false := by rw [HR.out, decide_eq_false (show ¬ 1 ≤ s.size by omega)]; rfl
        have HRR := Lib.hid hR
        clear hR
        go_wp2
        go_ret
        exact ⟨by rw [HRR.out]; rfl, rfl⟩

def c7B (nm : ByteArray) (retry time need lv : Int) : Bool := nameB nm && (withinB time 1 100 && (withinB need 0 4 && (withinB retry 0 5 && rightLv lv)))
theorem rest_c7 {nm : ByteArray} {retry time need lv : Int} {set : Nat} (h : c7B nm retry time need lv = false) : restB nm retry time need lv set = false := by
  cases hr : restB nm retry time need lv set with
  | false => rfl
  | true =>
    rw [← h]
    unfold restB at hr
    unfold c7B
    rw [Bool.and_eq_true] at hr
    obtain ⟨h1, h2⟩ := hr
    simp only [Bool.and_eq_true] at h1
    obtain ⟨q1, q2, q3, q4⟩ := h1
    rw [q1, q2, q3, q4]
    suffices rightLv lv = true by rw [this]; rfl
    split at h2
    · rw [Bool.and_eq_true] at h2
      exact h2.2
    · rw [Bool.and_eq_true] at h2
      have : lv = 0 := by simpa using h2.1
      subst this
      decide
theorem rest_c9a {nm : ByteArray} {retry time lv : Int} {set : Nat} (h : (lv == 0 && set == 0) = false) : restB nm retry time 0 lv set = false := by
  unfold restB
  rw [if_neg (by decide), h, Bool.and_false]
theorem rest_c9b {nm : ByteArray} {retry time need lv : Int} {set : Nat} (hn : 0 < need) (h : (retry == 0) = false) : restB nm retry time need lv set = false := by
  unfold restB
  rw [if_pos hn, h, Bool.false_and, Bool.and_false]
theorem rest_yes {nm : ByteArray} {retry time need lv : Int} {set : Nat} (h : c7B nm retry time need lv = true) (h1 : need = 0 → (lv == 0 && set == 0) = true) (h2 : 0 < need → retry = 0) : restB nm retry time need lv set = true := by
  unfold c7B at h
  simp only [Bool.and_eq_true] at h
  obtain ⟨q1, q2, q3, q4, q5⟩ := h
  unfold restB
  rw [q1, q2, q3, q4]
  simp only [Bool.true_and]
  split
  · rename_i hn
    have := h2 hn
    subst this
    unfold rightLv at q5
    rw [q5]
    rfl
  · unfold withinB at q3
    simp only [Bool.and_eq_true, decide_eq_true_eq] at q3
    exact h1 (by omega)
/-- a task's own fits, but its name -/
theorem task_no {ts : List TaskV} {i : Nat} (hi : i < ts.length) (h : taskB ts.length ts[i]! = false ∨ newB ts i = false) : tasksB ts ts.length = false := by
  refine tasksB_no hi ?_
  rcases h with h | h
  · rw [h, Bool.false_and]
  · rw [h, Bool.and_false]
theorem new_no {ts : List TaskV} {i k : Nat} (hi : i < ts.length) (hk : k < i) (h : (ts[k]!.nm.data.toList == ts[i]!.nm.data.toList) = true) : newB ts i = false := by
  unfold newB
  have : ((ts.take i).any fun u => u.nm.data.toList == ts[i]!.nm.data.toList) = true := by
    rw [List.any_eq_true]
    refine ⟨ts[k]!, ?_, h⟩
    rw [getElem!_pos ts k (by omega)]
    exact List.mem_take_iff_getElem.2 ⟨k, by omega, rfl⟩
  rw [this]
  rfl
theorem new_yes {ts : List TaskV} {i : Nat} (hi : i < ts.length) (h : ∀ k, k < i → (ts[k]!.nm.data.toList == ts[i]!.nm.data.toList) = false) : newB ts i = true := by
  unfold newB
  have : ((ts.take i).any fun u => u.nm.data.toList == ts[i]!.nm.data.toList) = false := by
    rw [List.any_eq_false]
    intro u hu
    obtain ⟨k, hk, rfl⟩ := List.mem_take_iff_getElem.1 hu
    have := h k (by omega)
    rw [getElem!_pos ts k (by omega)] at this
    rw [this]
    decide
  rw [this]
  rfl
theorem aft_no {n : Int} {l : List Int} {k : Nat} (hk : k < l.length) (h : l[k]! < 0 ∨ n ≤ l[k]!) : afterB n l l.length = false := by
  refine afterB_no hk ?_
  unfold withinB
  have : (decide (0 ≤ l[k]!) && decide (l[k]! ≤ n - 1)) = false := by
    rw [Bool.and_eq_false_iff]
    rcases h with h | h
    · exact .inl (by rw [decide_eq_false_iff_not]; omega)
    · exact .inr (by rw [decide_eq_false_iff_not]; omega)
  rw [this, Bool.false_and]
theorem aft_dup {n : Int} {l : List Int} {k j : Nat} (hk : k < l.length) (hj : j < k) (h : l[j]! = l[k]!) : afterB n l l.length = false := by
  refine afterB_no hk ?_
  have : ((l.take k).any fun y => l[k]! == y) = true := by
    rw [List.any_eq_true]
    refine ⟨l[j]!, ?_, by simp [h]⟩
    rw [getElem!_pos l j (by omega)]
    exact List.mem_take_iff_getElem.2 ⟨j, by omega, rfl⟩
  rw [this]
  simp
theorem aft_yes {n : Int} {l : List Int} (h : ∀ k, k < l.length → (0 ≤ l[k]! ∧ l[k]! < n) ∧ ∀ j, j < k → l[j]! ≠ l[k]!) : afterB n l l.length = true := by
  unfold afterB
  rw [List.all_eq_true]
  intro k hk
  have hk' : k < l.length := by simpa using hk
  obtain ⟨⟨h1, h2⟩, h3⟩ := h k hk'
  rw [Bool.and_eq_true]
  refine ⟨by unfold withinB; rw [Bool.and_eq_true, decide_eq_true_eq, decide_eq_true_eq]; omega, ?_⟩
  have : ((l.take k).any fun y => l[k]! == y) = false := by
    rw [List.any_eq_false]
    intro y hy
    obtain ⟨j, hj, rfl⟩ := List.mem_take_iff_getElem.1 hy
    have := h3 j (by omega)
    rw [getElem!_pos l j (by omega)] at this
    simp only [beq_iff_eq]
    exact fun e => this e.symm
  rw [this]
  rfl
end Go.Proofs.YtbbcicengfmhiaaGreatDoor

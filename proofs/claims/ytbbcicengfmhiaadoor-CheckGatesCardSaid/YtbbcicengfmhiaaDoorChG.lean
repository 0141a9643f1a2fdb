/- CheckGates, its plain side: what it means that check.Check has nothing to say. -/
import Derived.Test.YtbbcicengfmhiaaDoorChk5
namespace Go.Proofs.YtbbcicengfmhiaaDoor
open Go.RowKit

theorem gates_none {ls : List Lbl} {ps : List Psn} {part : Int} {ts : List TaskV} : ∀ k, gatesE ls ps part ts k = none → ∀ i, i < k → ts[i]!.need ≠ 0 → gateE ls ps part ts[i]! = 0 := by
  intro k
  induction k with
  | zero => intro _ i hi; omega
  | succ k ih =>
    intro h i hi hn
    cases h0 : gatesE ls ps part ts k with
    | some x => rw [gatesE, h0] at h; cases h
    | none =>
      by_cases e : i = k
      · subst e
        rw [gatesE, h0] at h
        simp only [if_neg hn] at h
        by_cases hg : gateE ls ps part ts[i]! = 0
        · exact hg
        · rw [if_neg hg] at h; cases h
      · exact ih h0 i (by omega) hn
theorem chk_none {nm : ByteArray} {ts : List TaskV} {ls : List Lbl} {ps : List Psn} {part : Int} (h : chkE nm ts ls ps part = none) :
    inR ls.length part = true ∧ pipeB nm ts = true ∧ ∀ i, i < ts.length → ts[i]!.need ≠ 0 → gateE ls ps part ts[i]! = 0 := by
  unfold chkE at h
  split at h
  · rename_i h0
    split at h
    · cases h
    · exact ⟨h0.1, h0.2, gates_none _ h⟩
  · cases h
theorem gate_zero {ls : List Lbl} {ps : List Psn} {part : Int} {t : TaskV} (h : gateE ls ps part t = 0) :
    t.after.length = 1 ∧ (∃ j : Nat, j < ls.length ∧ findL ls t.lv t.set = (j : Int) ∧ ls[j]!.1 = t.lv ∧ ls[j]!.2 = t.set) ∧ leqB (labAt ls part).1 (labAt ls part).2 t.lv t.set = false ∧ t.need ≤ ((votL ls ps part t.lv t.set ps.length).length : Int) := by
  unfold gateE at h
  split at h
  · cases h
  · rename_i h1
    split at h
    · cases h
    · rename_i h2
      split at h
      · cases h
      · rename_i h3
        have h2a : ¬ findL ls t.lv t.set < 0 := fun e => h2 (.inl e)
        have h2b : ¬ leqB (labAt ls part).1 (labAt ls part).2 t.lv t.set = true := fun e => h2 (.inr e)
        refine ⟨by simpa using h1, ?_, by simpa using h2b, by omega⟩
        unfold findL idxI at h2a ⊢
        cases hf : ls.findIdx? (fun y => t.lv == y.1 && t.set == y.2) with
        | none => rw [hf] at h2a; exact absurd (by decide : (-1 : Int) < 0) h2a
        | some j =>
          rw [List.findIdx?_eq_some_iff_getElem] at hf
          obtain ⟨hj, hp, _⟩ := hf
          simp only [Bool.and_eq_true, beq_iff_eq] at hp
          rw [← getElem!_pos ls j hj] at hp
          exact ⟨j, hj, rfl, hp.1.symm, hp.2.symm⟩
theorem vot_mem {ls : List Lbl} {ps : List Psn} {part a : Int} {x : Nat} {who : Int} : ∀ k, who ∈ votL ls ps part a x k → ∃ i : Nat, who = i ∧ i < k ∧ votB ls ps part a x i = true := by
  intro k
  induction k with
  | zero => intro h; simp [votL] at h
  | succ k ih =>
    intro h
    rw [votL, List.mem_append] at h
    rcases h with h | h
    · obtain ⟨i, h1, h2, h3⟩ := ih h
      exact ⟨i, h1, by omega, h3⟩
    · split at h
      · rename_i hb
        simp at h
        exact ⟨k, h, by omega, hb⟩
      · simp at h
theorem vot_facts {ls : List Lbl} {ps : List Psn} {part a : Int} {x : Nat} {i : Nat} (hi : i < ps.length) (h : votB ls ps part a x i = true) :
    ps[i]!.1 = part ∧ leqB (offLv (labAt ls part).1 a) (mNot (labAt ls part).2 x) ps[i]!.2.1 ps[i]!.2.2 = true := by
  unfold votB at h
  simp only [Bool.and_eq_true, beq_iff_eq] at h
  obtain ⟨h1, h2⟩ := h
  have hin : inR ps.length (i : Int) = true := by unfold inR; simp; omega
  have hpa : partAt ps i = ps[i]!.1 := by unfold partAt; rw [hin]; rfl
  unfold mayB at h2
  rw [h1] at h2
  simp only [Bool.and_eq_true] at h2
  refine ⟨by rw [← hpa]; exact h1, ?_⟩
  have := h2.2.2
  simpa using this
theorem targL_get {ls : List Lbl} {ts : List TaskV} : ∀ k i, i < k → (targL ls ts k)[i]! = targ1 ls ts[i]! := by
  intro k
  induction k with
  | zero => intro i hi; omega
  | succ k ih =>
    intro i hi
    rw [targL]
    have hl := targL_len ls ts k
    by_cases e : i = k
    · subst e
      rw [getElem!_pos _ _ (by simp [hl])]
      simp [hl]
    · have := ih i (by omega)
      rw [getElem!_pos _ _ (by omega)] at this
      rw [getElem!_pos _ _ (by simp [hl]; omega), List.getElem_append_left (by omega)]
      exact this
theorem need_pos {nm : ByteArray} {ts : List TaskV} (h : pipeB nm ts = true) {i : Nat} (hi : i < ts.length) (hn : ts[i]!.need ≠ 0) : 0 < ts[i]!.need := by
  have := pipeB_task h hi
  unfold taskB restB withinB at this
  simp only [Bool.and_eq_true, decide_eq_true_eq] at this
  have := this.2.1.2.2.1.1
  omega
/-- all that the law asks of a task that has a gate -/
theorem gate_facts {nm : ByteArray} {ts : List TaskV} {ls : List Lbl} {ps : List Psn} {part : Int} (h : chkE nm ts ls ps part = none) {i : Nat} (hi : i < ts.length) (hn : ts[i]!.need ≠ 0) :
    ts[i]!.after.length = 1 ∧ (∃ j : Nat, j < ls.length ∧ (targetsL nm ts ls)[i]! = (j : Int) ∧ ls[j]!.1 = ts[i]!.lv ∧ ls[j]!.2 = ts[i]!.set) ∧ leqB (labAt ls part).1 (labAt ls part).2 ts[i]!.lv ts[i]!.set = false ∧ ts[i]!.need ≤ ((votL ls ps part ts[i]!.lv ts[i]!.set ps.length).length : Int) := by
  obtain ⟨_, h2, h3⟩ := chk_none h
  obtain ⟨g1, ⟨j, g2, g3, g4⟩, g5⟩ := gate_zero (h3 i hi hn)
  refine ⟨g1, ⟨j, g2, ?_, g4⟩, g5⟩
  unfold targetsL
  rw [if_pos h2, targL_get _ _ hi]
  unfold targ1
  rw [if_pos (need_pos h2 hi hn)]
  exact g3
theorem targetsL_len {nm : ByteArray} {ts : List TaskV} {ls : List Lbl} (h : pipeB nm ts = true) : (targetsL nm ts ls).length = ts.length := by
  unfold targetsL
  rw [if_pos h, targL_len]
end Go.Proofs.YtbbcicengfmhiaaDoor

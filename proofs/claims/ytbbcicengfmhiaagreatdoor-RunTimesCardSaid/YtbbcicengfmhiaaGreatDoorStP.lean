/- Settle of a run: plain. No program here. -/
import Derived.Test.YtbbcicengfmhiaaGreatDoorM2
namespace Go.Proofs.YtbbcicengfmhiaaGreatDoor

def settleP (t : TaskV) (p : PartV) (now : Int) : PartV :=
  if t.need = 0 then { p with try_ := settleT p.try_ now t.retry } else if p.try_.st = 1 ∧ p.try_.since + t.time ≤ now then { p with try_ := ⟨4, 0, p.try_.missed, 0, 0, 0⟩ } else p
/-- what the first k rounds settle -/
def settleK (ts : List TaskV) (now : Int) (ps : List PartV) : Nat → List PartV
  | 0 => ps
  | k + 1 => (settleK ts now ps k).set k (settleP ts[k]! ps[k]! now)
theorem settleK_len (ts : List TaskV) (now : Int) (ps : List PartV) : ∀ k, (settleK ts now ps k).length = ps.length
  | 0 => rfl
  | k + 1 => by
    unfold settleK
    rw [List.length_set]
    exact settleK_len ts now ps k
theorem setP_at {l : List PartV} {k j : Nat} (p : PartV) (hj : j < l.length) : (l.set k p)[j]! = if k = j then p else l[j]! := by
  rw [getElem!_pos _ j (by simpa using hj), List.getElem_set]
  split
  · rfl
  · rw [getElem!_pos l j hj]
theorem settleK_at (ts : List TaskV) (now : Int) (ps : List PartV) {j : Nat} (hj : j < ps.length) : ∀ k, (settleK ts now ps k)[j]! = if j < k then settleP ts[j]! ps[j]! now else ps[j]!
  | 0 => by rw [if_neg (by omega)]; rfl
  | k + 1 => by
    unfold settleK
    rw [setP_at _ (by rw [settleK_len]; exact hj), settleK_at ts now ps hj k]
    by_cases e : k = j
    · subst e
      rw [if_pos rfl, if_pos (by omega)]
    · rw [if_neg e]
      by_cases h : j < k
      · rw [if_pos h, if_pos (by omega)]
      · rw [if_neg h, if_neg (by omega)]
def settleM (R : RunM) (now : Int) : RunM := if statusM R ≠ 0 then R else { R with ps := settleK R.ts now R.ps R.ps.length }
theorem settleT_idem (t : TryV) {n1 n2 r : Int} (h : n1 ≤ n2) : settleT (settleT t n1 r) n2 r = settleT t n2 r := by
  by_cases h1 : t.st = 2 ∧ t.til ≤ n1
  · have h2 : t.st = 2 ∧ t.til ≤ n2 := ⟨h1.1, Int.le_trans h1.2 h⟩
    have e1 : settleT t n1 r = missT t t.til r := if_pos h1
    have e2 : settleT t n2 r = missT t t.til r := if_pos h2
    rw [e1, e2]
    have hs : (missT t t.til r).st ≠ 2 := by
      unfold missT
      rw [if_neg (by simp [h1.1])]
      split
      · show (4 : Int) ≠ 2
        decide
      · show (1 : Int) ≠ 2
        decide
    exact if_neg (fun h => hs h.1)
  · have e1 : settleT t n1 r = t := if_neg h1
    rw [e1]
theorem settleP_idem (t : TaskV) (p : PartV) {n1 n2 : Int} (h : n1 ≤ n2) : settleP t (settleP t p n1) n2 = settleP t p n2 := by
  unfold settleP
  by_cases h0 : t.need = 0
  · simp only [if_pos h0]
    rw [settleT_idem _ h]
  · simp only [if_neg h0]
    by_cases h1 : p.try_.st = 1 ∧ p.try_.since + t.time ≤ n1
    · rw [if_pos h1, if_pos (show p.try_.st = 1 ∧ p.try_.since + t.time ≤ n2 from ⟨h1.1, Int.le_trans h1.2 h⟩), if_neg (by simp)]
    · rw [if_neg h1]
theorem settleP_four (t : TaskV) (p : PartV) (n : Int) (h : p.try_.st = 4) : settleP t p n = p := by
  unfold settleP settleT
  rw [if_neg (show ¬ (p.try_.st = 2 ∧ p.try_.til ≤ n) by rw [h]; simp), if_neg (show ¬ (p.try_.st = 1 ∧ p.try_.since + t.time ≤ n) by rw [h]; simp)]
  split <;> rfl
theorem settleP_three (t : TaskV) (p : PartV) (n : Int) : (settleP t p n).try_.st = 3 ↔ p.try_.st = 3 := by
  unfold settleP settleT missT
  split
  · show (if p.try_.st = 2 ∧ p.try_.til ≤ n then _ else p.try_ : TryV).st = 3 ↔ _
    by_cases h : p.try_.st = 2 ∧ p.try_.til ≤ n
    · rw [if_pos h, if_neg (by simp [h.1]), h.1]
      split <;> simp
    · rw [if_neg h]
  · by_cases h : p.try_.st = 1 ∧ p.try_.since + t.time ≤ n
    · rw [if_pos h, h.1]
      simp
    · rw [if_neg h]
theorem any_at {ps : List PartV} {f : PartV → Bool} : (ps.any f = true) ↔ ∃ j, j < ps.length ∧ f ps[j]! = true := by
  rw [List.any_eq_true]
  constructor
  · rintro ⟨p, hp, hf⟩
    obtain ⟨j, hj, rfl⟩ := List.getElem_of_mem hp
    exact ⟨j, hj, by rw [getElem!_pos ps j hj]; exact hf⟩
  · rintro ⟨j, hj, hf⟩
    rw [getElem!_pos ps j hj] at hf
    exact ⟨_, List.getElem_mem hj, hf⟩
theorem all_at {ps : List PartV} {f : PartV → Bool} : (ps.all f = true) ↔ ∀ j, j < ps.length → f ps[j]! = true := by
  rw [List.all_eq_true]
  constructor
  · intro h j hj
    rw [getElem!_pos ps j hj]
    exact h _ (List.getElem_mem hj)
  · rintro h p hp
    obtain ⟨j, hj, rfl⟩ := List.getElem_of_mem hp
    have := h j hj
    rw [getElem!_pos ps j hj] at this
    exact this
theorem ext_at {ps qs : List PartV} (hl : ps.length = qs.length) (h : ∀ j, j < ps.length → ps[j]! = qs[j]!) : ps = qs := by
  refine List.ext_getElem hl fun j h1 h2 => ?_
  have := h j h1
  rwa [getElem!_pos ps j h1, getElem!_pos qs j h2] at this
/-- settled, and settled again: as settled at once, as long as it hasn't ended -/
theorem settle_twice {R : RunM} {n1 n2 : Int} (h : n1 ≤ n2) :
    (statusM (settleM R n1) = 0 → settleM (settleM R n1) n2 = settleM R n2) ∧ (statusM (settleM R n1) ≠ 0 → statusM (settleM (settleM R n1) n2) = statusM (settleM R n2)) := by
  by_cases h0 : statusM R = 0
  · have ho : R.over = false := by
      cases e : R.over with
      | false => rfl
      | true => unfold statusM at h0; rw [if_pos e] at h0; cases h0
    have hps : stPs R.ps = 0 := by unfold statusM at h0; rwa [if_neg (by rw [ho]; decide)] at h0
    have eM : ∀ n, settleM R n = { R with ps := settleK R.ts n R.ps R.ps.length } := fun n => if_neg (by simp [h0])
    have hl : ∀ n, (settleK R.ts n R.ps R.ps.length).length = R.ps.length := fun n => settleK_len _ _ _ _
    have hat : ∀ n j, j < R.ps.length → (settleK R.ts n R.ps R.ps.length)[j]! = settleP R.ts[j]! R.ps[j]! n := fun n j hj => by rw [settleK_at _ _ _ hj, if_pos hj]
    have hst : ∀ n, statusM (settleM R n) = stPs (settleK R.ts n R.ps R.ps.length) := fun n => by
      rw [eM]
      unfold statusM
      exact if_neg (by simp [ho])
    refine ⟨fun hr => ?_, fun hr => ?_⟩
    · have e1 : settleM (settleM R n1) n2 = { settleM R n1 with ps := settleK (settleM R n1).ts n2 (settleM R n1).ps (settleM R n1).ps.length } := if_neg (by simp [hr])
      rw [e1, eM n1, eM n2]
      have : settleK R.ts n2 (settleK R.ts n1 R.ps R.ps.length) (settleK R.ts n1 R.ps R.ps.length).length = settleK R.ts n2 R.ps R.ps.length := by
        refine ext_at (by simp only [settleK_len]) fun j hj => ?_
        have hj' : j < R.ps.length := by simpa only [settleK_len] using hj
        rw [settleK_at _ _ _ (by rw [hl]; exact hj'), if_pos (by rw [hl]; exact hj'), hat n1 j hj', hat n2 j hj']
        exact settleP_idem _ _ h
      simp only [this]
    · have e1 : settleM (settleM R n1) n2 = settleM R n1 := if_pos hr
      rw [e1, hst n1, hst n2]
      rw [hst n1] at hr
      unfold stPs at hr ⊢
      by_cases ha : ((settleK R.ts n1 R.ps R.ps.length).any fun p => p.try_.st == 4) = true
      · rw [if_pos ha]
        obtain ⟨j, hj, hf⟩ := any_at.1 ha
        rw [hl] at hj
        rw [hat n1 j hj] at hf
        have h4 : (settleP R.ts[j]! R.ps[j]! n1).try_.st = 4 := by simpa using hf
        have : settleP R.ts[j]! R.ps[j]! n2 = settleP R.ts[j]! R.ps[j]! n1 := by rw [← settleP_idem _ _ h, settleP_four _ _ _ h4]
        rw [if_pos (any_at.2 ⟨j, by rw [hl]; exact hj, by rw [hat n2 j hj, this]; simpa using h4⟩)]
      · rw [if_neg ha] at hr
        split at hr
        · rename_i hb
          have hall := all_at.1 hb
          have : (R.ps.all fun p => p.try_.st == 3) = true := all_at.2 fun j hj => by
            have := hall j (by rw [hl]; exact hj)
            rw [hat n1 j hj] at this
            have h3 : (settleP R.ts[j]! R.ps[j]! n1).try_.st = 3 := by simpa using this
            simpa using (settleP_three _ _ _).1 h3
          unfold stPs at hps
          rw [if_pos this] at hps
          split at hps <;> cases hps
        · exact absurd rfl hr
  · have e : ∀ n, settleM R n = R := fun n => if_pos h0
    exact ⟨fun _ => by simp only [e], fun _ => by simp only [e]⟩
end Go.Proofs.YtbbcicengfmhiaaGreatDoor

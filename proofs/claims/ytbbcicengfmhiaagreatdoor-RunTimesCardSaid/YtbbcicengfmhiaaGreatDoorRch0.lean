/- Who is reached: the search from a place meets all that a row of steps leads to. No program here. -/
import Derived.Test.YtbbcicengfmhiaaGreatDoorOrd0
namespace Go.Proofs.YtbbcicengfmhiaaGreatDoor

/-- a row of steps from i to k -/
inductive Way (af : List (List Int)) : Nat → Nat → Prop
  | one {i k : Nat} : (k : Int) ∈ af[i]! → Way af i k
  | more {i m k : Nat} : Way af i m → Way af m k → Way af i k
def okAf (af : List (List Int)) : Prop := ∀ i, i < af.length → ∀ a ∈ af[i]!, 0 ≤ a ∧ a < (af.length : Int)
/-- m' holds m, the row l, and is closed but for m -/
structure Clo (af : List (List Int)) (m m' : List Bool) (l : List Int) : Prop where
  le : ∀ x : Nat, m[x]! = true → m'[x]! = true
  hit : ∀ a ∈ l, m'[a.toNat]! = true
  clo : ∀ x : Nat, m'[x]! = true → m[x]! = false → ∀ a ∈ af[x]!, m'[a.toNat]! = true
theorem Clo.trans {af : List (List Int)} {m m1 m2 : List Bool} {l1 l2 : List Int} (h : Clo af m m1 l1) (k : Clo af m1 m2 l2) : Clo af m m2 (l1 ++ l2) := by
  refine ⟨fun x hx => k.le x (h.le x hx), fun a ha => ?_, fun x hx h0 a ha => ?_⟩
  · rcases List.mem_append.1 ha with ha | ha
    · exact k.le _ (h.hit a ha)
    · exact k.hit a ha
  · cases h1 : m1[x]! with
    | true => exact k.le _ (h.clo x h1 h0 a ha)
    | false => exact k.clo x hx h1 a ha
theorem set_at (m : List Bool) (j x : Nat) (hj : j < m.length) : (m.set j true)[x]! = if x = j then true else m[x]! := by
  simp only [List.getElem!_eq_getElem?_getD, List.getElem?_set]
  by_cases e : j = x
  · subst e
    simp [hj]
  · rw [if_neg e, if_neg (fun h => e h.symm)]
theorem dfs_clo {af : List (List Int)} (hok : okAf af) : ∀ (f : Nat) (m : List Bool) (i : Int), m.length = af.length → openN m < f → i.toNat < af.length → Clo af m (dfsF af f m i) af[i.toNat]! := by
  intro f
  induction f with
  | zero => intro m i _ h; omega
  | succ f ih =>
    intro m i hm ho hi
    have key : ∀ (l : List Int) (m : List Bool), (∀ a ∈ l, 0 ≤ a ∧ a < (af.length : Int)) → m.length = af.length → openN m < f + 1 →
        Clo af m (l.foldl (fun m a => if m[a.toNat]! = true then m else dfsF af f (m.set a.toNat true) a) m) l := by
      intro l
      induction l with
      | nil =>
        intro m _ _ _
        exact ⟨fun _ h => h, fun a ha => (by cases ha), fun x h1 h2 => (by rw [List.foldl_nil, h2] at h1; cases h1)⟩
      | cons a l il =>
        intro m hl hm ho
        have ha := hl a (by simp)
        have hat : a.toNat < af.length := by omega
        have hs : Clo af m (if m[a.toNat]! = true then m else dfsF af f (m.set a.toNat true) a) [a] := by
          by_cases h : m[a.toNat]! = true
          · rw [if_pos h]
            exact ⟨fun _ h => h, fun b hb => by rw [List.mem_singleton.1 hb]; exact h, fun x h1 h2 => (by rw [h2] at h1; cases h1)⟩
          · rw [if_neg h]
            have hf : m[a.toNat]! = false := by simpa using h
            have hso := openN_set (m := m) (a := a.toNat) (by omega) hf
            have hc := ih (m.set a.toNat true) a (by simpa using hm) (by omega) hat
            have hg := set_at m a.toNat
            refine ⟨fun x hx => hc.le x ?_, fun b hb => ?_, fun x h1 h2 => ?_⟩
            · rw [hg x (by omega)]
              split
              · rfl
              · exact hx
            · rw [List.mem_singleton.1 hb]
              refine hc.le _ ?_
              rw [hg _ (by omega), if_pos rfl]
            · by_cases e : x = a.toNat
              · rw [e]
                exact hc.hit
              · exact hc.clo x h1 (by rw [hg x (by omega), if_neg e]; exact h2)
        have hlen : (if m[a.toNat]! = true then m else dfsF af f (m.set a.toNat true) a).length = af.length := (dfsStep_len af f m a).trans hm
        have hopn : openN (if m[a.toNat]! = true then m else dfsF af f (m.set a.toNat true) a) ≤ openN m := dfsStep_open af f m a
        rw [List.foldl_cons]
        exact hs.trans (il _ (fun b hb => hl b (by simp [hb])) hlen (by omega))
    exact key _ m (hok _ hi) hm ho
theorem way_in {af : List (List Int)} (hok : okAf af) {i k : Nat} (h : Way af i k) : i < af.length → k < af.length := by
  induction h with
  | one hk => exact fun hi => by have := hok _ hi _ hk; omega
  | more _ _ h1 h2 => exact fun hi => h2 (h1 hi)
theorem rep_no (n x : Nat) : (List.replicate n false)[x]! = false := by
  simp only [List.getElem!_eq_getElem?_getD, List.getElem?_replicate]
  split <;> rfl
theorem way_met {af : List (List Int)} (hok : okAf af) {i k : Nat} (hi : i < af.length) (h : Way af i k) : (allF af i)[k]! = true := by
  have hc := dfs_clo hok (af.length + 1) (List.replicate af.length false) i (by simp) (by rw [openN_rep]; omega) (by simpa using hi)
  have hcl : ∀ x : Nat, (allF af i)[x]! = true → ∀ a ∈ af[x]!, (allF af i)[a.toNat]! = true := fun x hx => hc.clo x hx (rep_no _ _)
  have hst : ∀ a ∈ af[i]!, (allF af i)[a.toNat]! = true := by
    have := hc.hit
    rw [Int.toNat_natCast] at this
    exact this
  have gen : ∀ {i' k' : Nat}, Way af i' k' → (∀ a ∈ af[i']!, (allF af i)[a.toNat]! = true) → (allF af i)[k']! = true := by
    intro i' k' hw
    induction hw with
    | one hk => intro h0; simpa using h0 _ hk
    | more _ _ h1 h2 => exact fun h0 => h2 (hcl _ (h1 h0))
  exact gen h hst
theorem round_no {af : List (List Int)} (hok : okAf af) (h : roundI af < 0) {i : Nat} (hi : i < af.length) : ¬ Way af i i := by
  intro hw
  have hm := way_met hok hi hw
  unfold roundI idxI at h
  cases hf : (List.range af.length).findIdx? (roundB af) with
  | none =>
    rw [List.findIdx?_eq_none_iff] at hf
    have := hf i (List.mem_range.2 hi)
    unfold roundB at this
    rw [this] at hm
    cases hm
  | some j =>
    rw [hf] at h
    simp only at h
    omega
end Go.Proofs.YtbbcicengfmhiaaGreatDoor

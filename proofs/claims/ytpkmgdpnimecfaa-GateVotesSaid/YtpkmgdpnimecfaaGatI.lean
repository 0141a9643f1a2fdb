/- Plain law: what the statement's own map tells is what the votes tell. No program here. -/
import Derived.Test.YtpkmgdpnimecfaaGatL
import Derived.Test.YtpkmgdpnimecfaaGat4
import Derived.Test.YtpkmgdpnimecfaaMapB
namespace Go.Proofs.Ytpkmgdpnimecfaa

/-- the map and the votes -/
def Inv (m : List (Int × Bool)) (xs : List Int) : Prop := xs = canon (fun k => (mlook m k).getD false) ∧ m.length = xs.length ∧ ∀ k v, mlook m k = some v → v = true ∧ inR 12 k = true
theorem Inv.nil : Inv [] [] := ⟨rfl, rfl, fun k v h => by simp [mlook] at h⟩
theorem Inv.mem {m : List (Int × Bool)} {xs : List Int} (h : Inv m xs) (who : Int) : (xs.any fun y => who == y) = (mlook m who).getD false := by
  obtain ⟨h1, _, h3⟩ := h
  rw [Bool.eq_iff_iff, List.any_eq_true]
  constructor
  · rintro ⟨y, hy, e⟩
    have e' : who = y := by simpa using e
    subst e'
    rw [h1] at hy
    exact (List.mem_filter.1 hy).2
  · intro h
    refine ⟨who, ?_, by simp⟩
    rw [h1]
    refine List.mem_filter.2 ⟨(all12_mem who).2 ?_, h⟩
    cases hq : mlook m who with
    | none => rw [hq] at h; cases h
    | some v => exact (h3 who v hq).2
theorem Inv.step {m : List (Int × Bool)} {xs : List Int} (h : Inv m xs) {who : Int} (hin : inR 12 who = true) : Inv (mput m who true) (voteL xs who true) := by
  have hmem := h.mem who
  obtain ⟨h1, h2, h3⟩ := h
  have hc : voteL xs who true = canon (fun k => (mlook (mput m who true) k).getD false) := by
    rw [h1, vote_canon]
    congr 1
    funext k
    by_cases e : k = who
    · subst e
      rw [mlook_put_same]; simp
    · rw [mlook_put_other _ _ _ _ e, show (k == who) = false by simpa using e, Bool.or_false]
  refine ⟨hc, ?_, ?_⟩
  · cases hq : mlook m who with
    | none =>
      rw [hq] at hmem
      rw [mput_length_new _ _ _ hq, voteL_yes (by simpa [hin] using hmem), insL_len (posL_le _ _), h2]
    | some v =>
      obtain ⟨rfl, _⟩ := h3 who v hq
      rw [hq] at hmem
      rw [mput_length_old _ _ _ _ hq, voteL_no (by rw [hmem]; simp), h2]
  · intro k v hk
    by_cases e : k = who
    · subst e
      rw [mlook_put_same] at hk
      cases hk
      exact ⟨rfl, hin⟩
    · rw [mlook_put_other _ _ _ _ e] at hk
      exact h3 k v hk
theorem vote_out {xs : List Int} {who : Int} {yes : Bool} (h : (yes && inR 12 who) = false) : voteL xs who yes = xs := voteL_no (by
  revert h
  cases yes <;> cases inR 12 who <;> simp)
theorem Inv.len {m : List (Int × Bool)} {xs : List Int} (h : Inv m xs) : xs.length ≤ 12 := by
  rw [h.1]
  exact List.length_filter_le _ _
theorem okFrom_filter (p : Int → Bool) : ∀ (l : List Int) (last : Int), l.Pairwise (· < ·) → (∀ k ∈ l, last < k ∧ k < 12) → okFrom last (l.filter p) = true := by
  intro l
  induction l with
  | nil => intro last _ _; rfl
  | cons k r ih =>
    intro last hs hk
    rw [List.pairwise_cons] at hs
    have h0 := hk k (by simp)
    rw [List.filter_cons]
    split
    · unfold okFrom
      rw [ih k hs.2 (fun y hy => ⟨hs.1 y hy, (hk y (by simp [hy])).2⟩)]
      simp
      omega
    · exact ih last hs.2 (fun y hy => hk y (by simp [hy]))
theorem Inv.right {m : List (Int × Bool)} {xs : List Int} (h : Inv m xs) : rightG xs = true := by
  have hl := h.len
  unfold rightG
  rw [decide_eq_true hl, Bool.and_true, h.1]
  refine okFrom_filter _ all12 (-1) all12_sorted fun k hk => ?_
  have := (all12_mem k).1 hk
  simp [inR] at this
  omega
/-- the map behind a vote -/
def mput' (m : List (Int × Bool)) (who : Int) (yes : Bool) : List (Int × Bool) := if (yes && inR 12 who) = true then mput m who true else m
theorem Inv.next {m : List (Int × Bool)} {xs : List Int} (h : Inv m xs) (who : Int) (yes : Bool) : Inv (mput' m who yes) (voteL xs who yes) := by
  unfold mput'
  by_cases e : (yes && inR 12 who) = true
  · rw [if_pos e]
    rw [Bool.and_eq_true] at e
    obtain ⟨rfl, e2⟩ := e
    exact h.step e2
  · rw [if_neg e, vote_out (by simpa using e)]
    exact h
end Go.Proofs.Ytpkmgdpnimecfaa

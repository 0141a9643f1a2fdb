/- Plain laws: a number's text is read as the number; a text is cut at its first comma. No program here. -/
import Derived.Lib.ItoaNum
import Derived.Lib.ItoaLen
import Derived.Lib.ItoaMem
import Derived.Lib.AtoiAll
import Derived.Lib.AtoiAllCases
import Derived.Lib.IndexMore
import Derived.Lib.IndexLaws
namespace Go.Proofs.YtefnkoofgpmmmaaGreatDoor
open Go Go.Lib

theorem parse_app (l1 l2 : List UInt8) : ∀ acc, parseUint10 acc (l1 ++ l2) = match parseUint10 acc l1 with | .ok a => parseUint10 a l2 | NumEnd.syntax => NumEnd.syntax | .range => .range := by
  induction l1 with
  | nil => intro acc; rfl
  | cons c r ih =>
    intro acc
    simp only [List.cons_append, parseUint10]
    split
    · split
      · rfl
      · split
        · rfl
        · exact ih _
    · rfl
theorem digit_val (d : Nat) (hd : d < 10) : (UInt8.ofNat (48 + d)).toNat = 48 + d := by
  rw [UInt8.toNat_ofNat']
  omega
theorem dig_mem (u : Nat) : ∀ c ∈ decDigits u, 48 ≤ c.toNat ∧ c.toNat ≤ 57 := by
  induction u using Nat.strongRecOn with
  | _ u ih =>
    intro c hc
    rw [decDigits] at hc
    split at hc
    · rename_i h
      simp only [List.mem_singleton] at hc
      subst hc
      rw [digit_val u h]
      omega
    · rename_i h
      rw [List.mem_append] at hc
      rcases hc with hc | hc
      · exact ih (u / 10) (by omega) c hc
      · simp only [List.mem_singleton] at hc
        subst hc
        rw [digit_val _ (Nat.mod_lt _ (by omega))]
        omega
theorem parse_dig (u : Nat) (hu : u < 18446744073709551616) : parseUint10 0 (decDigits u) = .ok u := by
  induction u using Nat.strongRecOn with
  | _ u ih =>
    rw [decDigits]
    split
    · rename_i h
      simp only [parseUint10, digit_val u h]
      rw [if_pos (by omega), if_neg (by omega), if_neg (by omega)]
      congr 1
      omega
    · rename_i h
      rw [parse_app, ih (u / 10) (by omega) (by omega)]
      have hm := Nat.mod_lt u (show 0 < 10 by omega)
      simp only [parseUint10, digit_val _ hm]
      rw [if_pos (by omega), if_neg (by omega), if_neg (by omega)]
      congr 1
      omega
theorem dig_ne (u : Nat) : decDigits u ≠ [] := by
  rw [decDigits]
  split <;> simp
theorem parseMag_dig (u : Nat) (hu : u < 18446744073709551616) : parseMag (decDigits u) = .ok u := by
  unfold parseMag
  rw [if_neg (dig_ne u), parse_dig u hu]
/-- a number's text is read as the number -/
theorem atoi_itoa {n : Int} (h0 : -9223372036854775808 ≤ n) (h1 : n ≤ 9223372036854775807) : atoiAll (itoa n) = .ok n := by
  by_cases hn : n < 0
  · obtain ⟨u, rfl⟩ : ∃ u : Nat, n = -(u : Int) := ⟨n.natAbs, by omega⟩
    rw [itoa_neg u (by omega)]
    simp only [atoiAll]
    have h45 : (45 : UInt8).toNat = 45 := rfl
    rw [h45]
    simp only [or_true, if_true, not_true_eq_false, false_and, true_and]
    rw [parseMag_dig u (by omega)]
    simp only [if_false]
    rw [if_neg (by omega)]
  · obtain ⟨u, rfl⟩ : ∃ u : Nat, n = (u : Int) := ⟨n.natAbs, by omega⟩
    rw [itoa_nonneg]
    cases hd : decDigits u with
    | nil => exact absurd hd (dig_ne u)
    | cons c r =>
      have hc := dig_mem u c (by rw [hd]; simp)
      simp only [atoiAll]
      rw [if_neg (show ¬ (c.toNat = 43 ∨ c.toNat = 45) by omega), ← hd, parseMag_dig u (by omega)]
      simp only
      rw [if_neg (show ¬ (¬ c.toNat = 45 ∧ 9223372036854775808 ≤ u) by omega), if_neg (show ¬ (c.toNat = 45 ∧ 9223372036854775808 < u) by omega), if_neg (show ¬ c.toNat = 45 by omega)]
theorem itoa_mem {n : Int} : ∀ c ∈ itoa n, c ≠ 44 := by
  intro c hc
  rintro rfl
  unfold itoa at hc
  split at hc
  · rw [List.mem_cons] at hc
    rcases hc with hc | hc
    · cases hc
    · have := dig_mem _ _ hc
      have h44 : (44 : UInt8).toNat = 44 := rfl
      omega
  · have := dig_mem _ _ hc
    have h44 : (44 : UInt8).toNat = 44 := rfl
    omega
theorem itoa_inj {m n : Int} (hm0 : -9223372036854775808 ≤ m) (hm1 : m ≤ 9223372036854775807) (hn0 : -9223372036854775808 ≤ n) (hn1 : n ≤ 9223372036854775807) (h : itoa m = itoa n) : m = n := by
  have h1 := atoi_itoa hm0 hm1
  rw [h, atoi_itoa hn0 hn1] at h1
  injection h1 with h1
  exact h1.symm

theorem occ44 (s : List UInt8) (i : Nat) : occAt s [44] i = (s[i]? == some 44) := by
  unfold occAt
  have : s[i]? = (s.drop i)[0]? := by simp
  rw [this]
  cases s.drop i with
  | nil => rfl
  | cons a t => simp [List.isPrefixOf]; rw [Bool.eq_iff_iff]; simp; exact eq_comm
theorem cut_hit (h rest : List UInt8) (hh : ∀ c ∈ h, c ≠ 44) : cut (h ++ 44 :: rest) [44] = (h, rest, true) := by
  have hi : index (h ++ 44 :: rest) [44] = (h.length : Int) := by
    refine index_first (by simp) ?_ ?_
    · rw [occ44]; simp
    · intro j hj
      rw [occ44, List.getElem?_append_left hj, List.getElem?_eq_getElem hj]
      have := hh h[j] (List.getElem_mem hj)
      simpa using this
  unfold cut
  rw [hi, if_pos (by omega)]
  simp
theorem cut_miss (s : List UInt8) (hs : ∀ c ∈ s, c ≠ 44) : cut s [44] = (s, [], false) := by
  have hi : index s [44] = -1 := by
    refine index_none fun j hj => ?_
    rw [occ44]
    rcases Nat.lt_or_ge j s.length with h | h
    · rw [List.getElem?_eq_getElem h]
      have := hs s[j] (List.getElem_mem h)
      simpa using this
    · rw [List.getElem?_eq_none h]; rfl
  unfold cut
  rw [hi]
  simp

/-- what a reader takes -/
def rdInt (s : List UInt8) (lo hi : Int) : Option (Int × List UInt8) :=
  if (cut s [44]).2.2 = true then
    match atoiAll (cut s [44]).1 with
    | .ok n => if itoa n = (cut s [44]).1 ∧ lo ≤ n ∧ n ≤ hi then some (n, (cut s [44]).2.1) else none
    | NumEnd.syntax => none
    | .range => none
  else none
theorem rdInt_num {n lo hi : Int} (rest : List UInt8) (h0 : -9223372036854775808 ≤ n) (h1 : n ≤ 9223372036854775807) : rdInt (itoa n ++ 44 :: rest) lo hi = if lo ≤ n ∧ n ≤ hi then some (n, rest) else none := by
  unfold rdInt
  rw [cut_hit _ _ (fun c hc => itoa_mem c hc)]
  simp only [if_true]
  rw [atoi_itoa h0 h1]
  simp only [true_and]
theorem rdInt_miss {lo hi : Int} (s : List UInt8) (hs : ∀ c ∈ s, c ≠ 44) : rdInt s lo hi = none := by
  unfold rdInt
  rw [cut_miss s hs]
  simp
end Go.Proofs.YtefnkoofgpmmmaaGreatDoor

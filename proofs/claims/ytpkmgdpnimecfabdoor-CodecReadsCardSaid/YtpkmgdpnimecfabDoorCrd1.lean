/- Plain laws: what the document's reader makes of a number's text is what the program's reader makes of it. No program here. -/
import Derived.Test.YtpkmgdpnimecfabDoorCod4
import Derived.Test.YtpkmgdpnimecfabDoorCbk1
import Derived.Lib.AtoiAllCases
namespace Go.Proofs.YtpkmgdpnimecfabDoor

/-- the document's loop over the digits, downwards -/
def accN : List UInt8 → Int → Option Int
  | [], n => some n
  | c :: l, n => if c.toNat < 48 ∨ 57 < c.toNat ∨ n < -922337203685477580 then none
    else if n = -922337203685477580 ∧ 8 < (c.toNat : Int) - 48 then none else accN l (10 * n - ((c.toNat : Int) - 48))
theorem accN_app (l m : List UInt8) : ∀ n, accN (l ++ m) n = match accN l n with | some k => accN m k | none => none := by
  induction l with
  | nil => intro n; rfl
  | cons c l ih =>
    intro n
    simp only [List.cons_append, accN]
    by_cases h1 : c.toNat < 48 ∨ 57 < c.toNat ∨ n < -922337203685477580
    · rw [if_pos h1, if_pos h1]
    · rw [if_neg h1, if_neg h1]
      by_cases h2 : n = -922337203685477580 ∧ 8 < (c.toNat : Int) - 48
      · rw [if_pos h2, if_pos h2]
      · rw [if_neg h2, if_neg h2, ih]
theorem dig_nat {d : Nat} (h : d < 10) : (UInt8.ofNat (48 + d)).toNat = 48 + d := by
  rw [UInt8.toNat_ofNat']
  omega
theorem accN_dec (m : Nat) (hm : m ≤ 9223372036854775808) : accN (Lib.decDigits m) 0 = some (-(m : Int)) := by
  induction m using Nat.strongRecOn with
  | _ m ih =>
    by_cases h : m < 10
    · rw [Lib.decDigits_one h]
      have hd := dig_nat h
      unfold accN accN
      rw [hd, if_neg (by omega), if_neg (by omega)]
      congr 1
      omega
    · rw [dec_step m h, accN_app, ih (m / 10) (by omega) (by omega)]
      have hd := dig_nat (d := m % 10) (by omega)
      simp only
      unfold accN accN
      rw [hd, if_neg (by omega), if_neg (by omega)]
      congr 1
      omega
/-- the head that tells a number below 0 -/
def isB (L : List UInt8) : Bool := match L with | [] => false | c :: _ => decide (c.toNat = 45)
def bodyOf (L : List UInt8) : List UInt8 := if isB L = true then L.drop 1 else L
theorem dec_head (m : Nat) : isB (Lib.decDigits m) = false := by
  have h := dig_mem m
  cases hl : Lib.decDigits m with
  | nil => rfl
  | cons c l =>
    rw [hl] at h
    have := h c (by simp)
    unfold isB
    simp
    omega
theorem itoa_acc {m : Int} (hm : okI m) : (m < 0 ∧ isB (Lib.itoa m) = true ∧ accN (bodyOf (Lib.itoa m)) 0 = some m) ∨ (0 ≤ m ∧ isB (Lib.itoa m) = false ∧ accN (bodyOf (Lib.itoa m)) 0 = some (-m)) := by
  by_cases h : m < 0
  · left
    obtain ⟨k, rfl, h1⟩ : ∃ k : Nat, m = -(k : Int) ∧ 1 ≤ k := ⟨m.natAbs, by omega, by omega⟩
    have hk := hm.1
    rw [Lib.itoa_neg k h1]
    have hb : isB (45 :: Lib.decDigits k) = true := rfl
    refine ⟨h, hb, ?_⟩
    unfold bodyOf
    rw [if_pos hb]
    exact accN_dec k (by omega)
  · right
    obtain ⟨k, rfl⟩ := Int.eq_ofNat_of_zero_le (show 0 ≤ m by omega)
    have hk := hm.2
    have hb := dec_head k
    rw [Lib.itoa_nonneg]
    refine ⟨by omega, hb, ?_⟩
    unfold bodyOf
    rw [hb]
    exact accN_dec k (by omega)
theorem rdInt_cut {s L rest : List UInt8} {lo hi : Int} (hs : s = L ++ 44 :: rest) (hL : ∀ c ∈ L, c ≠ 44) :
    rdInt s lo hi = match Lib.atoiAll L with | .ok n => if Lib.itoa n = L ∧ lo ≤ n ∧ n ≤ hi then some (n, rest) else none | _ => none := by
  subst hs
  unfold rdInt
  rw [cut_hit L rest hL]
  simp only [if_true]
  cases Lib.atoiAll L <;> rfl
theorem rdInt_some {s L rest : List UInt8} {lo hi : Int} (hs : s = L ++ 44 :: rest) (hL : ∀ c ∈ L, c ≠ 44) {v : Int × List UInt8} (h : rdInt s lo hi = some v) : ∃ m, okI m ∧ Lib.itoa m = L ∧ lo ≤ m ∧ m ≤ hi ∧ v = (m, rest) := by
  rw [rdInt_cut hs hL] at h
  cases ha : Lib.atoiAll L with
  | ok n =>
    rw [ha] at h
    simp only at h
    split at h
    · rename_i hc
      cases h
      exact ⟨n, Lib.atoiAll_bounds ha, hc.1, hc.2.1, hc.2.2, rfl⟩
    · cases h
  | _ => rw [ha] at h; cases h
theorem ref_none {s L rest : List UInt8} {lo hi : Int} (hs : s = L ++ 44 :: rest) (hL : ∀ c ∈ L, c ≠ 44) (h : accN (bodyOf L) 0 = none) : rdInt s lo hi = none := by
  cases hr : rdInt s lo hi with
  | none => rfl
  | some v =>
    obtain ⟨m, hm, rfl, _⟩ := rdInt_some hs hL hr
    rcases itoa_acc hm with ⟨_, _, h2⟩ | ⟨_, _, h2⟩ <;> (rw [h2] at h; cases h)
theorem ref_min {s L rest : List UInt8} {lo hi : Int} (hs : s = L ++ 44 :: rest) (hL : ∀ c ∈ L, c ≠ 44) (hb : isB L = false) (h : accN (bodyOf L) 0 = some (-9223372036854775808)) : rdInt s lo hi = none := by
  cases hr : rdInt s lo hi with
  | none => rfl
  | some v =>
    obtain ⟨m, hm, rfl, _⟩ := rdInt_some hs hL hr
    have hm2 := hm.2
    rcases itoa_acc hm with ⟨_, h1, _⟩ | ⟨_, _, h2⟩
    · rw [h1] at hb; cases hb
    · rw [h2] at h
      have := Option.some.inj h
      omega
theorem ref_some {s L rest : List UInt8} {lo hi n N : Int} (hs : s = L ++ 44 :: rest) (hL : ∀ c ∈ L, c ≠ 44) (h : accN (bodyOf L) 0 = some n) (hN : N = if isB L = true then n else -n) (ho : okI N) :
    rdInt s lo hi = if Lib.itoa N = L ∧ lo ≤ N ∧ N ≤ hi then some (N, rest) else none := by
  by_cases hi : Lib.itoa N = L
  · have ha : Lib.atoiAll L = .ok N := by rw [← hi]; exact atoi_itoa ho.1 ho.2
    rw [rdInt_cut hs hL, ha]
  · rw [if_neg (fun q => hi q.1)]
    cases hr : rdInt s lo _ with
    | none => rfl
    | some v =>
      exfalso
      obtain ⟨m, hm, hmL, _⟩ := rdInt_some hs hL hr
      apply hi
      rw [← hmL] at h hN ⊢
      rcases itoa_acc hm with ⟨_, h1, h2⟩ | ⟨_, h1, h2⟩
      · rw [h2] at h
        cases h
        rw [hN, if_pos h1]
      · rw [h2] at h
        cases h
        rw [hN, h1]
        simp
theorem dec_pow : ∀ (k n : Nat), n < 10 ^ k → (Lib.decDigits n).length ≤ max 1 k := by
  intro k
  induction k with
  | zero =>
    intro n h
    rw [Lib.decDigits_one (by omega)]
    simp
  | succ k ih =>
    intro n h
    by_cases h1 : n < 10
    · rw [Lib.decDigits_one h1]; simp <;> omega
    · rw [dec_step n h1]
      have := ih (n / 10) (by rw [Nat.pow_succ] at h; omega)
      have : 1 ≤ k := by
        rcases k with _ | k
        · omega
        · omega
      simp
      omega
theorem itoa_len20 {m : Int} (hm : okI m) : (Lib.itoa m).length ≤ 20 := by
  have h1 := hm.1
  have h2 := hm.2
  by_cases h : m < 0
  · obtain ⟨k, rfl, hk⟩ : ∃ k : Nat, m = -(k : Int) ∧ 1 ≤ k := ⟨m.natAbs, by omega, by omega⟩
    rw [Lib.itoa_neg k hk]
    have := dec_pow 19 k (by omega)
    simp
    omega
  · obtain ⟨k, rfl⟩ := Int.eq_ofNat_of_zero_le (show 0 ≤ m by omega)
    rw [Lib.itoa_nonneg]
    have := dec_pow 19 k (by omega)
    omega
/-- a text whose first comma comes too late -/
theorem ref_late {s : List UInt8} {lo hi : Int} (h : ∀ j, j < 21 → j < s.length → s[j]! ≠ 44) : rdInt s lo hi = none := by
  cases hr : rdInt s lo hi with
  | none => rfl
  | some v =>
    exfalso
    by_cases hm : ∀ c ∈ s, c ≠ 44
    · rw [rdInt_miss s hm] at hr; cases hr
    · have hc : ∃ c ∈ s, c = 44 := by
        apply Classical.byContradiction
        intro hn
        exact hm fun c hc e => hn ⟨c, hc, e⟩
      obtain ⟨c, hc, rfl⟩ := hc
      obtain ⟨L, rest, hs, hL⟩ : ∃ L rest, s = L ++ 44 :: rest ∧ ∀ c ∈ L, c ≠ 44 := by
        clear h hr hm
        induction s with
        | nil => simp at hc
        | cons a s ih =>
          by_cases ha : a = 44
          · subst ha
            exact ⟨[], s, rfl, by simp⟩
          · have : (44 : UInt8) ∈ s := by
              rcases List.mem_cons.1 hc with e | e
              · exact absurd e.symm ha
              · exact e
            obtain ⟨L, rest, e, hL⟩ := ih this
            refine ⟨a :: L, rest, by rw [e]; rfl, ?_⟩
            intro c hcc
            rcases List.mem_cons.1 hcc with e2 | e2
            · rw [e2]; exact ha
            · exact hL c e2
      obtain ⟨m, hmo, hmL, _⟩ := rdInt_some hs hL hr
      have hl := itoa_len20 hmo
      rw [hmL] at hl
      have h2 := h L.length (by omega) (by rw [hs]; simp)
      apply h2
      rw [hs, getElem!_pos _ _ (by simp)]
      simp
end Go.Proofs.YtpkmgdpnimecfabDoor

/- The clock, plain: what two sectors tell, and what a save, or a torn one, makes of them. Of the program: the readers' answers alone. -/
import Derived.Test.YtbbcicengfmhiaaDoorSec0
import Derived.Test.YtbbcicengfmhiaaDoorCod4
namespace Go.Proofs.YtbbcicengfmhiaaDoor

def clkL (time boot : Int) : List UInt8 := numsL [time, boot]
def pcOf (n : Nat) (time boot : Int) : Pc := ⟨n, 0, 0, 0, 1, clkL time boot⟩
def secOf (n : Nat) (time boot : Int) : List UInt8 := printP (pcOf n time boot)
structure Ck where
  n : Nat
  time : Int
  boot : Int
def two (s : List UInt8) : Int × Int × (List UInt8 × Bool) :=
  let r1 := rdStep s false 0 1000
  let r2 := rdStep r1.2.1 r1.2.2 0 2147483648
  (r1.1, r2.1, r2.2)
def doneB (st : List UInt8 × Bool) : Bool := !st.2 && st.1.isEmpty
def loneP (p : Pc) : Bool := p.gen == 0 && (p.no == 0 && (p.index == 0 && p.total == 1))
def mayP (c : Ck) (p : Pc) (place : Nat) : Bool := loneP p && (decide (c.n < p.stamp) && (decide (p.stamp ≤ 4611686018427387904) && decide (p.stamp % 2 = place)))
def takeC (c : Ck) (p : Pc) : Ck := if doneB (two p.data).2.2 = true then ⟨p.stamp, (two p.data).1, (two p.data).2.1⟩ else c
def ldC (c : Ck) (s : List UInt8) (place : Nat) : Ck :=
  match readP s with
  | none => c
  | some p => if mayP c p place = true then takeC c p else c
theorem okI_c {n : Int} (h0 : -100000000000 ≤ n) (h1 : n ≤ 100000000000) : okI n := ⟨by omega, by omega⟩
theorem step_c {n hi : Int} (hn : okI n) (h1 : 0 ≤ n) (h2 : n ≤ hi) (rest : List UInt8) : rdStep (numL n ++ rest) false 0 hi = (n, rest, false) := by
  refine rdStep_some ?_
  have := rdInt_num (n := n) (lo := 0) (hi := hi) rest hn.1 hn.2
  rw [if_pos ⟨h1, h2⟩] at this
  unfold numL
  simpa using this
theorem two_clk {t b : Int} (h1 : 0 ≤ t ∧ t ≤ 1000) (h2 : 0 ≤ b ∧ b ≤ 2147483648) : two (clkL t b) = (t, b, ([], false)) := by
  have e1 := step_c (n := t) (hi := 1000) (okI_c (by omega) (by omega)) h1.1 h1.2 (numL b ++ [])
  have e2 := step_c (n := b) (hi := 2147483648) (okI_c (by omega) (by omega)) h2.1 h2.2 []
  have hL : clkL t b = numL t ++ (numL b ++ []) := by simp [clkL, numsL]
  rw [hL]
  simp only [two, e1, e2]
theorem decStep (n : Nat) (h : ¬ n < 10) : Lib.decDigits n = Lib.decDigits (n / 10) ++ [UInt8.ofNat (48 + n % 10)] := by
  rw [Lib.decDigits, dif_neg h]
theorem decLen : ∀ (k n : Nat), n < 10 ^ k → (Lib.decDigits n).length ≤ max 1 k := by
  intro k
  induction k with
  | zero =>
    intro n h
    rw [Lib.decDigits_one (by omega)]
    simp
  | succ k ih =>
    intro n h
    by_cases h1 : n < 10
    · rw [Lib.decDigits_one h1]; simp <;> omega
    · rw [decStep n h1]
      have := ih (n / 10) (by rw [Nat.pow_succ] at h; omega)
      have : 1 ≤ k := by
        rcases k with _ | k
        · omega
        · omega
      simp
      omega
theorem clkL_len {t b : Int} (ht : 0 ≤ t ∧ t ≤ 1000) (hb : 0 ≤ b ∧ b ≤ 2147483648) : (clkL t b).length ≤ 37 := by
  obtain ⟨t, rfl⟩ : ∃ n : Nat, t = n := ⟨t.toNat, by omega⟩
  obtain ⟨b, rfl⟩ : ∃ n : Nat, b = n := ⟨b.toNat, by omega⟩
  have h1 := decLen 4 t (by omega)
  have h2 := decLen 10 b (by omega)
  simp only [clkL, numsL, List.flatMap_cons, List.flatMap_nil, List.append_nil, List.length_append, numL, Lib.itoa_nonneg, List.length_cons, List.length_nil]
  omega
theorem clkL_ne (t b : Int) : clkL t b ≠ [] := by simp [clkL, numsL, numL]
theorem pcOf_right {n : Nat} {t b : Int} (h : (clkL t b).length ≤ 37) : rightP (pcOf n t b) = true := by
  rw [rightP_iff]
  simp only [pcOf]
  exact ⟨by decide, by decide, by decide, by decide, h⟩
theorem ld_sec {c : Ck} {n : Nat} {t b : Int} {place : Nat} (hl : (clkL t b).length ≤ 37) (h1 : 0 ≤ t ∧ t ≤ 1000) (h2 : 0 ≤ b ∧ b ≤ 2147483648) (hc : c.n < n) (hn : n ≤ 4611686018427387904) (hp : n % 2 = place) :
    ldC c (secOf n t b) place = ⟨n, t, b⟩ := by
  unfold ldC secOf
  rw [readP_print (pcOf_right hl) (show n < 18446744073709551616 by omega)]
  have hm : mayP c (pcOf n t b) place = true := by
    have e1 : loneP (pcOf n t b) = true := rfl
    unfold mayP
    rw [e1]
    have e2 : (pcOf n t b).stamp = n := rfl
    rw [e2]
    simp [hc, hn, hp]
  simp only [hm, if_true]
  unfold takeC
  have e3 : two (pcOf n t b).data = (t, b, ([], false)) := two_clk h1 h2
  rw [e3]
  rfl
theorem ld_old {c : Ck} {s : List UInt8} {place : Nat} (h : ∀ p, readP s = some p → p.stamp ≤ c.n) : ldC c s place = c := by
  unfold ldC
  cases hr : readP s with
  | none => rfl
  | some p =>
    have := h p hr
    have hm : mayP c p place = false := by
      unfold mayP
      have : decide (c.n < p.stamp) = false := by simp; omega
      rw [this]
      simp
    simp [hm]
/-- a sector whose tail bears a stamp that is not above n -/
def TailB (n : Nat) (s : List UInt8) : Prop := s.length = 64 ∧ ∃ m, m ≤ n ∧ s.drop 56 = be 8 m
theorem TailB.mono {n m : Nat} {s : List UInt8} (h : TailB n s) (hm : n ≤ m) : TailB m s := ⟨h.1, h.2.imp fun _ ⟨a, b⟩ => ⟨by omega, b⟩⟩
theorem TailB.read {n : Nat} {s : List UInt8} (h : TailB n s) (hn : n ≤ 4611686018427387904) : ∀ p, readP s = some p → p.stamp ≤ n := by
  intro p hp
  obtain ⟨_, m, hm, hd⟩ := h
  obtain ⟨_, h2, h3⟩ := readP_tail hp
  rw [h3, ← h2, hd, val_be 8 m (by have : m < 18446744073709551616 := (by omega); simpa using this)]
  exact hm
theorem secOf_len {n : Nat} {t b : Int} (hl : (clkL t b).length ≤ 37) : (secOf n t b).length = 64 := printP_len hl
theorem TailB.sec {n : Nat} {t b : Int} (hl : (clkL t b).length ≤ 37) : TailB n (secOf n t b) := ⟨secOf_len hl, n, Nat.le_refl _, (printP_parts hl).2.2.2.2.2.2.2.2⟩
theorem TailB.torn {n k : Nat} {s x : List UInt8} (h : TailB n s) (hx : x.length = 64) (hk : k ≤ 56) : TailB n (x.take k ++ s.drop k) := by
  obtain ⟨hl, m, hm, hd⟩ := h
  refine ⟨by simp; omega, m, hm, ?_⟩
  rw [List.drop_append, List.drop_eq_nil_of_le (by simp; omega), List.nil_append, List.drop_drop, ← hd]
  congr 1
  simp
  omega
theorem TailB.zero : TailB 0 (zeros 64) := ⟨by decide, 0, Nat.le_refl _, by decide⟩
/-- two sectors that tell of the n-th save -/
def InvC (s0 s1 : List UInt8) (c : Ck) : Prop :=
  TailB c.n s0 ∧ TailB c.n s1 ∧ (0 ≤ c.time ∧ c.time ≤ 1000) ∧ (0 ≤ c.boot ∧ c.boot ≤ 2147483648) ∧ c.n ≤ 4611686018427387904 ∧
    ((c.n = 0 ∧ c.time = 0 ∧ c.boot = 0) ∨ (0 < c.n ∧ (clkL c.time c.boot).length ≤ 37 ∧ (if c.n % 2 = 0 then s0 else s1) = secOf c.n c.time c.boot))
theorem InvC.open' {s0 s1 : List UInt8} {c : Ck} (h : InvC s0 s1 c) : ldC (ldC ⟨0, 0, 0⟩ s0 0) s1 1 = c := by
  obtain ⟨t0, t1, ht, hb, hn, hc⟩ := h
  obtain ⟨n, t, b⟩ := c
  dsimp only at t0 t1 ht hb hn hc
  rcases hc with ⟨rfl, rfl, rfl⟩ | ⟨h0, hl, hs⟩
  · rw [ld_old (c := ⟨0, 0, 0⟩) (s := s0) (t0.read hn), ld_old (t1.read hn)]
  · by_cases hp : n % 2 = 0
    · rw [if_pos hp] at hs
      rw [hs, ld_sec hl ht hb h0 hn hp, ld_old (t1.read hn)]
    · rw [if_neg hp] at hs
      rw [hs]
      have hle : (ldC ⟨0, 0, 0⟩ s0 0).n < n := by
        unfold ldC
        cases hr : readP s0 with
        | none => exact h0
        | some p =>
          have hpn := t0.read hn p hr
          simp only
          split
          · rename_i hm
            have hpe : p.stamp % 2 = 0 := by
              unfold mayP at hm
              simp only [Bool.and_eq_true, decide_eq_true_eq] at hm
              exact hm.2.2.2
            unfold takeC
            split
            · show p.stamp < n
              rcases Nat.lt_or_ge p.stamp n with h | h
              · exact h
              · have : p.stamp = n := by omega
                omega
            · exact h0
          · exact h0
      exact ld_sec hl ht hb hle hn (by omega)
theorem InvC.first : InvC (zeros 64) (zeros 64) ⟨0, 0, 0⟩ := ⟨.zero, .zero, by decide, by decide, by decide, .inl ⟨rfl, rfl, rfl⟩⟩
/-- the next save kept whole -/
theorem InvC.saved {s0 s1 : List UInt8} {c : Ck} (h : InvC s0 s1 c) {t b : Int} (ht : 0 ≤ t ∧ t ≤ 1000) (hb : 0 ≤ b ∧ b ≤ 2147483648) (hl : (clkL t b).length ≤ 37) (hn : c.n + 1 ≤ 4611686018427387904) :
    InvC (if (c.n + 1) % 2 = 0 then secOf (c.n + 1) t b else s0) (if (c.n + 1) % 2 = 0 then s1 else secOf (c.n + 1) t b) ⟨c.n + 1, t, b⟩ := by
  obtain ⟨t0, t1, _⟩ := h
  by_cases hp : (c.n + 1) % 2 = 0
  · simp only [hp, if_true]
    exact ⟨TailB.sec hl, t1.mono (by simp), ht, hb, hn, .inr ⟨by simp, hl, by simp [hp]⟩⟩
  · simp only [hp, if_false]
    exact ⟨t0.mono (by simp), TailB.sec hl, ht, hb, hn, .inr ⟨by simp, hl, by simp [hp]⟩⟩
/-- the next save torn -/
theorem InvC.torn {s0 s1 x : List UInt8} {c : Ck} (h : InvC s0 s1 c) (hx : x.length = 64) {k : Nat} (hk : k ≤ 56) :
    InvC (if (c.n + 1) % 2 = 0 then x.take k ++ s0.drop k else s0) (if (c.n + 1) % 2 = 0 then s1 else x.take k ++ s1.drop k) c := by
  obtain ⟨t0, t1, ht, hb, hn, hc⟩ := h
  by_cases hp : (c.n + 1) % 2 = 0
  · simp only [hp, if_true]
    refine ⟨t0.torn hx hk, t1, ht, hb, hn, hc.imp id ?_⟩
    rintro ⟨h1, h2, h3⟩
    rw [if_neg (by omega)] at h3
    exact ⟨h1, h2, by rw [if_neg (by omega)]; exact h3⟩
  · simp only [hp, if_false]
    refine ⟨t0, t1.torn hx hk, ht, hb, hn, hc.imp id ?_⟩
    rintro ⟨h1, h2, h3⟩
    rw [if_pos (by omega)] at h3
    exact ⟨h1, h2, by rw [if_pos (by omega)]; exact h3⟩
end Go.Proofs.YtbbcicengfmhiaaDoor

/- Sectors, plain: numbers as bytes, a piece as a sector, read as it was. No program here. -/
import Derived.Test.YtbbcicengfmhiaaDoorBase
namespace Go.Proofs.YtbbcicengfmhiaaDoor

/-- a byte of a number: the j-th of k -/
def bAt (k n j : Nat) : UInt8 := UInt8.ofNat (n / 256 ^ (k - 1 - j) % 256)
def be (k n : Nat) : List UInt8 := (List.range k).map (bAt k n)
theorem be_len (k n : Nat) : (be k n).length = k := by simp [be]
theorem be_get {k n j : Nat} (h : j < k) : (be k n)[j]? = some (bAt k n j) := by simp [be, h]
theorem bAt_toNat (k n j : Nat) : (bAt k n j).toNat = n / 256 ^ (k - 1 - j) % 256 := by
  unfold bAt
  rw [UInt8.toNat_ofNat']
  exact Nat.mod_eq_of_lt (Nat.mod_lt _ (by decide))
def val (l : List UInt8) : Nat := l.foldl (fun n c => n * 256 + c.toNat) 0
theorem val_nil : val [] = 0 := rfl
theorem val_snoc (l : List UInt8) (c : UInt8) : val (l ++ [c]) = val l * 256 + c.toNat := by simp [val, List.foldl_append]
theorem val_from (l : List UInt8) : ∀ a : Nat, l.foldl (fun n c => n * 256 + c.toNat) a < (a + 1) * 256 ^ l.length := by
  induction l with
  | nil => intro a; simp
  | cons c l ih =>
    intro a
    have h1 := ih (a * 256 + c.toNat)
    have h2 := c.toNat_lt
    have h3 : (a * 256 + c.toNat + 1) * 256 ^ l.length ≤ ((a + 1) * 256) * 256 ^ l.length := Nat.mul_le_mul_right _ (by omega)
    rw [List.foldl_cons, List.length_cons, Nat.pow_succ, Nat.mul_comm (256 ^ l.length), ← Nat.mul_assoc]
    omega
theorem val_lt (l : List UInt8) : val l < 256 ^ l.length := by
  have := val_from l 0
  simpa [val] using this
theorem be_succ (k n : Nat) : be (k + 1) n = be k (n / 256) ++ [UInt8.ofNat (n % 256)] := by
  unfold be
  rw [List.range_succ, List.map_append]
  congr 1
  · refine List.map_congr_left fun j hj => ?_
    have hj : j < k := by simpa using hj
    unfold bAt
    congr 2
    rw [Nat.div_div_eq_div_mul, show k + 1 - 1 - j = (k - 1 - j) + 1 by omega, Nat.pow_succ, Nat.mul_comm]
  · simp [bAt]
theorem val_be : ∀ (k n : Nat), n < 256 ^ k → val (be k n) = n := by
  intro k
  induction k with
  | zero => intro n h; simp at h; subst h; rfl
  | succ k ih =>
    intro n h
    rw [be_succ, val_snoc, ih (n / 256) (by rw [Nat.pow_succ] at h; exact Nat.div_lt_of_lt_mul (by rw [Nat.mul_comm]; exact h)), UInt8.toNat_ofNat']
    have : n % 256 % 2 ^ 8 = n % 256 := Nat.mod_eq_of_lt (Nat.mod_lt _ (by decide))
    rw [this]
    omega
theorem be_inj {k n m : Nat} (hn : n < 256 ^ k) (hm : m < 256 ^ k) (h : be k n = be k m) : n = m := by
  rw [← val_be k n hn, ← val_be k m hm, h]

/-- a piece -/
structure Pc where
  stamp : Nat
  gen : Int
  no : Int
  index : Int
  total : Int
  data : List UInt8
def inP (n up : Int) : Bool := decide (0 ≤ n) && decide (n < up)
theorem inP_iff {n up : Int} : inP n up = true ↔ 0 ≤ n ∧ n < up := by simp [inP]
def rightP (p : Pc) : Bool := inP p.gen 2147483648 && (inP p.no 65536 && (inP p.total 65536 && (inP p.index p.total && decide (p.data.length ≤ 37))))
theorem rightP_iff {p : Pc} : rightP p = true ↔ (0 ≤ p.gen ∧ p.gen < 2147483648) ∧ (0 ≤ p.no ∧ p.no < 65536) ∧ (0 ≤ p.total ∧ p.total < 65536) ∧ (0 ≤ p.index ∧ p.index < p.total) ∧ p.data.length ≤ 37 := by
  unfold rightP
  simp only [Bool.and_eq_true, inP_iff, decide_eq_true_eq]
def zeros (k : Nat) : List UInt8 := List.replicate k 0
def headP (p : Pc) : List UInt8 := be 8 p.stamp ++ (be 4 p.gen.toNat ++ (be 2 p.no.toNat ++ (be 2 p.index.toNat ++ (be 2 p.total.toNat ++ [UInt8.ofNat p.data.length]))))
def printP (p : Pc) : List UInt8 := headP p ++ (p.data ++ (zeros (37 - p.data.length) ++ be 8 p.stamp))
theorem headP_len (p : Pc) : (headP p).length = 19 := by simp [headP, be_len]
theorem printP_len {p : Pc} (h : p.data.length ≤ 37) : (printP p).length = 64 := by
  simp only [printP, List.length_append, headP_len, be_len, zeros, List.length_replicate]
  omega
/-- what a sector tells -/
def lenP (s : List UInt8) : Nat := (s[18]!).toNat
def pieceP (s : List UInt8) : Pc :=
  ⟨val (s.take 8), val ((s.drop 8).take 4), val ((s.drop 12).take 2), val ((s.drop 14).take 2), val ((s.drop 16).take 2), (s.drop 19).take (lenP s)⟩
def fitP (s : List UInt8) : Bool := s.length == 64 && (s.take 8 == s.drop 56 && decide (lenP s ≤ 37))
def padP (s : List UInt8) : List UInt8 := (s.drop (19 + lenP s)).take (37 - lenP s)
def readP (s : List UInt8) : Option Pc := if fitP s = true then (if rightP (pieceP s) = true ∧ padP s = zeros (37 - lenP s) then some (pieceP s) else none) else none
theorem readP_tail {s : List UInt8} {p : Pc} (h : readP s = some p) : s.length = 64 ∧ s.drop 56 = s.take 8 ∧ p.stamp = val (s.take 8) := by
  unfold readP at h
  split at h
  · rename_i hf
    split at h
    · cases h
      unfold fitP at hf
      simp only [Bool.and_eq_true, beq_iff_eq] at hf
      exact ⟨hf.1, hf.2.1.symm, rfl⟩
    · cases h
  · cases h
theorem printP_parts {p : Pc} (h : p.data.length ≤ 37) : (printP p).take 8 = be 8 p.stamp ∧ ((printP p).drop 8).take 4 = be 4 p.gen.toNat ∧ ((printP p).drop 12).take 2 = be 2 p.no.toNat ∧ ((printP p).drop 14).take 2 = be 2 p.index.toNat ∧
    ((printP p).drop 16).take 2 = be 2 p.total.toNat ∧ lenP (printP p) = p.data.length ∧ ((printP p).drop 19).take p.data.length = p.data ∧ ((printP p).drop (19 + p.data.length)).take (37 - p.data.length) = zeros (37 - p.data.length) ∧ (printP p).drop 56 = be 8 p.stamp := by
  have l8 := be_len 8 p.stamp
  have l4 := be_len 4 p.gen.toNat
  have l2 := be_len 2 p.no.toNat
  have l2' := be_len 2 p.index.toNat
  have l2'' := be_len 2 p.total.toNat
  have lz : (zeros (37 - p.data.length)).length = 37 - p.data.length := by simp [zeros]
  have lt := be_len 8 p.stamp
  unfold printP headP lenP
  generalize be 8 p.stamp = A at *
  generalize be 4 p.gen.toNat = B at *
  generalize be 2 p.no.toNat = C at *
  generalize be 2 p.index.toNat = D at *
  generalize be 2 p.total.toNat = E at *
  generalize zeros (37 - p.data.length) = Z at *
  have hA : ∀ X : List UInt8, (A ++ X).take 8 = A := fun X => by rw [List.take_append_of_le_length (by omega), List.take_of_length_le (by omega)]
  have dA : ∀ (X : List UInt8) (k : Nat), (A ++ X).drop (8 + k) = X.drop k := fun X k => by rw [← l8, List.drop_length_add_append]
  have dB : ∀ (X : List UInt8) (k : Nat), (B ++ X).drop (4 + k) = X.drop k := fun X k => by rw [← l4, List.drop_length_add_append]
  have dC : ∀ (X : List UInt8) (k : Nat), (C ++ X).drop (2 + k) = X.drop k := fun X k => by rw [← l2, List.drop_length_add_append]
  have dD : ∀ (X : List UInt8) (k : Nat), (D ++ X).drop (2 + k) = X.drop k := fun X k => by rw [← l2', List.drop_length_add_append]
  have dE : ∀ (X : List UInt8) (k : Nat), (E ++ X).drop (2 + k) = X.drop k := fun X k => by rw [← l2'', List.drop_length_add_append]
  have tk : ∀ (Y X : List UInt8) (k : Nat), Y.length = k → (Y ++ X).take k = Y := fun Y X k e => by rw [← e, List.take_left]
  simp only [List.append_assoc, List.cons_append, List.nil_append]
  refine ⟨hA _, ?_, ?_, ?_, ?_, ?_, ?_, ?_, ?_⟩
  · rw [show 8 = 8 + 0 from rfl, dA, List.drop_zero, tk _ _ _ l4]
  · rw [show 12 = 8 + (4 + 0) from rfl, dA, dB, List.drop_zero, tk _ _ _ l2]
  · rw [show 14 = 8 + (4 + (2 + 0)) from rfl, dA, dB, dC, List.drop_zero, tk _ _ _ l2']
  · rw [show 16 = 8 + (4 + (2 + (2 + 0))) from rfl, dA, dB, dC, dD, List.drop_zero, tk _ _ _ l2'']
  · have : (A ++ (B ++ (C ++ (D ++ (E ++ UInt8.ofNat p.data.length :: (p.data ++ (Z ++ A)))))))[18]? = some (UInt8.ofNat p.data.length) := by
      have e := dA (B ++ (C ++ (D ++ (E ++ UInt8.ofNat p.data.length :: (p.data ++ (Z ++ A)))))) (4 + (2 + (2 + (2 + 0))))
      rw [dB, dC, dD, dE, List.drop_zero] at e
      have := congrArg (fun l : List UInt8 => l[0]?) e
      simpa using this
    rw [List.getElem!_eq_getElem?_getD, this]
    simp only [Option.getD_some, UInt8.toNat_ofNat']
    exact Nat.mod_eq_of_lt (by omega)
  · rw [show 19 = 8 + (4 + (2 + (2 + (2 + 1)))) from rfl, dA, dB, dC, dD, dE, List.drop_succ_cons, List.drop_zero, tk _ _ _ rfl]
  · rw [show 19 + p.data.length = 8 + (4 + (2 + (2 + (2 + (1 + p.data.length))))) by omega, dA, dB, dC, dD, dE, Nat.add_comm 1, List.drop_succ_cons, List.drop_left, tk _ _ _ lz]
  · rw [show 56 = 8 + (4 + (2 + (2 + (2 + (1 + (p.data.length + (37 - p.data.length))))))) by omega, dA, dB, dC, dD, dE, Nat.add_comm 1, List.drop_succ_cons, List.drop_length_add_append, ← lz, List.drop_left]
theorem readP_print {p : Pc} (h : rightP p = true) (hs : p.stamp < 18446744073709551616) : readP (printP p) = some p := by
  obtain ⟨h1, h2, h3, h4, h5⟩ := rightP_iff.1 h
  obtain ⟨q1, q2, q3, q4, q5, q6, q7, q8, q9⟩ := printP_parts (p := p) h5
  have hp : pieceP (printP p) = p := by
    unfold pieceP
    rw [q1, q2, q3, q4, q5, q6, q7, val_be 8 p.stamp (by simpa using hs), val_be 4 _ (by have : p.gen.toNat < 4294967296 := (by omega); simpa using this), val_be 2 _ (by have : p.no.toNat < 65536 := (by omega); simpa using this), val_be 2 _ (by have : p.index.toNat < 65536 := (by omega); simpa using this), val_be 2 _ (by have : p.total.toNat < 65536 := (by omega); simpa using this)]
    rw [Int.toNat_of_nonneg h1.1, Int.toNat_of_nonneg h2.1, Int.toNat_of_nonneg h3.1, Int.toNat_of_nonneg h4.1]
  have hf : fitP (printP p) = true := by
    unfold fitP
    rw [printP_len h5, q1, q9, q6]
    simp [h5]
  unfold readP
  rw [if_pos hf, if_pos ⟨by rw [hp]; exact h, by unfold padP; rw [q6, q8]⟩, hp]
end Go.Proofs.YtbbcicengfmhiaaDoor

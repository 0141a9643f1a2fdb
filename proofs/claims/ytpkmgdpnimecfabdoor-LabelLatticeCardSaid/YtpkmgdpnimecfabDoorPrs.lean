/- Plain laws of labels' texts: what a text is read as. -/
import Derived.Test.YtpkmgdpnimecfabDoorTxt
import Derived.Test.YtpkmgdpnimecfabDoorPh
namespace Go.Proofs.YtpkmgdpnimecfabDoor

theorem hvL_lt (l : List UInt8) : ∀ (n v : Nat), hvL l n = some v → v < 16 ^ l.length * (n + 1) := by
  induction l with
  | nil => intro n v h; simp [hvL] at h; subst h; simp
  | cons c l ih =>
    intro n v h
    unfold hvL at h
    cases hp : pH c with
    | none => rw [hp] at h; cases h
    | some d =>
      rw [hp] at h
      have h1 := ih _ _ h
      have hd := pH_lt hp
      rw [List.length_cons, Nat.pow_succ, Nat.mul_assoc]
      exact Nat.lt_of_lt_of_le h1 (Nat.mul_le_mul_left _ (by omega))
theorem pH_hexD (d : Nat) (hd : d < 16) : pH (hexD d) = some d := by
  match d, hd with
  | 0, _ | 1, _ | 2, _ | 3, _ | 4, _ | 5, _ | 6, _ | 7, _ | 8, _ | 9, _ | 10, _ | 11, _ | 12, _ | 13, _ | 14, _ | 15, _ => decide +kernel
  | n + 16, h => exact absurd h (by omega)
/-- a byte's digit, as the document has it; 0 of one that is none -/
def hxR (c : UInt8) : Nat := if 48 ≤ c.toNat ∧ c.toNat ≤ 57 then c.toNat - 48 else if 97 ≤ c.toNat ∧ c.toNat ≤ 102 then c.toNat - 87 else 0
theorem hxR_hexD (d : Nat) (hd : d < 16) : hxR (hexD d) = d := by
  match d, hd with
  | 0, _ | 1, _ | 2, _ | 3, _ | 4, _ | 5, _ | 6, _ | 7, _ | 8, _ | 9, _ | 10, _ | 11, _ | 12, _ | 13, _ | 14, _ | 15, _ => decide +kernel
  | n + 16, h => exact absurd h (by omega)
theorem hxR_lt (c : UInt8) : hxR c < 16 := by
  unfold hxR
  split
  · omega
  · split <;> omega
def valR : List UInt8 → Nat → Nat
  | [], n => n
  | c :: l, n => valR l (n * 16 + hxR c)
theorem hvL_hexL (x : Nat) (hx : x < 65536) : hvL (hexL x 4) 0 = some x := by
  have h (m : Nat) : x / 16 ^ m % 16 < 16 := Nat.mod_lt _ (by omega)
  simp only [hexL, hvL, pH_hexD _ (h _)]
  simp
  omega
theorem valR_hexL (x : Nat) (hx : x < 65536) : valR (hexL x 4) 0 = x := by
  have h (m : Nat) : x / 16 ^ m % 16 < 16 := Nat.mod_lt _ (by omega)
  simp only [hexL, valR, hxR_hexD _ (h _)]
  simp
  omega
theorem valR_lt (l : List UInt8) : ∀ n : Nat, valR l n < 16 ^ l.length * (n + 1) := by
  induction l with
  | nil => intro n; simp [valR]
  | cons c l ih =>
    intro n
    unfold valR
    have h1 := ih (n * 16 + hxR c)
    have hd := hxR_lt c
    rw [List.length_cons, Nat.pow_succ, Nat.mul_assoc]
    exact Nat.lt_of_lt_of_le h1 (Nat.mul_le_mul_left _ (by omega))
/-- what the program reads -/
def parseL (l : List UInt8) : Option (Int × Nat) :=
  if l.length = 6 then
    match hvL (l.drop 2) 0 with
    | some v => if txtL ((l[0]!.toNat : Int) - 48) v = l then some ((l[0]!.toNat : Int) - 48, v) else none
    | none => none
  else none
/-- what the document reads -/
def parseR (l : List UInt8) : Option (Int × Nat) :=
  if l.length = 6 ∧ 48 ≤ l[0]!.toNat ∧ l[0]!.toNat ≤ 55 then
    if txtL ((l[0]!.toNat : Int) - 48) (valR (l.drop 2) 0) = l then some ((l[0]!.toNat : Int) - 48, valR (l.drop 2) 0) else none
  else none
theorem txtL_right {a : Int} {x : Nat} (h : rightLv a = true) : txtL a x = UInt8.ofNat (48 + a.toNat) :: 58 :: hexL x 4 := by unfold txtL; rw [if_pos h]
theorem txtL_wrong {a : Int} {x : Nat} (h : rightLv a = false) : txtL a x = [] := by unfold txtL; rw [h]; rfl
theorem txtL_len {a : Int} {x : Nat} (h : rightLv a = true) : (txtL a x).length = 6 := by rw [txtL_right h]; simp [hexL_len]
theorem right_le {a : Int} (h : rightLv a = true) : 0 ≤ a ∧ a ≤ 7 := by simp [rightLv] at h; omega
theorem ch_nat {a : Int} (h : rightLv a = true) : (UInt8.ofNat (48 + a.toNat)).toNat = 48 + a.toNat := by
  have := right_le h
  rw [UInt8.toNat_ofNat']
  omega
theorem txtL_first {a : Int} {x : Nat} (h : rightLv a = true) : (((txtL a x)[0]!).toNat : Int) - 48 = a := by
  rw [txtL_right h]
  show (((UInt8.ofNat (48 + a.toNat)).toNat : Nat) : Int) - 48 = a
  have := right_le h
  rw [ch_nat h]
  omega
theorem txtL_drop {a : Int} {x : Nat} (h : rightLv a = true) : (txtL a x).drop 2 = hexL x 4 := by rw [txtL_right h]; rfl
theorem parseL_txt {a : Int} {x : Nat} (h : rightLv a = true) (hx : x < 65536) : parseL (txtL a x) = some (a, x) := by
  unfold parseL
  rw [if_pos (txtL_len h), txtL_drop h, hvL_hexL x hx]
  simp only [txtL_first h]
  simp
theorem parseR_txt {a : Int} {x : Nat} (h : rightLv a = true) (hx : x < 65536) : parseR (txtL a x) = some (a, x) := by
  unfold parseR
  have h0 := txtL_first (x := x) h
  have h7 := right_le h
  rw [if_pos ⟨txtL_len h, by omega, by omega⟩, txtL_drop h, valR_hexL x hx, h0, if_pos rfl]
theorem txtL_len6 {a : Int} {x : Nat} (h : (txtL a x).length = 6) : rightLv a = true := by
  cases hr : rightLv a with
  | true => rfl
  | false => rw [txtL_wrong hr] at h; simp at h
theorem parseL_of {l : List UInt8} {a : Int} {x : Nat} (h : parseL l = some (a, x)) : rightLv a = true ∧ x < 65536 ∧ txtL a x = l := by
  unfold parseL at h
  split at h
  · rename_i hl
    split at h
    · rename_i v hv
      split at h
      · rename_i ht
        cases h
        refine ⟨txtL_len6 (x := x) (by rw [ht]; exact hl), ?_, ht⟩
        have := hvL_lt _ _ _ hv
        rw [List.length_drop, hl] at this
        omega
      · cases h
    · cases h
  · cases h
theorem parseR_of {l : List UInt8} {a : Int} {x : Nat} (h : parseR l = some (a, x)) : rightLv a = true ∧ x < 65536 ∧ txtL a x = l := by
  unfold parseR at h
  split at h
  · rename_i hl
    split at h
    · rename_i ht
      cases h
      refine ⟨txtL_len6 (x := valR (l.drop 2) 0) (by rw [ht]; exact hl.1), ?_, ht⟩
      have := valR_lt (l.drop 2) 0
      rw [List.length_drop, hl.1] at this
      omega
    · cases h
  · cases h
theorem parse_eq (l : List UInt8) : parseL l = parseR l := by
  apply Option.ext
  rintro ⟨a, x⟩
  constructor
  · intro h
    obtain ⟨h1, h2, h3⟩ := parseL_of h
    rw [← h3, parseR_txt h1 h2]
  · intro h
    obtain ⟨h1, h2, h3⟩ := parseR_of h
    rw [← h3, parseL_txt h1 h2]
theorem txtL_inj {a b : Int} {x y : Nat} (ha : rightLv a = true) (hx : x < 65536) (hb : rightLv b = true) (hy : y < 65536) (h : txtL a x = txtL b y) : a = b ∧ x = y := by
  have h1 := parseL_txt ha hx
  rw [h, parseL_txt hb hy] at h1
  cases h1
  exact ⟨rfl, rfl⟩
theorem parseL_nil : parseL [] = none := rfl
end Go.Proofs.YtpkmgdpnimecfabDoor

/- label.Text. Conditions: sets are of 16 bits; the library's tables lie as they were laid. The digits of a hexadecimal text. Plain laws of labels' texts: what a text is read as. -/
import Derived.Test.YtefnkoofgpmmmaaGreatDoorFmt
import Derived.Test.YtefnkoofgpmmmaaGreatDoorCod2
namespace Go.Proofs.YtefnkoofgpmmmaaGreatDoor
set_option maxRecDepth 100000
open Go.RowKit

theorem ba_app (l m : List UInt8) : (ByteArray.mk l.toArray) ++ (ByteArray.mk m.toArray) = ByteArray.mk (l ++ m).toArray := by
  apply ByteArray.ext
  simp
theorem fmtU (x : Nat) (hx : x < 65536) (w : World) (hM : Met w) : Calls Tryz.prog 209 #[.int .u64 x, .int .i64 16] w fun e w' => e = .returned (.string ⟨(hexL x (hexN x)).toArray⟩) ∧ Below w.heap.size w w' := by
  have q := fmtBits x hx w hM
  generalize hexL x (hexN x) = l at q ⊢
  go_enter Tryz.func209, Tryz.ntmps209
  go_wp2_with fail
  refine q.mono ?_
  rintro e w' ⟨rfl, hb⟩
  clear q
  have HB := Lib.hid hb
  clear hb
  go_wp2
  go_ret
  exact ⟨rfl, HB.out⟩
theorem fmtUint (x : Nat) (hx : x < 65536) (w : World) (hM : Met w) : Calls Tryz.prog 161 #[.int .u64 x, .int .i64 16] w fun e w' => e = .returned (.string ⟨(hexL x (hexN x)).toArray⟩) ∧ Below w.heap.size w w' := by
  have q := fmtU x hx w hM
  generalize hexL x (hexN x) = l at q ⊢
  go_enter Tryz.func161, Tryz.ntmps161
  go_wp2_with fail
  refine q.mono ?_
  rintro e w' ⟨rfl, hb⟩
  clear q
  have HB := Lib.hid hb
  clear hb
  go_wp2
  go_ret
  exact ⟨rfl, HB.out⟩
def txtL (a : Int) (x : Nat) : List UInt8 := if rightLv a = true then UInt8.ofNat (48 + a.toNat) :: 58 :: hexL x 4 else []
theorem hexN_le (x : Nat) : 1 ≤ hexN x ∧ hexN x ≤ 4 := by unfold hexN; split <;> (try split) <;> (try split) <;> omega
theorem hexL_len (x m : Nat) : (hexL x m).length = m := by induction m with
  | zero => rfl
  | succ m ih => simp [hexL, ih]
theorem hexL_pad (x : Nat) (hx : x < 65536) : List.replicate (4 - hexN x) 48 ++ hexL x (hexN x) = hexL x 4 := by
  unfold hexN
  have h48 : hexD 0 = 48 := rfl
  split
  · have e1 : x / 16 % 16 = 0 := by omega
    have e2 : x / 256 % 16 = 0 := by omega
    have e3 : x / 4096 % 16 = 0 := by omega
    simp [hexL, e1, e2, e3, h48, List.replicate]
  · split
    · have e2 : x / 256 % 16 = 0 := by omega
      have e3 : x / 4096 % 16 = 0 := by omega
      simp [hexL, e2, e3, h48, List.replicate]
    · split
      · have e3 : x / 4096 % 16 = 0 := by omega
        simp [hexL, e3, h48, List.replicate]
      · simp [List.replicate]
theorem itoa_small {a : Int} (h : rightLv a = true) : Lib.itoa a = [UInt8.ofNat (48 + a.toNat)] := by
  simp [rightLv] at h
  obtain ⟨n, rfl⟩ := Int.eq_ofNat_of_zero_le h.1
  have : n ≤ 7 := by omega
  match n, this with
  | 0, _ | 1, _ | 2, _ | 3, _ | 4, _ | 5, _ | 6, _ | 7, _ => clear h this; decide +kernel
theorem txt_join {a : Int} {x : Nat} (hx : x < 65536) (h : rightLv a = true) :
    ByteArray.mk (Lib.itoa a).toArray ++ ByteArray.mk #[58] ++ ByteArray.mk (List.replicate (4 - hexN x) 48).toArray ++ ByteArray.mk (hexL x (hexN x)).toArray = ByteArray.mk (txtL a x).toArray := by
  unfold txtL
  rw [if_pos h, itoa_small h, show (#[58] : Array UInt8) = [58].toArray from rfl, ba_app, ba_app, ba_app, ← hexL_pad x hx]
  simp
set_option maxRecDepth 100000 in
set_option maxHeartbeats 2000000 in
theorem labelText (a : Int) (x : Nat) (hx : x < 65536) (w : World) (hM : Met w) : Calls Tryz.prog 111 #[(.agg #[.int .i64 (a), .int .u16 ((x : Nat) : Int)])] w fun e w' => e = .returned (.string ⟨(txtL a x).toArray⟩) ∧ Below w.heap.size w w' := by
  have HX := Lib.hid hx
  have HM := Lib.hid hM
  clear hM
  have q := labelRight a x (w.alloc (.cells #[.int .i64 a, .int .u16 (x : Int)] 56))
  have HJ := Lib.hid (txt_join (a := a) hx)
  have hN := Lib.hid (hexN_le x)
  have hL := Lib.hid (hexL_len x (hexN x))
  obtain ⟨R, hR⟩ : ∃ R, R = txtL a x := ⟨_, rfl⟩
  rw [← hR] at HJ ⊢
  have HR := Lib.hid (show rightLv a = false → R = [] from fun h => by rw [hR, txtL, h]; rfl)
  have hoa := Lib.hid (show rightLv a = true → okI a from fun h => by simp [rightLv] at h; unfold okI; omega)
  have hw : IntKind.u64.wrap (x : Int) = (x : Int) := by simp [IntKind.wrap, IntKind.signed, IntKind.bits]; omega
  have hit := Lib.hid (show rightLv a = true → Lib.itoa a = [UInt8.ofNat (48 + a.toNat)] from itoa_small)
  clear hR hx
  generalize rightLv a = r at q HJ HR hoa hit
  go_enter Tryz.func111, Tryz.ntmps111
  go_wp2_with fail
  refine q.mono ?_
  rintro e w1 ⟨rfl, hb⟩
  clear q
  have HB := Lib.hid ((below1 w (.cells #[.int .i64 a, .int .u16 (x : Int)] 56)).trans (hb.mono (below1 w (.cells #[.int .i64 a, .int .u16 (x : Int)] 56)).size))
  have e0 := (hb.cell (p := ⟨w.heap.size, 0, none⟩) (by simp)).trans (show (w.alloc (.cells #[.int .i64 a, .int .u16 (x : Int)] 56)).cell? ⟨w.heap.size, 0, none⟩ = some (.int .i64 a) by go_simp)
  have e1 := (hb.cell (p := ⟨w.heap.size, 1, none⟩) (by simp)).trans (show (w.alloc (.cells #[.int .i64 a, .int .u16 (x : Int)] 56)).cell? ⟨w.heap.size, 1, none⟩ = some (.int .u16 (x : Int)) by go_simp)
  have ez : w.heap.size < w1.heap.size := by have := hb.size; simp at this; omega
  clear hb
  cases r with
  | false =>
    go_wp2
    go_ret
    have hr := HR.out trivial
    subst hr
    exact ⟨rfl, HB.out⟩
  | true =>
    go_wp2_with fail
    refine (fmtUint x HX.out w1 (HM.out.below HB.out)).mono ?_
    rintro e w2 ⟨rfl, hb⟩
    have HB2 := Lib.hid (HB.out.trans (hb.mono (Nat.le_of_lt ez)))
    have e0' := (hb.cell (p := ⟨w.heap.size, 0, none⟩) ez).trans e0
    have ez' := Nat.lt_of_lt_of_le ez hb.size
    clear hb e0 e1 ez
    generalize hexL x (hexN x) = l at hL HJ ⊢
    go_wp2_with fail
    have qi := itoaC a (hoa.out trivial) w2 (HM.out.below HB2.out)
    rw [hit.out trivial] at qi HJ
    generalize UInt8.ofNat (48 + a.toNat) = ch at qi HJ
    refine qi.mono ?_
    rintro e w3 ⟨rfl, hb⟩
    clear qi
    have HB3 := Lib.hid (HB2.out.trans (hb.mono (Nat.le_of_lt ez')))
    clear hb e0' ez'
    obtain ⟨n, hn⟩ : ∃ n, n = 4 - hexN x := ⟨_, rfl⟩
    have q2 := repL n (by have := hN.out; omega) w3
    rw [show ((n : Nat) : Int) = (4 : Int) - (l.length : Int) by have := hL.out; have := hN.out; omega] at q2
    have hn3 : n ≤ 3 := by have := hN.out; omega
    have hl4 : l.length ≤ 4 := by have := hN.out; have := hL.out; omega
    rw [← hn] at HJ
    clear hn
    go_wp2_with fail
    refine q2.mono ?_
    rintro e w4 ⟨rfl, rfl⟩
    clear q2
    go_wp2
    go_ret
    exact ⟨by rw [← HJ.out trivial]; rfl, HB3.out⟩
end Go.Proofs.YtefnkoofgpmmmaaGreatDoor

namespace Go.Proofs.YtefnkoofgpmmmaaGreatDoor

/-- a byte's digit -/
def pH (c : UInt8) : Option Nat :=
  if 48 ≤ c.toNat ∧ c.toNat ≤ 57 then some (c.toNat - 48)
  else if 97 ≤ (c ||| 32).toNat ∧ (c ||| 32).toNat ≤ 102 then some ((c ||| 32).toNat - 87) else none
def hvL : List UInt8 → Nat → Option Nat
  | [], n => some n
  | c :: l, n => match pH c with
    | some d => hvL l (n * 16 + d)
    | none => none
theorem pH_lt {c : UInt8} {d : Nat} (h : pH c = some d) : d < 16 := by
  unfold pH at h
  split at h
  · cases h; omega
  · split at h
    · cases h; omega
    · cases h
end Go.Proofs.YtefnkoofgpmmmaaGreatDoor

namespace Go.Proofs.YtefnkoofgpmmmaaGreatDoor

theorem hvL_lt (l : List UInt8) : ∀ (n v : Nat), hvL l n = some v → v < 16 ^ l.length * (n + 1) := by
  induction l with
  | nil => intro n v h; simp [hvL] at h; subst h; simp
  | cons c l ih =>
    intro n v h
    unfold hvL at h
    cases hp : pH c with
    | none => rw [hp] at h; cases h
    | some d =>
      rw [hp] at h
      have h1 := ih _ _ h
      have hd := pH_lt hp
      rw [List.length_cons, Nat.pow_succ, Nat.mul_assoc]
      exact Nat.lt_of_lt_of_le h1 (Nat.mul_le_mul_left _ (by omega))
theorem pH_hexD (d : Nat) (hd : d < 16) : pH (hexD d) = some d := by
  match d, hd with
  | 0, _ | 1, _ | 2, _ | 3, _ | 4, _ | 5, _ | 6, _ | 7, _ | 8, _ | 9, _ | 10, _ | 11, _ | 12, _ | 13, _ | 14, _ | 15, _ => decide +kernel
  | n + 16, h => exact absurd h (by omega)
/-- a byte's digit, as the document has it; 0 of one that is none -/
def hxR (c : UInt8) : Nat := if 48 ≤ c.toNat ∧ c.toNat ≤ 57 then c.toNat - 48 else if 97 ≤ c.toNat ∧ c.toNat ≤ 102 then c.toNat - 87 else 0
theorem hxR_hexD (d : Nat) (hd : d < 16) : hxR (hexD d) = d := by
  match d, hd with
  | 0, _ | 1, _ | 2, _ | 3, _ | 4, _ | 5, _ | 6, _ | 7, _ | 8, _ | 9, _ | 10, _ | 11, _ | 12, _ | 13, _ | 14, _ | 15, _ => decide +kernel
  | n + 16, h => exact absurd h (by omega)
theorem hxR_lt (c : UInt8) : hxR c < 16 := by
  unfold hxR
  split
  · omega
  · split <;> omega
def valR : List UInt8 → Nat → Nat
  | [], n => n
  | c :: l, n => valR l (n * 16 + hxR c)
theorem hvL_hexL (x : Nat) (hx : x < 65536) : hvL (hexL x 4) 0 = some x := by
  have h (m : Nat) : x / 16 ^ m % 16 < 16 := Nat.mod_lt _ (by omega)
  simp only [hexL, hvL, pH_hexD _ (h _)]
  simp
  omega
theorem valR_hexL (x : Nat) (hx : x < 65536) : valR (hexL x 4) 0 = x := by
  have h (m : Nat) : x / 16 ^ m % 16 < 16 := Nat.mod_lt _ (by omega)
  simp only [hexL, valR, hxR_hexD _ (h _)]
  simp
  omega
theorem valR_lt (l : List UInt8) : ∀ n : Nat, valR l n < 16 ^ l.length * (n + 1) := by
  induction l with
  | nil => intro n; simp [valR]
  | cons c l ih =>
    intro n
    unfold valR
    have h1 := ih (n * 16 + hxR c)
    have hd := hxR_lt c
    rw [List.length_cons, Nat.pow_succ, Nat.mul_assoc]
    exact Nat.lt_of_lt_of_le h1 (Nat.mul_le_mul_left _ (by omega))
/-- what the program reads -/
def parseL (l : List UInt8) : Option (Int × Nat) :=
  if l.length = 6 then
    match hvL (l.drop 2) 0 with
    | some v => if txtL ((l[0]!.toNat : Int) - 48) v = l then some ((l[0]!.toNat : Int) - 48, v) else none
    | none => none
  else none
/-- what the document reads -/
def parseR (l : List UInt8) : Option (Int × Nat) :=
  if l.length = 6 ∧ 48 ≤ l[0]!.toNat ∧ l[0]!.toNat ≤ 55 then
    if txtL ((l[0]!.toNat : Int) - 48) (valR (l.drop 2) 0) = l then some ((l[0]!.toNat : Int) - 48, valR (l.drop 2) 0) else none
  else none
theorem txtL_right {a : Int} {x : Nat} (h : rightLv a = true) : txtL a x = UInt8.ofNat (48 + a.toNat) :: 58 :: hexL x 4 := by unfold txtL; rw [if_pos h]
theorem txtL_wrong {a : Int} {x : Nat} (h : rightLv a = false) : txtL a x = [] := by unfold txtL; rw [h]; rfl
theorem txtL_len {a : Int} {x : Nat} (h : rightLv a = true) : (txtL a x).length = 6 := by rw [txtL_right h]; simp [hexL_len]
theorem right_le {a : Int} (h : rightLv a = true) : 0 ≤ a ∧ a ≤ 7 := by simp [rightLv] at h; omega
theorem ch_nat {a : Int} (h : rightLv a = true) : (UInt8.ofNat (48 + a.toNat)).toNat = 48 + a.toNat := by
  have := right_le h
  rw [UInt8.toNat_ofNat']
  omega
theorem txtL_first {a : Int} {x : Nat} (h : rightLv a = true) : (((txtL a x)[0]!).toNat : Int) - 48 = a := by
  rw [txtL_right h]
  show (((UInt8.ofNat (48 + a.toNat)).toNat : Nat) : Int) - 48 = a
  have := right_le h
  rw [ch_nat h]
  omega
theorem txtL_drop {a : Int} {x : Nat} (h : rightLv a = true) : (txtL a x).drop 2 = hexL x 4 := by rw [txtL_right h]; rfl
theorem parseL_txt {a : Int} {x : Nat} (h : rightLv a = true) (hx : x < 65536) : parseL (txtL a x) = some (a, x) := by
  unfold parseL
  rw [if_pos (txtL_len h), txtL_drop h, hvL_hexL x hx]
  simp only [txtL_first h]
  simp
theorem parseR_txt {a : Int} {x : Nat} (h : rightLv a = true) (hx : x < 65536) : parseR (txtL a x) = some (a, x) := by
  unfold parseR
  have h0 := txtL_first (x := x) h
  have h7 := right_le h
  rw [if_pos ⟨txtL_len h, by omega, by omega⟩, txtL_drop h, valR_hexL x hx, h0, if_pos rfl]
theorem txtL_len6 {a : Int} {x : Nat} (h : (txtL a x).length = 6) : rightLv a = true := by
  cases hr : rightLv a with
  | true => rfl
  | false => rw [txtL_wrong hr] at h; simp at h
theorem parseL_of {l : List UInt8} {a : Int} {x : Nat} (h : parseL l = some (a, x)) : rightLv a = true ∧ x < 65536 ∧ txtL a x = l := by
  unfold parseL at h
  split at h
  · rename_i hl
    split at h
    · rename_i v hv
      split at h
      · rename_i ht
        cases h
        refine ⟨txtL_len6 (x := x) (by rw [ht]; exact hl), ?_, ht⟩
        have := hvL_lt _ _ _ hv
        rw [List.length_drop, hl] at this
        omega
      · cases h
    · cases h
  · cases h
theorem parseR_of {l : List UInt8} {a : Int} {x : Nat} (h : parseR l = some (a, x)) : rightLv a = true ∧ x < 65536 ∧ txtL a x = l := by
  unfold parseR at h
  split at h
  · rename_i hl
    split at h
    · rename_i ht
      cases h
      refine ⟨txtL_len6 (x := valR (l.drop 2) 0) (by rw [ht]; exact hl.1), ?_, ht⟩
      have := valR_lt (l.drop 2) 0
      rw [List.length_drop, hl.1] at this
      omega
    · cases h
  · cases h
theorem parse_eq (l : List UInt8) : parseL l = parseR l := by
  apply Option.ext
  rintro ⟨a, x⟩
  constructor
  · intro h
    obtain ⟨h1, h2, h3⟩ := parseL_of h
    rw [← h3, parseR_txt h1 h2]
  · intro h
    obtain ⟨h1, h2, h3⟩ := parseR_of h
    rw [← h3, parseL_txt h1 h2]
theorem txtL_inj {a b : Int} {x y : Nat} (ha : rightLv a = true) (hx : x < 65536) (hb : rightLv b = true) (hy : y < 65536) (h : txtL a x = txtL b y) : a = b ∧ x = y := by
  have h1 := parseL_txt ha hx
  rw [h, parseL_txt hb hy] at h1
  cases h1
  exact ⟨rfl, rfl⟩
theorem parseL_nil : parseL [] = none := rfl
end Go.Proofs.YtefnkoofgpmmmaaGreatDoor

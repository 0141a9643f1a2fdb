/- strings.Trim at a nought. Conditions: sizes. -/
import Derived.Test.YtbbcicengfmhiaaDoorSec1
import Derived.Deep.QuietTactic
import Derived.BigQuiet
namespace Go.Proofs.YtbbcicengfmhiaaDoor
set_option maxRecDepth 100000
open Go.RowKit

theorem exL (r : List UInt8) (i j : Nat) : (⟨r.toArray⟩ : ByteArray).extract i j = ⟨((r.take j).drop i).toArray⟩ := by
  apply ByteArray.ext
  simp only [ByteArray.data_extract, List.extract_toArray, List.extract_eq_take_drop]
  rw [List.drop_take]
theorem szL (r : List UInt8) : (⟨r.toArray⟩ : ByteArray).size = r.length := rfl
theorem getL (r : List UInt8) (k : Nat) (h : k < (⟨r.toArray⟩ : ByteArray).size) : (⟨r.toArray⟩ : ByteArray)[k] = r[k]! := by
  have h' : k < r.length := h
  rw [getElem!_pos r k h']
  rfl
def RightZ (l : List UInt8) (e : Ending) : Prop := ∃ k, k ≤ l.length ∧ e = .returned (.string ⟨(l.take k).toArray⟩) ∧ (∀ j, k ≤ j → j < l.length → l[j]! = 0) ∧ (0 < k → l[k - 1]! ≠ 0)
set_option maxHeartbeats 1000000 in
theorem trimRightZ (l : List UInt8) (w : World) (hl : l.length ≤ 1000000) : Calls Tryd.prog 180 #[.string ⟨l.toArray⟩, .int .u8 0] w fun e w' => RightZ l e ∧ w = w' := by
  obtain ⟨s, hs⟩ : ∃ s : ByteArray, s = ⟨l.toArray⟩ := ⟨_, rfl⟩
  rw [← hs]
  have HS := Lib.hid hs
  clear hs
  go_enter Tryd.func180, Tryd.ntmps180
  go_wp2
  go_loop [0] (fun t => ∃ k : Nat, k ≤ l.length ∧ t = .string ⟨(l.take k).toArray⟩ ∧ Hid (∀ j, k ≤ j → j < l.length → l[j]! = 0)) (fun t => (match t with | .string u => u.size | _ => 0))
  case atStart => exact ⟨l.length, Nat.le_refl _, by rw [List.take_length, HS.out], Lib.hid (fun j h1 h2 => by omega)⟩
  case round =>
    obtain ⟨k, hk, rfl, HZ⟩ := hrel
    obtain ⟨u, hu⟩ : ∃ u : ByteArray, u = ⟨(l.take k).toArray⟩ := ⟨_, rfl⟩
    have husz : u.size = k := by rw [hu, szL]; simp; omega
    rw [← hu]
    have HU := Lib.hid hu
    by_cases h0 : k = 0
    · have hu0 : u.size = 0 := by omega
      have HF := Lib.hid (show RightZ l (.returned (.string u)) from ⟨k, hk, by rw [HU.out], HZ.out, fun h => by omega⟩)
      clear hu husz h0
      go_wp2
      go_ret
      exact ⟨HF.out, rfl⟩
    · have hi : k - 1 < u.size := by omega
      have hget : u[k - 1] = l[k - 1]! := by
        have h1 := getL (l.take k) (k - 1) (by rw [szL]; simp; omega)
        subst hu
        rw [h1, getElem!_pos (l.take k) (k - 1) (by simp; omega), List.getElem_take, getElem!_pos l (k - 1) (by omega)]
      by_cases hz : l[k - 1]! = 0
      · have HN := Lib.hid (show u.extract 0 (k - 1) = ⟨(l.take (k - 1)).toArray⟩ by rw [HU.out, exL, List.take_take, Nat.min_eq_left (by omega)]; rfl)
        have HZ' := Lib.hid (show ∀ j, k - 1 ≤ j → j < l.length → l[j]! = 0 from fun j h1 h2 => by
          by_cases e : j = k - 1
          · rw [e]; exact hz
          · exact HZ.out j (by omega) h2)
        have hb : ((u[k - 1].toNat : Int) == 0) = true := by rw [hget, hz]; rfl
        have hgt2 : (0 : Int) < (u.size : Int) := by omega
        have hlen : (l.take (k - 1)).length < u.size := by simp; omega
        clear hu hget hz h0 HU HZ
        go_wp2
        rw [HN.out]
        go_round
        case rel => exact ⟨k - 1, by omega, rfl, HZ'⟩
        case measure => exact hlen
      · have hb : ((u[k - 1].toNat : Int) == 0) = false := by
          rw [hget]
          have : (l[k - 1]!).toNat ≠ 0 := fun e => hz (UInt8.toNat_inj.1 (by simpa using e))
          simpa using this
        have hgt2 : (0 : Int) < (u.size : Int) := by omega
        have HF := Lib.hid (show RightZ l (.returned (.string u)) from ⟨k, hk, by rw [HU.out], HZ.out, fun _ => hz⟩)
        clear hu hget hz h0 HU HZ
        go_wp2
        go_ret
        exact ⟨HF.out, rfl⟩
def LeftZ (l : List UInt8) (e : Ending) : Prop := ∃ k, k ≤ l.length ∧ e = .returned (.string ⟨(l.drop k).toArray⟩) ∧ (∀ j, j < k → l[j]! = 0) ∧ (k < l.length → l[k]! ≠ 0)
set_option maxHeartbeats 1000000 in
theorem trimLeftZ (l : List UInt8) (w : World) (hl : l.length ≤ 1000000) : Calls Tryd.prog 179 #[.string ⟨l.toArray⟩, .int .u8 0] w fun e w' => LeftZ l e ∧ w = w' := by
  obtain ⟨s, hs⟩ : ∃ s : ByteArray, s = ⟨l.toArray⟩ := ⟨_, rfl⟩
  rw [← hs]
  have HS := Lib.hid hs
  clear hs
  go_enter Tryd.func179, Tryd.ntmps179
  go_wp2
  go_loop [0] (fun t => ∃ k : Nat, k ≤ l.length ∧ t = .string ⟨(l.drop k).toArray⟩ ∧ Hid (∀ j, j < k → l[j]! = 0)) (fun t => (match t with | .string u => u.size | _ => 0))
  case atStart => exact ⟨0, Nat.zero_le _, by rw [List.drop_zero, HS.out], Lib.hid (fun j h1 => by omega)⟩
  case round =>
    obtain ⟨k, hk, rfl, HZ⟩ := hrel
    obtain ⟨u, hu⟩ : ∃ u : ByteArray, u = ⟨(l.drop k).toArray⟩ := ⟨_, rfl⟩
    have husz : u.size = l.length - k := by rw [hu, szL]; simp
    rw [← hu]
    have HU := Lib.hid hu
    by_cases h0 : k = l.length
    · have hu0 : u.size = 0 := by omega
      have HF := Lib.hid (show LeftZ l (.returned (.string u)) from ⟨k, hk, by rw [HU.out], HZ.out, fun h => by omega⟩)
      clear hu husz h0
      go_wp2
      go_ret
      exact ⟨HF.out, rfl⟩
    · have hi : 0 < u.size := by omega
      have hget : u[0] = l[k]! := by
        have h1 := getL (l.drop k) 0 (by rw [szL]; simp; omega)
        subst hu
        rw [h1, getElem!_pos (l.drop k) 0 (by simp; omega), List.getElem_drop, getElem!_pos l k (by omega)]
        rfl
      by_cases hz : l[k]! = 0
      · have HN := Lib.hid (show u.extract 1 u.size = ⟨(l.drop (k + 1)).toArray⟩ by
          rw [husz, HU.out, exL, List.take_of_length_le (by simp), List.drop_drop])
        have HZ' := Lib.hid (show ∀ j, j < k + 1 → l[j]! = 0 from fun j h1 => by
          by_cases e : j = k
          · rw [e]; exact hz
          · exact HZ.out j (by omega))
        have hb : ((u[0].toNat : Int) == 0) = true := by rw [hget, hz]; rfl
        have hgt2 : (0 : Int) < (u.size : Int) := by omega
        have hgt1 : (1 : Int) ≤ (u.size : Int) := by omega
        have hlen : (l.drop (k + 1)).length < u.size := by rw [husz]; simp; omega
        have hkl : k + 1 ≤ l.length := by omega
        clear hu hget hz h0 HU HZ husz
        go_wp2
        rw [HN.out]
        go_round
        case rel => exact ⟨k + 1, hkl, rfl, HZ'⟩
        case measure => exact hlen
      · have hb : ((u[0].toNat : Int) == 0) = false := by
          rw [hget]
          have : (l[k]!).toNat ≠ 0 := fun e => hz (UInt8.toNat_inj.1 (by simpa using e))
          simpa using this
        have hgt2 : (0 : Int) < (u.size : Int) := by omega
        have HF := Lib.hid (show LeftZ l (.returned (.string u)) from ⟨k, hk, by rw [HU.out], HZ.out, fun _ => hz⟩)
        clear hu hget hz h0 HU HZ husz
        go_wp2
        go_ret
        exact ⟨HF.out, rfl⟩
/-- noughts alone? -/
def zeroB (l : List UInt8) : Bool := l.all (· == 0)
theorem zeroB_iff {l : List UInt8} : zeroB l = true ↔ l = List.replicate l.length 0 := by
  unfold zeroB
  rw [List.all_eq_true, List.eq_replicate_iff]
  simp
theorem zeroB_get {l : List UInt8} (h : ∀ j, j < l.length → l[j]! = 0) : zeroB l = true := by
  unfold zeroB
  rw [List.all_eq_true]
  intro x hx
  obtain ⟨j, hj, rfl⟩ := List.getElem_of_mem hx
  have := h j hj
  rw [getElem!_pos l j hj] at this
  rw [this]
  rfl
theorem zeroB_not {l : List UInt8} {j : Nat} (hj : j < l.length) (h : l[j]! ≠ 0) : zeroB l = false := by
  cases hz : zeroB l with
  | false => rfl
  | true =>
    unfold zeroB at hz
    rw [List.all_eq_true] at hz
    have := hz l[j] (List.getElem_mem hj)
    rw [getElem!_pos l j hj] at h
    exact absurd (by simpa using this) h
/-- what is left when the noughts are taken off -/
def trR (l : List UInt8) : List UInt8 := (l.reverse.dropWhile (· == 0)).reverse
def trL (l : List UInt8) : List UInt8 := l.dropWhile (· == 0)
theorem trL_at {l : List UInt8} {k : Nat} (hk : k ≤ l.length) (h1 : ∀ j, j < k → l[j]! = 0) (h2 : k < l.length → l[k]! ≠ 0) : trL l = l.drop k := by
  unfold trL
  induction k generalizing l with
  | zero =>
    cases l with
    | nil => rfl
    | cons c r =>
      have := h2 (by simp)
      rw [List.dropWhile_cons_of_neg (by simpa using this)]
      rfl
  | succ k ih =>
    cases l with
    | nil => simp at hk
    | cons c r =>
      have h0 := h1 0 (by omega)
      rw [List.dropWhile_cons_of_pos (by simpa using h0)]
      rw [ih (by simpa using hk) (fun j hj => by have := h1 (j + 1) (by omega); simpa using this) (fun h => by have := h2 (by simpa using h); simpa using this)]
      rfl
theorem trR_at {l : List UInt8} {k : Nat} (hk : k ≤ l.length) (h1 : ∀ j, k ≤ j → j < l.length → l[j]! = 0) (h2 : 0 < k → l[k - 1]! ≠ 0) : trR l = l.take k := by
  have hr : ∀ j, j < l.length → l.reverse[j]! = l[l.length - 1 - j]! := fun j hj => by
    rw [getElem!_pos l.reverse j (by simpa using hj), List.getElem_reverse, getElem!_pos l _ (by omega)]
  have := trL_at (l := l.reverse) (k := l.length - k) (by simp) (fun j hj => by rw [hr j (by omega)]; exact h1 _ (by omega) (by omega)) (fun h => by
    rw [List.length_reverse] at h
    rw [hr _ h, show l.length - 1 - (l.length - k) = k - 1 by omega]
    exact h2 (by omega))
  unfold trL at this
  unfold trR
  rw [this, List.drop_reverse, List.reverse_reverse]
  congr 1
  omega
theorem RightZ.is {l : List UInt8} {e : Ending} (h : RightZ l e) : e = .returned (.string ⟨(trR l).toArray⟩) := by
  obtain ⟨k, hk, he, h1, h2⟩ := h
  rw [trR_at hk h1 h2]
  exact he
theorem LeftZ.is {l : List UInt8} {e : Ending} (h : LeftZ l e) : e = .returned (.string ⟨(trL l).toArray⟩) := by
  obtain ⟨k, hk, he, h1, h2⟩ := h
  rw [trL_at hk h1 h2]
  exact he
theorem dropW_nil {l : List UInt8} : (l.dropWhile (· == 0)).isEmpty = zeroB l := by
  unfold zeroB
  induction l with
  | nil => rfl
  | cons c r ih =>
    cases hc : (c == 0) with
    | true => simp only [List.dropWhile_cons, List.all_cons, hc, if_true, Bool.true_and, ih]
    | false => simp only [List.dropWhile_cons, List.all_cons, hc, Bool.false_eq_true, if_false, Bool.false_and, List.isEmpty_cons]
theorem zeroB_rev (l : List UInt8) : zeroB l.reverse = zeroB l := by simp [zeroB]
theorem trR_len (l : List UInt8) : (trR l).length ≤ l.length := by
  unfold trR
  rw [List.length_reverse]
  have := (List.dropWhile_sublist (l := l.reverse) (fun x : UInt8 => x == 0)).length_le
  simpa using this
def trZ (l : List UInt8) : List UInt8 := trL (trR l)
theorem trZ_nil (l : List UInt8) : (trZ l).isEmpty = zeroB l := by
  unfold trZ trL
  rw [dropW_nil]
  cases hz : zeroB l with
  | true =>
    have : (l.reverse.dropWhile (· == 0)).isEmpty = true := by rw [dropW_nil, zeroB_rev, hz]
    have h0 : trR l = [] := by
      unfold trR
      rw [List.isEmpty_iff.1 this]
      rfl
    rw [h0]
    rfl
  | false =>
    unfold trR
    rw [zeroB_rev]
    cases hd : l.reverse.dropWhile (· == 0) with
    | nil =>
      have : (l.reverse.dropWhile (· == 0)).isEmpty = true := by rw [hd]; rfl
      rw [dropW_nil, zeroB_rev, hz] at this
      cases this
    | cons c r =>
      have hc := List.head_dropWhile_not (p := fun x : UInt8 => x == 0) (l := l.reverse) (by rw [hd]; simp)
      simp only [hd, List.head_cons] at hc
      unfold zeroB
      simp [hc]
set_option maxHeartbeats 1000000 in
theorem trimZ (l : List UInt8) (w : World) (hl : l.length ≤ 1000000) : Calls Tryd.prog 160 #[.string ⟨l.toArray⟩, .string ⟨#[0]⟩] w fun e w' => e = .returned (.string ⟨(trZ l).toArray⟩) ∧ ∃ q, w' = w.drewN q := by
  cases hl0 : l with
  | nil =>
    go_enter Tryd.func160, Tryd.ntmps160
    go_wp2
    go_ret
    exact ⟨rfl, 0, rfl⟩
  | cons c r =>
    rw [← hl0]
    have hne : ¬ l = [] := by rw [hl0]; simp
    have hne2 : l.isEmpty = false := by rw [hl0]; rfl
    have k1 : ∀ W, Calls Tryd.prog 180 #[.string ⟨l.toArray⟩, .int .u8 0] W fun e w' => e = .returned (.string ⟨(trR l).toArray⟩) ∧ w' = W := fun W => (trimRightZ l W hl).mono fun e w' ⟨h1, h2⟩ => ⟨h1.is, h2.symm⟩
    have k2 : ∀ W, Calls Tryd.prog 179 #[.string ⟨(trR l).toArray⟩, .int .u8 0] W fun e w' => e = .returned (.string ⟨(trZ l).toArray⟩) ∧ w' = W := fun W => (trimLeftZ (trR l) W (by have := trR_len l; omega)).mono fun e w' ⟨h1, h2⟩ => ⟨h1.is, h2.symm⟩
    have K1 := Lib.hid k1
    have K2 := Lib.hid k2
    have hd0 : decide ((({ data := #[0] } : ByteArray)[0].toNat : Int) < 128) = true := rfl
    clear k1 k2 hl0
    generalize trZ l = lz at K2 ⊢
    generalize trR l = lr at K1 K2
    go_enter Tryd.func160, Tryd.ntmps160
    go_wp2
    go_quiet ((first | (go_at_call 180; exact Calls.quiet_of_same (K1.out _)) | (go_at_call 179; exact Calls.quiet_of_same (K2.out _))))
    go_wp2
    go_ret
    exact ⟨rfl, _, rfl⟩
end Go.Proofs.YtbbcicengfmhiaaDoor

/- Plain laws of what a codec writes; String of a fresh writer. -/
import Derived.Test.YtpkmgdpnimecfabDoorCbk3
namespace Go.Proofs.YtpkmgdpnimecfabDoor
open Go.RowKit

theorem i64_and7 (n : Int) : bits .and .i64 n 7 = n % 8 := by
  have h7 : (BitVec.ofInt 64 7).toNat = 2 ^ 3 - 1 := by decide
  have key : (BitVec.ofInt 64 n &&& BitVec.ofInt 64 7).toNat = (n % ((2 ^ 64 : Nat) : Int)).toNat % 2 ^ 3 := by
    rw [BitVec.toNat_and, BitVec.toNat_ofInt, h7, Nat.and_two_pow_sub_one_eq_mod]
  show IntKind.i64.wrap ((BitVec.ofInt 64 n &&& BitVec.ofInt 64 7).toNat : Nat) = n % 8
  rw [key, IntKind.wrap_i64]
  omega
/-- what a call writes -/
def pc (o : OpV) : List UInt8 := if o.kind = 1 then numL o.n else if o.kind = 2 then textL o.s.data.toList else numL (o.lv % 8) ++ numL (o.set : Int)
def okO (o : OpV) : Prop := okI o.n ∧ o.set < 65536 ∧ o.s.size ≤ 300
def allT (xs : List OpV) (k : Nat) : List UInt8 := (xs.take k).flatMap pc
def restT (xs : List OpV) (k : Nat) : List UInt8 := (xs.drop k).flatMap pc
theorem okI_small {n : Int} (h0 : 0 ≤ n) (h1 : n ≤ 65535) : okI n := ⟨by omega, by omega⟩
theorem pc_len {o : OpV} (h : okO o) : (pc o).length ≤ 322 := by
  unfold pc
  split
  · have := numL_len h.1; omega
  · split
    · unfold textL
      have h2 : o.s.data.toList.length = o.s.size := by rw [Array.length_toList]; rfl
      have h3 := h.2.2
      have := numL_len (n := (o.s.data.toList.length : Int)) (okI_small (by omega) (by omega))
      rw [List.length_append]
      omega
    · have h2 := h.2.1
      have h3 := numL_len (n := o.lv % 8) (okI_small (by omega) (by omega))
      have h4 := numL_len (n := (o.set : Int)) (okI_small (by omega) (by omega))
      rw [List.length_append]
      omega
theorem pc_ne (o : OpV) : pc o ≠ [] := by
  unfold pc
  split
  · exact numL_ne _
  · split
    · unfold textL; simp [numL_ne]
    · simp [numL_ne]
theorem allT_succ {xs : List OpV} {k : Nat} (h : k < xs.length) : allT xs (k + 1) = allT xs k ++ pc xs[k]! := by
  unfold allT
  rw [List.take_succ_eq_append_getElem h, getElem!_pos xs k h, List.flatMap_append]
  simp only [List.flatMap_cons, List.flatMap_nil, List.append_nil]
theorem restT_succ {xs : List OpV} {k : Nat} (h : k < xs.length) : restT xs k = pc xs[k]! ++ restT xs (k + 1) := by
  unfold restT
  rw [List.drop_eq_getElem_cons h, getElem!_pos xs k h, List.flatMap_cons]
theorem allT_zero (xs : List OpV) : allT xs 0 = [] := by simp [allT]
theorem allT_rest (xs : List OpV) : allT xs xs.length = restT xs 0 := by simp [allT, restT]
theorem restT_end (xs : List OpV) : restT xs xs.length = [] := by simp [restT]
theorem allT_len {xs : List OpV} (hok : ∀ j, j < xs.length → okO xs[j]!) : ∀ k, k ≤ xs.length → (allT xs k).length ≤ k * 322 := by
  intro k
  induction k with
  | zero => intro _; simp [allT]
  | succ k ih =>
    intro hk
    have h1 := ih (by omega)
    have h2 := pc_len (hok k (by omega))
    rw [allT_succ (by omega), List.length_append]
    omega
theorem allT_ne {xs : List OpV} {k : Nat} (h : k ≤ xs.length) (h0 : k ≠ 0) : allT xs k ≠ [] := by
  obtain ⟨m, rfl⟩ : ∃ m, k = m + 1 := ⟨k - 1, by omega⟩
  rw [allT_succ (by omega)]
  simp [pc_ne]
theorem restT_len {xs : List OpV} (hok : ∀ j, j < xs.length → okO xs[j]!) : ∀ k, k ≤ xs.length → (restT xs k).length ≤ (xs.length - k) * 322 := by
  intro k
  have : ∀ m k, k + m = xs.length → (restT xs k).length ≤ m * 322 := by
    intro m
    induction m with
    | zero =>
      intro k hk
      have : k = xs.length := by omega
      subst this
      rw [restT_end]
      simp
    | succ m ih =>
      intro k hk
      have h1 := ih (k + 1) (by omega)
      have h2 := pc_len (hok k (by omega))
      rw [restT_succ (by omega), List.length_append]
      omega
  intro hk
  exact this (xs.length - k) k (by omega)
theorem rd_num {n lo hi : Int} (hn : okI n) (h1 : lo ≤ n) (h2 : n ≤ hi) (rest : List UInt8) : rdStep (numL n ++ rest) false lo hi = (n, rest, false) := by
  refine rdStep_some ?_
  have := rdInt_num (n := n) (lo := lo) (hi := hi) rest hn.1 hn.2
  rw [if_pos ⟨h1, h2⟩] at this
  unfold numL
  simpa using this
theorem rd_text {s : List UInt8} (hs : s.length ≤ 300) (rest : List UInt8) : rdText (textL s ++ rest) false 300 = (s, rest, false) := by
  have h := rd_num (n := (s.length : Int)) (lo := 0) (hi := 300) (okI_small (by omega) (by omega)) (by omega) (by omega) (s ++ rest)
  unfold rdText textL
  rw [List.append_assoc, h]
  simp only [Bool.false_eq_true, if_false]
  rw [if_neg (by simp; omega)]
  simp
theorem rd_label {a : Int} {x : Nat} (h0 : 0 ≤ a) (h1 : a ≤ 7) (hx : x < 65536) (rest : List UInt8) : rdLabel ((numL a ++ numL (x : Int)) ++ rest) false = ((a, x), rest, false) := by
  have e1 := rd_num (n := a) (lo := 0) (hi := 7) (okI_small (by omega) (by omega)) (by omega) (by omega) (numL (x : Int) ++ rest)
  have e2 := rd_num (n := (x : Int)) (lo := 0) (hi := 65535) (okI_small (by omega) (by omega)) (by omega) (by omega) rest
  rw [rdLabel_eq, List.append_assoc, e1]
  simp only
  rw [e2]
  rfl
set_option maxRecDepth 100000 in
set_option maxHeartbeats 2000000 in
theorem builderString0 (b : Nat) (w : World) (hbk : w.heap[b]? = some (.cells #[.pointer none, .slice none 0 0] 59 (0, 0))) :
    Calls Tryd.prog 85 #[.pointer (some ⟨b, 0, none⟩)] w fun e w' => e = .returned (.string ⟨#[]⟩) ∧ Below w.heap.size w w' := by
  have c1 : w.drew.cell? ⟨b, 1, none⟩ = some (.slice none 0 0) := by
    have : w.drew.heap[b]? = some (.cells #[.pointer none, .slice none 0 0] 59 (0, 0)) := hbk
    rw [Lib.cell_of_heap this]; rfl
  have hSD : ∀ ty, (Builtin.unsafeSliceData_ #[55] ty #[.slice none 0 0]).run Tryd.prog w.drew = .ok (.pointer none) w.drew := fun ty => Lib.run_unsafeSliceData_nil _ _ _ _ _
  have hUS : (Builtin.unsafeString_ #[157, 3] 9 #[.pointer none, .int .i64 0]).run Tryd.prog w.drew = .ok (.string ⟨#[]⟩) w.drew := Lib.run_unsafeString_none _ _ _ _ _
  go_enter Tryd.func85, Tryd.ntmps85
  go_wp2_with fail
  go_region
  all_goals (go_wp2; go_ret; exact ⟨rfl, Below.drew (Below.refl _ w)⟩)
set_option maxRecDepth 100000 in
theorem writerString0 (b : Nat) (w : World) (hbk : w.heap[b]? = some (.cells #[.pointer none, .slice none 0 0] 59 (0, 0))) :
    Calls Tryd.prog 40 #[.pointer (some ⟨b, 0, none⟩)] w fun e w' => e = .returned (.string ⟨#[]⟩) ∧ Below w.heap.size w w' := by
  go_enter Tryd.func40, Tryd.ntmps40
  go_wp2_with fail
  refine (builderString0 b w hbk).mono ?_
  rintro e w' ⟨rfl, hk⟩
  go_wp2
  go_ret
  exact ⟨rfl, hk⟩
end Go.Proofs.YtpkmgdpnimecfabDoor

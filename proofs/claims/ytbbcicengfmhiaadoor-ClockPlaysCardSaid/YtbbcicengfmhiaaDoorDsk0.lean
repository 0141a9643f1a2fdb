/- Disks, plain: sectors in a row, a cache, what a failure of power keeps. No program here. -/
import Derived.Test.YtbbcicengfmhiaaDoorBlk
import Derived.Test.YtbbcicengfmhiaaDoorSec0
import Derived.Laws.MakeOwn
namespace Go.Proofs.YtbbcicengfmhiaaDoor
open Go.RowKit

abbrev Wr := Nat × List UInt8
def encW (x : Wr) : List Value := .int .i64 (x.1 : Int) :: bcs x.2
/-- sectors of 64 bytes -/
def AllS (K : List (List UInt8)) : Prop := ∀ i, i < K.length → (K[i]!).length = 64
theorem AllS.set {K : List (List UInt8)} (h : AllS K) {p : Nat} {x : List UInt8} (hx : x.length = 64) : AllS (K.set p x) := by
  intro i hi
  rw [List.length_set] at hi
  by_cases e : p = i
  · subst e
    rw [getElem!_pos _ p (by simpa using hi), List.getElem_set_self]
    exact hx
  · rw [getElem!_pos _ i (by simpa using hi), List.getElem_set_ne e]
    have := h i hi
    rwa [getElem!_pos K i hi] at this
theorem AllS.cons {a : List UInt8} {K : List (List UInt8)} : AllS (a :: K) ↔ a.length = 64 ∧ AllS K := by
  constructor
  · intro h
    refine ⟨by have := h 0 (by simp); simpa using this, fun i hi => by have := h (i + 1) (by simpa using hi); simpa using this⟩
  · rintro ⟨h1, h2⟩ i hi
    cases i with
    | zero => simpa using h1
    | succ i => have := h2 i (by simpa using hi); simpa using this
theorem flatS_len {K : List (List UInt8)} (h : AllS K) : K.flatten.length = K.length * 64 := by
  induction K with
  | nil => rfl
  | cons a K ih =>
    obtain ⟨h1, h2⟩ := AllS.cons.1 h
    rw [List.flatten_cons, List.length_append, ih h2, h1, List.length_cons]
    omega
theorem flatS_at {K : List (List UInt8)} (h : AllS K) : ∀ p, p < K.length → ∃ A R, K.flatten = A ++ (K[p]! ++ R) ∧ A.length = p * 64 ∧ ∀ x : List UInt8, (K.set p x).flatten = A ++ (x ++ R) := by
  induction K with
  | nil => intro p hp; simp at hp
  | cons a K ih =>
    obtain ⟨h1, h2⟩ := AllS.cons.1 h
    intro p hp
    cases p with
    | zero => exact ⟨[], K.flatten, by simp, rfl, fun x => by simp⟩
    | succ p =>
      obtain ⟨A, R, e1, e2, e3⟩ := ih h2 p (by simpa using hp)
      refine ⟨a ++ A, R, ?_, by rw [List.length_append, h1, e2]; omega, fun x => ?_⟩
      · rw [List.flatten_cons, e1]
        simp
      · rw [List.set_cons_succ, List.flatten_cons, e3]
        simp
theorem flatS_get {K : List (List UInt8)} (h : AllS K) {p : Nat} (hp : p < K.length) {j : Nat} (hj : j < (K[p]!).length) : K.flatten[p * 64 + j]? = (K[p]!)[j]? := by
  obtain ⟨A, R, e1, e2, _⟩ := flatS_at h p hp
  rw [e1, List.getElem?_append_right (by omega), e2, Nat.add_sub_cancel_left, List.getElem?_append_left hj]
/-- the first bytes of a sector written over -/
theorem flatS_put {K : List (List UInt8)} (h : AllS K) {p : Nat} (hp : p < K.length) {c : List UInt8} (hc : c.length ≤ 64) : splice K.flatten (p * 64) c = (K.set p (c ++ (K[p]!).drop c.length)).flatten := by
  obtain ⟨A, R, e1, e2, e3⟩ := flatS_at h p hp
  rw [e3, e1]
  unfold splice
  rw [← e2, List.take_left, List.drop_length_add_append, List.drop_append_of_le_length (by rw [h p hp]; exact hc), List.append_assoc]
/-- how much of a write is kept -/
def fateN (bits i : Nat) : Nat :=
  if bits / 2 ^ (3 * (i % 21)) % 8 % 2 = 0 then 0 else if bits / 2 ^ (3 * (i % 21)) % 8 = 1 then 64 else 16 * (bits / 2 ^ (3 * (i % 21)) % 8 / 2)
theorem fateN_cases (bits i : Nat) : fateN bits i = 64 ∨ fateN bits i ≤ 48 := by
  unfold fateN
  split
  · right; omega
  · split
    · left; rfl
    · right; omega
theorem fateN_le (bits i : Nat) : fateN bits i ≤ 64 := by rcases fateN_cases bits i with h | h <;> omega
/-- one write that failed, the i-th -/
def crash1 (bits : Nat) (K : List (List UInt8)) (x : Wr) (i : Nat) : List (List UInt8) := K.set x.1 (x.2.take (fateN bits i) ++ (K[x.1]!).drop (fateN bits i))
def crashN (bits : Nat) (K : List (List UInt8)) (C : List Wr) : Nat → List (List UInt8)
  | 0 => K
  | i + 1 => crash1 bits (crashN bits K C i) C[i]! i
def flushN (K : List (List UInt8)) (C : List Wr) : Nat → List (List UInt8)
  | 0 => K
  | i + 1 => (flushN K C i).set (C[i]!).1 (C[i]!).2
/-- writes that may be -/
def OkW (n : Nat) (C : List Wr) : Prop := ∀ i, i < C.length → (C[i]!).1 < n ∧ (C[i]!).2.length = 64
theorem crash1_all {bits : Nat} {K : List (List UInt8)} {x : Wr} {i : Nat} (h : AllS K) (h1 : x.1 < K.length) (h2 : x.2.length = 64) : AllS (crash1 bits K x i) := by
  refine h.set ?_
  have h3 := h x.1 h1
  have h4 := fateN_le bits i
  simp only [List.length_append, List.length_take, List.length_drop]
  omega
theorem crash1_len (bits : Nat) (K : List (List UInt8)) (x : Wr) (i : Nat) : (crash1 bits K x i).length = K.length := by simp [crash1]
theorem crashN_len (bits : Nat) (K : List (List UInt8)) (C : List Wr) (i : Nat) : (crashN bits K C i).length = K.length := by
  induction i with
  | zero => rfl
  | succ i ih => rw [crashN, crash1_len, ih]
theorem crashN_all {bits : Nat} {K : List (List UInt8)} {C : List Wr} (h : AllS K) (hC : OkW K.length C) : ∀ i, i ≤ C.length → AllS (crashN bits K C i) := by
  intro i
  induction i with
  | zero => intro _; exact h
  | succ i ih =>
    intro hi
    have h1 := hC i (by omega)
    exact crash1_all (ih (by omega)) (by rw [crashN_len]; exact h1.1) h1.2
theorem flushN_len (K : List (List UInt8)) (C : List Wr) (i : Nat) : (flushN K C i).length = K.length := by
  induction i with
  | zero => rfl
  | succ i ih => rw [flushN, List.length_set, ih]
theorem flushN_all {K : List (List UInt8)} {C : List Wr} (h : AllS K) (hC : OkW K.length C) : ∀ i, i ≤ C.length → AllS (flushN K C i) := by
  intro i
  induction i with
  | zero => intro _; exact h
  | succ i ih =>
    intro hi
    exact (ih (by omega)).set (hC i (by omega)).2
/-- a sector as it was written last -/
def lastW (C : List Wr) (at' : Nat) : Nat → List UInt8 → List UInt8
  | 0, s => s
  | i + 1, s => if (C[i]!).1 = at' then (C[i]!).2 else lastW C at' i s

/-- a disk lies there: its box at b, its sectors' row at g -/
def DkAt (b g : Nat) (K : List (List UInt8)) (cv : Value) (C : List Wr) (off : Bool) (armed : Int) (bits : Nat) (writes : Int) (w : World) : Prop :=
  (g < b ∧ AllS K ∧ OkW K.length C) ∧ BlkIs w b [.slice (some ⟨g, 0, none⟩) K.length K.length, cv, .bool off, .int .i64 armed, .int .u64 (bits : Int), .int .i64 writes] 154 ∧ BlkIs w g (bcs K.flatten) 163 ∧ w.ownsRow (b + 1) 165 65 cv C.length (C.flatMap encW)
theorem DkAt.below {b g : Nat} {K : List (List UInt8)} {cv : Value} {C : List Wr} {off : Bool} {armed : Int} {bits : Nat} {writes : Int} {w w' : World} (h : DkAt b g K cv C off armed bits writes w) (hb : Below w.heap.size w w') : DkAt b g K cv C off armed bits writes w' :=
  ⟨h.1, h.2.1.below hb, h.2.2.1.below hb, owns_below h.2.2.2 hb⟩
end Go.Proofs.YtbbcicengfmhiaaDoor

/- Encodings that many texts share. No program here. A pipeline, and when it may be one: plain. No program here. -/
import Derived.Test.YtefnkoofgpmmmaaGreatDoorSl
namespace Go.Proofs.YtefnkoofgpmmmaaGreatDoor
def encI (n : Int) : List Value := [.int .i64 n]
def okI (n : Int) : Prop := -9223372036854775808 ≤ n ∧ n ≤ 9223372036854775807
def encL (l : Int × Nat) : List Value := [.int .i64 l.1, .int .u16 (l.2 : Int)]
def encP (p : Int × Int × Nat) : List Value := [.int .i64 p.1, .int .i64 p.2.1, .int .u16 (p.2.2 : Int)]
theorem cell_lt {w : World} {b o : Nat} {v : Value} (h : w.cell? ⟨b, o, none⟩ = some v) : b < w.heap.size := by
  unfold World.cell? at h
  cases hh : w.heap[b]? with
  | none => simp [hh] at h
  | some x => exact (Array.getElem?_eq_some_iff.1 hh).1
theorem cells_of {w : World} {b o : Nat} {v : Value} (h : w.cell? ⟨b, o, none⟩ = some v) : ∃ c t z, w.heap[b]? = some (.cells c t z) := by
  unfold World.cell? at h
  cases hh : w.heap[b]? with
  | none => simp [hh] at h
  | some x =>
    cases x with
    | cells c t z => exact ⟨_, _, _, rfl⟩
    | _ => simp [hh] at h
/-- what turns no block of cells -/
def KeepC (w w' : World) : Prop := w.heap.size ≤ w'.heap.size ∧ ∀ (q : Nat) (c : Array Value) (t : TypeId) (z : Nat × Nat), w.heap[q]? = some (Obj.cells c t z) → w'.heap[q]? = w.heap[q]?
theorem KeepC.cell {w w' : World} (h : KeepC w w') {b o : Nat} {v : Value} (hc : w.cell? ⟨b, o, none⟩ = some v) : w'.cell? ⟨b, o, none⟩ = some v := by
  obtain ⟨c, t, z, hb⟩ := cells_of hc
  exact (World.cell?_of_block (h.2 _ _ _ _ hb)).trans hc
theorem SlAt.keepC {α : Type} [Inhabited α] {k : Nat} {enc : α → List Value} {w w' : World} {v : Value} {xs : List α} (h : SlAt k enc w v xs) (hk : KeepC w w') : SlAt k enc w' v xs := by
  obtain ⟨p, c, hv, hn, hc⟩ := h
  refine ⟨p, c, hv, hn, fun hl => ?_⟩
  obtain ⟨b, off, hp, hlt, hcell⟩ := hc hl
  exact ⟨b, off, hp, Nat.lt_of_lt_of_le hlt hk.1, fun j hj i u hu => hk.cell (hcell j hj i u hu)⟩
theorem KeepC.map {w w' : World} {bm : Nat} {es : Array MapEntry} {ck : Nat} (hm : w.heap[bm]? = some (.map es ck)) (hg : w.grownBy w' (some bm)) : KeepC w w' := by
  refine ⟨hg.size, fun q c t z hq => hg.block q (Array.getElem?_eq_some_iff.1 hq).1 (fun e => ?_)⟩
  cases e
  rw [hm] at hq
  cases hq
abbrev Lbl := Int × Nat
abbrev Psn := Int × Int × Nat
end Go.Proofs.YtefnkoofgpmmmaaGreatDoor

namespace Go.Proofs.YtefnkoofgpmmmaaGreatDoor
open Go.RowKit

structure TaskV where
  nm : ByteArray
  sl : Value
  after : List Int
  retry : Int
  time : Int
  need : Int
  lv : Int
  set : Nat
instance : Inhabited TaskV := ⟨⟨⟨#[]⟩, .slice none 0 0, [], 0, 0, 0, 0, 0⟩⟩
def encT (t : TaskV) : List Value := [.string t.nm, t.sl, .int .i64 t.retry, .int .i64 t.time, .int .i64 t.need, .int .i64 t.lv, .int .u16 (t.set : Int)]
theorem encT_len (t : TaskV) : (encT t).length = 7 := rfl
/-- the slice value v holds the tasks -/
def TasksAt (w : World) (v : Value) (ts : List TaskV) : Prop := SlAt 7 encT w v ts ∧ ∀ j, j < ts.length → SlAt 1 encI w ts[j]!.sl ts[j]!.after
theorem TasksAt.below {w w' : World} {v : Value} {ts : List TaskV} (h : TasksAt w v ts) (hb : Below w.heap.size w w') : TasksAt w' v ts :=
  ⟨h.1.below hb, fun j hj => (h.2 j hj).below hb⟩
theorem TasksAt.keepC {w w' : World} {v : Value} {ts : List TaskV} (h : TasksAt w v ts) (hk : KeepC w w') : TasksAt w' v ts := ⟨h.1.keepC hk, fun j hj => (h.2 j hj).keepC hk⟩
def TaskV.ok (t : TaskV) : Prop := t.set < 65536 ∧ t.nm.size ≤ maxLen ∧ t.after.length ≤ maxLen ∧ ∀ k, k < t.after.length → -9223372036854775808 ≤ t.after[k]! ∧ t.after[k]! ≤ 9223372036854775807
def okTs (ts : List TaskV) : Prop := ts.length ≤ maxLen ∧ ∀ j, j < ts.length → ts[j]!.ok

def lowB (c : UInt8) : Bool := decide (97 ≤ c.toNat) && decide (c.toNat ≤ 122)
def nameB (s : ByteArray) : Bool := s.data.toList.all lowB && (!s.data.toList.isEmpty && decide (s.size ≤ 8))
def withinB (n lo hi : Int) : Bool := decide (lo ≤ n) && decide (n ≤ hi)
/-- the first k of a task's are right -/
def afterB (n : Int) (l : List Int) (k : Nat) : Bool := (List.range k).all fun j => withinB l[j]! 0 (n - 1) && !((l.take j).any fun y => l[j]! == y)
theorem afterB_succ (n : Int) (l : List Int) (k : Nat) : afterB n l (k + 1) = (afterB n l k && (withinB l[k]! 0 (n - 1) && !((l.take k).any fun y => l[k]! == y))) := by
  unfold afterB
  rw [List.range_succ, List.all_append]
  simp
theorem afterB_no {n : Int} {l : List Int} {k : Nat} (hk : k < l.length) (h : (withinB l[k]! 0 (n - 1) && !((l.take k).any fun y => l[k]! == y)) = false) : afterB n l l.length = false := by
  unfold afterB
  rw [List.all_eq_false]
  exact ⟨k, by simpa using hk, by simp only [h]; decide⟩
def restB (nm : ByteArray) (retry time need lv : Int) (set : Nat) : Bool :=
  (nameB nm && (withinB time 1 100 && (withinB need 0 4 && withinB retry 0 5))) && (if 0 < need then retry == 0 && (decide (0 ≤ lv) && decide (lv ≤ 7)) else lv == 0 && set == 0)
def taskB (n : Int) (t : TaskV) : Bool := afterB n t.after t.after.length && restB t.nm t.retry t.time t.need t.lv t.set
/-- no one of the first k has another one's name -/
def newB (ts : List TaskV) (k : Nat) : Bool := !((ts.take k).any fun u => u.nm.data.toList == ts[k]!.nm.data.toList)
def tasksB (ts : List TaskV) (k : Nat) : Bool := (List.range k).all fun j => taskB ts.length ts[j]! && newB ts j
theorem tasksB_succ (ts : List TaskV) (k : Nat) : tasksB ts (k + 1) = (tasksB ts k && (taskB ts.length ts[k]! && newB ts k)) := by
  unfold tasksB
  rw [List.range_succ, List.all_append]
  simp
theorem tasksB_no {ts : List TaskV} {k : Nat} (hk : k < ts.length) (h : (taskB ts.length ts[k]! && newB ts k) = false) : tasksB ts ts.length = false := by
  unfold tasksB
  rw [List.all_eq_false]
  exact ⟨k, by simpa using hk, by simp only [h]; decide⟩
def pipeB (nm : ByteArray) (ts : List TaskV) : Bool := (nameB nm && (decide (1 ≤ ts.length) && decide (ts.length ≤ 8))) && tasksB ts ts.length
theorem pipeB_task {nm : ByteArray} {ts : List TaskV} (h : pipeB nm ts = true) {j : Nat} (hj : j < ts.length) : taskB ts.length ts[j]! = true := by
  unfold pipeB tasksB at h
  simp only [Bool.and_eq_true, List.all_eq_true] at h
  exact (h.2 j (by simpa using hj)).1
theorem pipeB_len {nm : ByteArray} {ts : List TaskV} (h : pipeB nm ts = true) : 1 ≤ ts.length ∧ ts.length ≤ 8 := by
  unfold pipeB at h
  simp only [Bool.and_eq_true, decide_eq_true_eq] at h
  exact h.1.2
theorem afterB_in {n : Int} {l : List Int} (h : afterB n l l.length = true) {j : Nat} (hj : j < l.length) : 0 ≤ l[j]! ∧ l[j]! < n := by
  unfold afterB at h
  rw [List.all_eq_true] at h
  have := h j (by simpa using hj)
  simp only [withinB, Bool.and_eq_true, decide_eq_true_eq] at this
  have := this.1
  omega
theorem pipeB_after {nm : ByteArray} {ts : List TaskV} (h : pipeB nm ts = true) {j k : Nat} (hj : j < ts.length) (hk : k < ts[j]!.after.length) : 0 ≤ ts[j]!.after[k]! ∧ ts[j]!.after[k]! < ts.length := by
  have := pipeB_task h hj
  unfold taskB at this
  rw [Bool.and_eq_true] at this
  exact afterB_in this.1 hk
end Go.Proofs.YtefnkoofgpmmmaaGreatDoor

/- The lines of a text, and where it is wrong. No program here. The names of a word: its pieces between commas. No program here. -/
import Derived.Test.YtefnkoofgpmmmaaGreatDoorSqM
import Derived.Test.YtefnkoofgpmmmaaGreatDoorLxB
import Derived.Test.YtefnkoofgpmmmaaGreatDoorN1
namespace Go.Proofs.YtefnkoofgpmmmaaGreatDoor
set_option maxRecDepth 100000
/-- the words among the pieces of a line that begins at a -/
def wds : Int → List ByteArray → List WordV
  | _, [] => []
  | a, p :: ps => (if p.size = 0 then [] else [(p, a)]) ++ wds (a + p.size + 1) ps
def wordsL (a : Int) (s : ByteArray) : List WordV := wds a (pcsB 32 s)
theorem wordsL_none {a : Int} {s : ByteArray} (h : Lib.indexByte s.data.toList 32 < 0) (h0 : s.size ≠ 0) : wordsL a s = [(s, a)] := by
  unfold wordsL
  rw [pcsB_none h]
  simp [wds, h0]
theorem wordsL_nil {a : Int} {s : ByteArray} (h : s.size = 0) : wordsL a s = [] := by
  have h1 : s.data.toList = [] := by
    have : s.data.toList.length = 0 := by simpa using h
    exact List.eq_nil_of_length_eq_zero this
  unfold wordsL pcsB
  rw [h1]
  simp [pcs, wds, ByteArray.size]
theorem wordsL_some {a : Int} {s : ByteArray} {i : Nat} (h : Lib.indexByte s.data.toList 32 = i) : i < s.size ∧ wordsL a s = (if (s.extract 0 i).size = 0 then [] else [(s.extract 0 i, a)]) ++ wordsL (a + i + 1) (s.extract (i + 1) s.size) := by
  obtain ⟨h1, h2⟩ := pcsB_some h
  refine ⟨h1, ?_⟩
  unfold wordsL
  rw [h2]
  have e : (s.extract 0 i).size = i := by rw [ByteArray.size_extract]; omega
  rw [wds, e]
theorem wrap_small {a : Int} (h : -1000000000 ≤ a ∧ a ≤ 1000000000) : Go.RowKit.wrap64 a = a := by unfold Go.RowKit.wrap64; omega
theorem le601 {n : Nat} (h : n ≤ 601) : n ≤ Go.maxLen ∧ n * 24 ≤ 140737488355328 := by unfold Go.maxLen; omega
/-- how many bytes lie behind some pieces -/
def lenP (ps : List ByteArray) : Nat := (ps.map (fun p => p.size + 1)).sum
theorem lenP_snoc (ps : List ByteArray) (p : ByteArray) : lenP (ps ++ [p]) = lenP ps + p.size + 1 := by
  simp [lenP]
  omega
theorem lenP_app (ps qs : List ByteArray) : lenP (ps ++ qs) = lenP ps + lenP qs := by simp [lenP]
theorem lenP_le (ps : List ByteArray) : ps.length ≤ lenP ps := by
  induction ps with
  | nil => simp
  | cons p ps ih => simp only [lenP, List.map_cons, List.sum_cons, List.length_cons] at ih ⊢; omega
theorem lenP_pcs (c : UInt8) (s : ByteArray) : lenP (pcsB c s) = s.size + 1 := by
  have h := (pcs_len c s.data.toList).2
  have h2 : s.data.toList.length = s.size := by simp
  rw [h2] at h
  unfold lenP pcsB
  rw [← h]
  generalize pcs c s.data.toList = L
  induction L with
  | nil => rfl
  | cons l L ih => simp only [List.map_cons, List.sum_cons, List.length_cons, ByteArray.size, List.size_toArray] at ih ⊢; omega
/-- the lines that have words -/
def lnsL : Int → List ByteArray → List (List WordV)
  | _, [] => []
  | a, l :: ls => (if wordsL a l = [] then [] else [wordsL a l]) ++ lnsL (a + l.size + 1) ls
theorem lnsL_snoc (x : ByteArray) : ∀ (a : Int) (ps : List ByteArray), lnsL a (ps ++ [x]) = lnsL a ps ++ (if wordsL (a + lenP ps) x = [] then [] else [wordsL (a + lenP ps) x])
  | a, [] => by simp [lnsL, lenP]
  | a, p :: ps => by
    rw [List.cons_append, lnsL, lnsL_snoc x _ ps, lnsL, List.append_assoc]
    have : a + p.size + 1 + (lenP ps : Int) = a + (lenP (p :: ps) : Int) := by simp [lenP]; omega
    rw [this]
theorem lnsL_len : ∀ (a : Int) (ps : List ByteArray), (lnsL a ps).length ≤ ps.length
  | _, [] => by simp [lnsL]
  | a, p :: ps => by
    have := lnsL_len (a + p.size + 1) ps
    rw [lnsL, List.length_append, List.length_cons]
    split
    · simp; omega
    · simp; omega
/-- a byte that may not stand in a text -/
def badC (c : UInt8) : Bool := !decide (c = 10) && (decide (c.toNat < 32) || decide (126 < c.toNat))
def badIx (s : ByteArray) : Option Nat := s.data.toList.findIdx? badC
theorem badIx_some {s : ByteArray} {k : Nat} (hk : k < s.size) (h : badC s[k] = true) (hall : ∀ j (hj : j < s.size), j < k → badC s[j] = false) : badIx s = some k := by
  unfold badIx
  rw [List.findIdx?_eq_some_iff_getElem]
  refine ⟨by simpa using hk, h, fun j hj => ?_⟩
  have := hall j (by omega) hj
  show ¬ (badC s[j] = true)
  rw [this]
  simp
theorem badIx_none {s : ByteArray} (hall : ∀ j (hj : j < s.size), badC s[j] = false) : badIx s = none := by
  unfold badIx
  rw [List.findIdx?_eq_none_iff]
  intro x hx
  obtain ⟨j, hj, rfl⟩ := List.getElem_of_mem hx
  exact hall j (by simpa using hj)
/-- what is wrong with a text -/
def lexErr (s : ByteArray) : Option (Int × Int) := if 600 < s.size then some (600, 16) else match badIx s with
  | some i => some ((i : Int), 3)
  | none => none
def lexLn (s : ByteArray) : List (List WordV) := if lexErr s = none then lnsL 0 (pcsB 10 s) else []
theorem lexErr_long {s : ByteArray} (h : 600 < s.size) : lexErr s = some (600, 16) ∧ lexLn s = [] := by
  have h1 : lexErr s = some (600, 16) := by unfold lexErr; rw [if_pos h]
  exact ⟨h1, by unfold lexLn; rw [h1]; simp⟩
theorem lexErr_bad {s : ByteArray} (h : s.size ≤ 600) {k : Nat} (hk : badIx s = some k) : lexErr s = some ((k : Int), 3) ∧ lexLn s = [] := by
  have h1 : lexErr s = some ((k : Int), 3) := by unfold lexErr; rw [if_neg (by omega), hk]
  exact ⟨h1, by unfold lexLn; rw [h1]; simp⟩
theorem lexErr_fine {s : ByteArray} (h : s.size ≤ 600) (hk : badIx s = none) : lexErr s = none ∧ lexLn s = lnsL 0 (pcsB 10 s) := by
  have h1 : lexErr s = none := by unfold lexErr; rw [if_neg (by omega), hk]
  exact ⟨h1, by unfold lexLn; rw [h1]; simp⟩
end Go.Proofs.YtefnkoofgpmmmaaGreatDoor

namespace Go.Proofs.YtefnkoofgpmmmaaGreatDoor
set_option maxRecDepth 100000
/-- where the first piece lies that is no name -/
def nmsErr : Int → List ByteArray → Option Int
  | _, [] => none
  | a, p :: ps => if nameB p = true then nmsErr (a + p.size + 1) ps else some a
def nmsL : Int → List ByteArray → List WordV
  | _, [] => []
  | a, p :: ps => (p, a) :: nmsL (a + p.size + 1) ps
theorem nmsL_len : ∀ (a : Int) (ps : List ByteArray), (nmsL a ps).length = ps.length
  | _, [] => rfl
  | a, p :: ps => by rw [nmsL, List.length_cons, nmsL_len, List.length_cons]
theorem nms_step (a : Int) (p : ByteArray) (ps : List ByteArray) : a + p.size + 1 + (lenP ps : Int) = a + (lenP (p :: ps) : Int) := by simp [lenP]; omega
theorem nmsL_snoc (x : ByteArray) : ∀ (a : Int) (ps : List ByteArray), nmsL a (ps ++ [x]) = nmsL a ps ++ [(x, a + lenP ps)]
  | a, [] => by simp [nmsL, lenP]
  | a, p :: ps => by rw [List.cons_append, nmsL, nmsL_snoc x _ ps, nms_step, nmsL, List.cons_append]
theorem nmsErr_snoc (x : ByteArray) : ∀ (a : Int) (ps : List ByteArray), nmsErr a ps = none → nmsErr a (ps ++ [x]) = if nameB x = true then none else some (a + lenP ps)
  | a, [], _ => by simp [nmsErr, lenP]
  | a, p :: ps, h => by
    rw [nmsErr] at h
    split at h
    · rename_i hp
      rw [List.cons_append, nmsErr, if_pos hp, nmsErr_snoc x _ ps h, nms_step]
    · cases h
theorem nmsErr_app (qs : List ByteArray) : ∀ (a : Int) (ps : List ByteArray) (i : Int), nmsErr a ps = some i → nmsErr a (ps ++ qs) = some i
  | a, [], i, h => by cases h
  | a, p :: ps, i, h => by
    rw [nmsErr] at h
    rw [List.cons_append, nmsErr]
    split at h
    · rename_i hp
      rw [if_pos hp]
      exact nmsErr_app qs _ ps i h
    · rename_i hp
      rw [if_neg hp]
      exact h
/-- what is wrong with a word of names -/
def namesErr (a : Int) (s : ByteArray) : Option (Int × Int) := (nmsErr a (pcsB 44 s)).map (fun i => (i, 15))
def namesL (a : Int) (s : ByteArray) : List WordV := if nmsErr a (pcsB 44 s) = none then nmsL a (pcsB 44 s) else []
end Go.Proofs.YtefnkoofgpmmmaaGreatDoor

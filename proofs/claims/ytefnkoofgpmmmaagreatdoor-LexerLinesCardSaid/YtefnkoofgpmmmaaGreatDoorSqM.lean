/- A text in pieces at a byte. No program here. -/
import Derived.Lib.Bytealg
import Derived.Lib.IndexLaws
namespace Go.Proofs.YtefnkoofgpmmmaaGreatDoor
open Go

/-- the pieces of a text between the bytes c -/
def pcs (c : UInt8) : List UInt8 → List (List UInt8)
  | [] => [[]]
  | b :: l => if b = c then [] :: pcs c l else match pcs c l with
    | [] => [[b]]
    | p :: ps => (b :: p) :: ps
theorem pcs_none (c : UInt8) : ∀ l : List UInt8, c ∉ l → pcs c l = [l]
  | [], _ => rfl
  | b :: l, h => by
    have h1 : b ≠ c := fun e => h (by rw [e]; exact List.mem_cons_self)
    have h2 : c ∉ l := fun e => h (List.mem_cons_of_mem _ e)
    rw [pcs, if_neg h1, pcs_none c l h2]
theorem pcs_some (c : UInt8) : ∀ (a l : List UInt8), c ∉ a → pcs c (a ++ c :: l) = a :: pcs c l
  | [], l, _ => by simp [pcs]
  | b :: a, l, h => by
    have h1 : b ≠ c := fun e => h (by rw [e]; exact List.mem_cons_self)
    have h2 : c ∉ a := fun e => h (List.mem_cons_of_mem _ e)
    rw [List.cons_append, pcs, if_neg h1, pcs_some c a l h2]
def pcsB (c : UInt8) (r : ByteArray) : List ByteArray := (pcs c r.data.toList).map (fun l => ⟨l.toArray⟩)
theorem pcsB_none {c : UInt8} {r : ByteArray} (h : Lib.indexByte r.data.toList c < 0) : pcsB c r = [r] := by
  have h1 := Lib.indexByte_ge r.data.toList c
  have h2 : Lib.indexByte r.data.toList c = -1 := by omega
  have h3 : c ∉ r.data.toList := fun hm => by
    obtain ⟨k, hk, e⟩ := List.getElem_of_mem hm
    exact Lib.indexByte_none h2 k (by rw [List.getElem?_eq_getElem hk, e])
  unfold pcsB
  rw [pcs_none c _ h3]
  rfl
theorem pcsB_some {c : UInt8} {r : ByteArray} {i : Nat} (h : Lib.indexByte r.data.toList c = i) : i < r.size ∧ pcsB c r = r.extract 0 i :: pcsB c (r.extract (i + 1) r.size) := by
  obtain ⟨h1, h2⟩ := Lib.indexByte_some h
  obtain ⟨hlt, he⟩ := List.getElem?_eq_some_iff.1 h1
  have hs : r.data.toList.length = r.size := by simp
  refine ⟨by omega, ?_⟩
  have h3 : c ∉ r.data.toList.take i := fun hm => by
    obtain ⟨k, hk, e⟩ := List.getElem_of_mem hm
    have hk' : k < i := by have := hk; rw [List.length_take] at this; omega
    exact h2 k hk' (by rw [List.getElem?_eq_getElem (by omega), ← e, List.getElem_take])
  have hspl : r.data.toList = r.data.toList.take i ++ c :: r.data.toList.drop (i + 1) := by
    rw [← he]
    exact (List.take_append_drop i _).symm.trans (by rw [List.drop_eq_getElem_cons hlt])
  have e1 : (r.extract (i + 1) r.size).data.toList = r.data.toList.drop (i + 1) := by
    simp only [ByteArray.data_extract, Array.toList_extract, List.extract_eq_take_drop]
    exact List.take_of_length_le (by simp)
  have e2 : r.extract 0 i = ⟨(r.data.toList.take i).toArray⟩ := by
    rw [ByteArray.ext_iff]
    simp only [ByteArray.data_extract]
    apply Array.toList_inj.1
    simp only [Array.toList_extract, List.extract_eq_take_drop, List.drop_zero, Nat.sub_zero]
  unfold pcsB
  rw [e1, e2]
  conv => lhs; rw [hspl, pcs_some c _ _ h3]
  rfl
/-- the pieces, and one byte between two of them, are the text -/
theorem pcs_len (c : UInt8) : ∀ l : List UInt8, pcs c l ≠ [] ∧ ((pcs c l).map List.length).sum + (pcs c l).length = l.length + 1
  | [] => by simp [pcs]
  | b :: l => by
    obtain ⟨h1, h2⟩ := pcs_len c l
    unfold pcs
    split
    · refine ⟨by simp, ?_⟩
      simp only [List.map_cons, List.sum_cons, List.length_nil, List.length_cons]
      omega
    · split
      · rename_i e; exact absurd e h1
      · rename_i e
        rw [e] at h2
        refine ⟨by simp, ?_⟩
        simp only [List.map_cons, List.sum_cons, List.length_cons] at h2 ⊢
        omega
end Go.Proofs.YtefnkoofgpmmmaaGreatDoor

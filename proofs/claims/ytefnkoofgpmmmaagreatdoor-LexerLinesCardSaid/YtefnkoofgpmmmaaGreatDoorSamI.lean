/- Two lists of ints held against each other; a slice out of its cells. No condition. -/
import Derived.Test.YtefnkoofgpmmmaaGreatDoorRows
import Derived.Test.YtefnkoofgpmmmaaGreatDoorN1
import Derived.OwnWalk
import Derived.Lib.Walk
import Derived.Deep.QuietTactic
import Derived.BigQuiet
namespace Go.Proofs.YtefnkoofgpmmmaaGreatDoor
set_option maxRecDepth 100000
open Go.RowKit

def inR (n : Nat) (i : Int) : Bool := decide (0 ≤ i) && decide (i < (n : Int))
theorem inR_mk {n : Nat} {i : Int} (h : inR n i = true) : ∃ k : Nat, i = k ∧ k < n := by
  simp [inR] at h
  exact ⟨i.toNat, by omega, by omega⟩
theorem int_infoR : (Tryz.prog.info? 3).map (fun i => (i.zero, i.size, i.bytes)) = some (some (.int .i64 0), 1, 8) := by kernel_rfl
theorem info_int : ∃ i : TypeInfo, Tryz.prog.info? 3 = some i ∧ i.zero = some (.int .i64 0) ∧ i.size = 1 ∧ i.bytes = 8 := by
  have h := int_infoR
  cases hi : Tryz.prog.info? 3 with
  | none => rw [hi] at h; cases h
  | some i =>
    rw [hi] at h
    simp only [Option.map_some, Option.some.injEq, Prod.mk.injEq] at h
    exact ⟨i, rfl, h.1, h.2.1, h.2.2⟩
theorem slAt_of {α : Type} [Inhabited α] {k : Nat} {enc : α → List Value} (hk : ∀ x, (enc x).length = k) {w : World} {b n c : Nat} {xs : List α} (hn : n = xs.length) (hc : n ≤ c) (hb : b < w.heap.size)
    (h : ∀ j u, (flat enc xs)[j]? = some u → w.cell? ⟨b, j, none⟩ = some u) : SlAt k enc w (.slice (some ⟨b, 0, none⟩) n c) xs := by
  subst hn
  refine ⟨_, _, rfl, ⟨hc, fun h => nomatch h⟩, fun _ => ⟨b, 0, rfl, hb, fun j hj i u hu => ?_⟩⟩
  have hi : i < k := by rw [← hk xs[j]!]; exact (List.getElem?_eq_some_iff.1 hu).1
  rw [Nat.zero_add]
  exact h _ u (by rw [flat_get hk xs j hj i hi]; exact hu)
end Go.Proofs.YtefnkoofgpmmmaaGreatDoor

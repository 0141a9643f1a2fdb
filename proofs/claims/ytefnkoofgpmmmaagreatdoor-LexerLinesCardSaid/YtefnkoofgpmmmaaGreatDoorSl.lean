/- A slice value that holds a list, each element of k cells. No program here. -/
import Derived.Test.YtefnkoofgpmmmaaGreatDoorBase
import Derived.Deep.AppendLies
import Derived.WideShapes
namespace Go.Proofs.YtefnkoofgpmmmaaGreatDoor
open Go.RowKit

theorem belowN {B : Nat} {w w1 : World} (h : Below B w w1) (q : Nat) : Below B w (w1.drewN q) := ⟨h.os, h.tape, h.output, h.size, h.block⟩

theorem owns_below {w w' : World} {base : Nat} {e : TypeId} {size : Nat} {v : Value} {n : Nat} {xs : List Value} (h : w.ownsRow base e size v n xs) (hb : Below w.heap.size w w') : w'.ownsRow base e size v n xs := by
  obtain ⟨h1, h2⟩ := h
  refine ⟨h1, ?_⟩
  rcases h2 with h2 | ⟨g, cap, cur, hv, hg, hh, hr⟩
  · exact .inl h2
  · refine .inr ⟨g, cap, cur, hv, hg, ?_, hr⟩
    rw [hb.block g (by rcases Nat.lt_or_ge g w.heap.size with hlt | hge; exact hlt; rw [Array.getElem?_eq_none hge] at hh; cases hh)]
    exact hh
theorem owns_block {w : World} {base : Nat} {e : TypeId} {size : Nat} {v : Value} {n : Nat} {xs : List Value} (h : w.ownsRow base e size v n xs) : ∀ k, v.ownBlock = some k → base ≤ k := by
  intro k hk
  rcases h.2 with ⟨rfl, _⟩ | ⟨g, cap, cur, rfl, hg, _⟩
  · simp [Value.ownBlock] at hk
  · simp [Value.ownBlock] at hk; omega

section
variable {α : Type} [Inhabited α]
/-- the slice value holds the list -/
def SlAt (k : Nat) (enc : α → List Value) (w : World) (v : Value) (xs : List α) : Prop :=
  ∃ p c, v = .slice p xs.length c ∧ (xs.length ≤ c ∧ (p = none → xs = [] ∧ c = 0)) ∧ (0 < xs.length → ∃ b off, p = some ⟨b, off, none⟩ ∧ b < w.heap.size ∧
    ∀ j, j < xs.length → ∀ i u, (enc xs[j]!)[i]? = some u → w.cell? ⟨b, off + j * k + i, none⟩ = some u)

theorem SlAt.below {k : Nat} {enc : α → List Value} {w w' : World} {v : Value} {xs : List α} (h : SlAt k enc w v xs) (hb : Below w.heap.size w w') : SlAt k enc w' v xs := by
  obtain ⟨p, c, hv, hn, hc⟩ := h
  refine ⟨p, c, hv, hn, fun hl => ?_⟩
  obtain ⟨b, off, hp, hlt, hcell⟩ := hc hl
  exact ⟨b, off, hp, Nat.lt_of_lt_of_le hlt hb.size, fun j hj i u hu => (hb.cell (p := ⟨b, off + j * k + i, none⟩) hlt).trans (hcell j hj i u hu)⟩
theorem SlAt.belowB {B k : Nat} {enc : α → List Value} {w w' : World} {v : Value} {xs : List α} (h : SlAt k enc w v xs) (hb : Below B w w') (hB : w.heap.size ≤ B) : SlAt k enc w' v xs := h.below (hb.mono hB)

theorem SlAt.nil (k : Nat) (enc : α → List Value) (w : World) : SlAt k enc w (.slice none 0 0) [] := ⟨none, 0, rfl, ⟨Nat.le_refl _, fun _ => ⟨rfl, rfl⟩⟩, fun h => absurd h (by simp)⟩

/-- the cells of a list, one behind the other -/
def flat (enc : α → List Value) (xs : List α) : List Value := xs.flatMap enc
omit [Inhabited α] in
theorem flat_length {k : Nat} {enc : α → List Value} (hk : ∀ x, (enc x).length = k) (xs : List α) : (flat enc xs).length = xs.length * k := by
  induction xs with
  | nil => simp [flat]
  | cons x xs ih => simp only [flat, List.flatMap_cons, List.length_append, hk, List.length_cons] at ih ⊢; rw [ih, Nat.add_mul]; omega
theorem flat_get {k : Nat} {enc : α → List Value} (hk : ∀ x, (enc x).length = k) (xs : List α) : ∀ j, j < xs.length → ∀ i, i < k → (flat enc xs)[j * k + i]? = (enc xs[j]!)[i]? := by
  induction xs with
  | nil => intro j hj; simp at hj
  | cons x xs ih =>
    intro j hj i hi
    cases j with
    | zero =>
      simp only [flat, List.flatMap_cons, Nat.zero_mul, Nat.zero_add]
      rw [List.getElem?_append_left (by rw [hk]; exact hi)]
      simp
    | succ j =>
      simp only [flat, List.flatMap_cons]
      rw [List.getElem?_append_right (by rw [hk, Nat.add_mul]; omega), hk, show (j + 1) * k + i - k = j * k + i by rw [Nat.add_mul]; omega]
      have := ih j (by simpa using hj) i hi
      simpa [flat] using this

/-- the cells of a slice's elements, as an append asks for them -/
theorem SlAt.flat_cells {k : Nat} (hk0 : 0 < k) {enc : α → List Value} (hk : ∀ x, (enc x).length = k) {xs : List α} {w : World} {b off : Nat}
    (hc : ∀ j, j < xs.length → ∀ i u, (enc xs[j]!)[i]? = some u → w.cell? ⟨b, off + j * k + i, none⟩ = some u) : ∀ j u, (flat enc xs)[j]? = some u → w.cell? ⟨b, off + j, none⟩ = some u := by
  intro j u hj
  have hl : j < xs.length * k := by
    have := (List.getElem?_eq_some_iff.1 hj).1
    rwa [flat_length hk] at this
  have hq : j / k < xs.length := Nat.div_lt_of_lt_mul (by rw [Nat.mul_comm]; exact hl)
  have hr : j % k < k := Nat.mod_lt _ hk0
  have he : j = j / k * k + j % k := by rw [Nat.mul_comm]; exact (Nat.div_add_mod j k).symm
  rw [he] at hj
  rw [flat_get hk xs _ hq _ hr] at hj
  have := hc _ hq _ _ hj
  rw [Nat.add_assoc, ← he] at this
  exact this

/-- a row of the call's own holds its list -/
theorem SlAt.of_owns {k : Nat} {enc : α → List Value} (hk : ∀ x, (enc x).length = k) {w : World} {base : Nat} {e : TypeId} {v : Value} {xs : List α} (h : w.ownsRow base e k v xs.length (flat enc xs)) : SlAt k enc w v xs := by
  have hcl := fun g hg => h.cells (g := g) hg
  obtain ⟨h1, h2⟩ := h
  rcases h2 with ⟨rfl, h0⟩ | ⟨g, cap, cur, rfl, hb, hg, hcap, _⟩
  · have : xs = [] := List.eq_nil_of_length_eq_zero h0
    subst this
    exact SlAt.nil _ _ _
  · refine ⟨some ⟨g, 0, none⟩, cap, rfl, ⟨hcap, fun h => nomatch h⟩, fun _ => ⟨g, 0, rfl, ?_, fun j hj i u hu => ?_⟩⟩
    · rcases Nat.lt_or_ge g w.heap.size with hlt | hge
      · exact hlt
      · rw [Array.getElem?_eq_none hge] at hg; cases hg
    · have hi : i < k := by rw [← hk xs[j]!]; exact (List.getElem?_eq_some_iff.1 hu).1
      have := hcl g rfl (j * k + i) u (by rw [flat_get hk xs j hj i hi]; exact hu)
      rw [Go.WideShapes.add_plain] at this
      rw [← this]
      congr 2
      omega

theorem SlAt.take {k : Nat} {enc : α → List Value} {w : World} {p : Option Addr} {n c : Nat} {xs : List α} (h : SlAt k enc w (.slice p n c) xs) {j : Nat} (hj : j ≤ xs.length) : SlAt k enc w (.slice p j c) (xs.take j) := by
  obtain ⟨p', c', hv, ⟨hcap, hn⟩, hc⟩ := h
  simp only [Value.slice.injEq] at hv
  obtain ⟨rfl, rfl, rfl⟩ := hv
  have hl : (xs.take j).length = j := by simp; omega
  refine ⟨p, c, by rw [hl], ⟨by omega, fun e => by obtain ⟨h1, h2⟩ := hn e; subst h1; exact ⟨by simp, h2⟩⟩, fun hpos => ?_⟩
  obtain ⟨b, off, hp, hb, hcell⟩ := hc (by omega)
  refine ⟨b, off, hp, hb, fun i hi m u hu => hcell i (by omega) m u ?_⟩
  rw [getElem!_pos (xs.take j) i hi, List.getElem_take] at hu
  rw [getElem!_pos xs i (by omega)]
  exact hu

/-- asked of a predicate: called with an element it tells what p tells, and turns nothing -/
def PredB (P : Program) (g : Nat) (lb : Array Value) (enc : α → List Value) (p : α → Bool) (w : World) : Prop :=
  ∀ (W : World) (x : α), Below w.heap.size w W → Calls P g (#[.agg (enc x).toArray] ++ lb) W fun e w' => e = .returned (.bool (p x)) ∧ Below w.heap.size w w'
/-- the first place of one -/
def idxI (p : α → Bool) (xs : List α) : Int := match xs.findIdx? p with | some i => (i : Int) | none => -1
theorem idxI_hit {p : α → Bool} {xs : List α} {k : Nat} (hk : k < xs.length) (hp : p xs[k]! = true) (hn : ∀ j, j < k → p xs[j]! = false) : idxI p xs = (k : Int) := by
  have : xs.findIdx? p = some k := by
    rw [List.findIdx?_eq_some_iff_getElem]
    refine ⟨hk, by rwa [getElem!_pos xs k hk] at hp, fun j hj => ?_⟩
    have := hn j hj
    rw [getElem!_pos xs j (by omega)] at this
    simp [this]
  rw [idxI, this]
theorem idxI_miss {p : α → Bool} {xs : List α} (hn : ∀ j, j < xs.length → p xs[j]! = false) : idxI p xs = -1 := by
  have : xs.findIdx? p = none := by
    rw [List.findIdx?_eq_none_iff]
    intro x hx
    obtain ⟨j, hj, rfl⟩ := List.getElem_of_mem hx
    have := hn j hj
    rwa [getElem!_pos xs j hj] at this
  rw [idxI, this]
omit [Inhabited α] in
theorem idxI_any (p : α → Bool) (xs : List α) : decide (0 ≤ idxI p xs) = xs.any p := by
  unfold idxI
  cases h : xs.findIdx? p with
  | none =>
    rw [List.findIdx?_eq_none_iff] at h
    symm
    show _ = false
    rw [List.any_eq_false]
    intro x hx
    simp [h x hx]
  | some i =>
    obtain ⟨hi, hp, _⟩ := List.findIdx?_eq_some_iff_getElem.1 h
    have : xs.any p = true := List.any_eq_true.2 ⟨_, List.getElem_mem hi, hp⟩
    rw [this]
    simp
end
end Go.Proofs.YtefnkoofgpmmmaaGreatDoor

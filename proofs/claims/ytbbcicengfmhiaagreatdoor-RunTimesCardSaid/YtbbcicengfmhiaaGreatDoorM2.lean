/- Cells put one behind the other into a row of structs. No program here. A run as it lies. No program here but the types' numbers. -/
import Derived.Test.YtbbcicengfmhiaaGreatDoorBlk
import Derived.Test.YtbbcicengfmhiaaGreatDoorM1
namespace Go.Proofs.YtbbcicengfmhiaaGreatDoor
open Go.RowKit

def setsL : List Value → Nat → List Value → List Value
  | L, _, [] => L
  | L, o, v :: vs => setsL (L.set o v) (o + 1) vs
theorem setsL_app (a : List Value) : ∀ (vs L : List Value) (o : Nat), setsL (a ++ L) (a.length + o) vs = a ++ setsL L o vs
  | [], _, _ => rfl
  | v :: vs, L, o => by
    rw [setsL, List.set_append_right _ _ (by omega), show a.length + o - a.length = o by omega, show a.length + o + 1 = a.length + (o + 1) by omega, setsL_app a vs (L.set o v) (o + 1)]
    rfl
theorem setsL_len : ∀ (vs L : List Value) (o : Nat), (setsL L o vs).length = L.length
  | [], _, _ => rfl
  | v :: vs, L, o => by rw [setsL, setsL_len vs]; simp
theorem BlkIs.setsL {b : Nat} {T : TypeId} : ∀ (vs : List Value) (o : Nat) (w : World) (cs : List Value), BlkIs w b cs T → BlkIs (w.setCells b o vs) b (setsL cs o vs) T
  | [], _, _, _, h => h
  | v :: vs, o, w, cs, h => by
    rw [World.setCells, Go.Proofs.YtbbcicengfmhiaaGreatDoor.setsL]
    exact BlkIs.setsL vs (o + 1) _ _ (h.set v)
theorem flat_sets {α : Type} [Inhabited α] {enc : α → List Value} {k : Nat} (hk : ∀ x, (enc x).length = k) (x' : α) (i : Nat) (vs J : List Value) : ∀ (xs : List α) (j : Nat), j < xs.length → (∀ M, Go.Proofs.YtbbcicengfmhiaaGreatDoor.setsL (enc xs[j]! ++ M) i vs = enc x' ++ M) →
    Go.Proofs.YtbbcicengfmhiaaGreatDoor.setsL (flat enc xs ++ J) (j * k + i) vs = flat enc (xs.set j x') ++ J
  | [], j, hj, _ => by simp at hj
  | y :: xs, 0, _, h => by
    have h0 := h (flat enc xs ++ J)
    simp only [List.getElem!_cons_zero] at h0
    simp only [flat, List.flatMap_cons, List.set_cons_zero, List.append_assoc, Nat.zero_mul, Nat.zero_add] at h0 ⊢
    exact h0
  | y :: xs, j + 1, hj, h => by
    have ih := flat_sets hk x' i vs J xs j (by simpa using hj) (by simpa using h)
    simp only [flat, List.flatMap_cons, List.set_cons_succ, List.append_assoc] at ih ⊢
    rw [show (j + 1) * k + i = (enc y).length + (j * k + i) by rw [hk, Nat.add_mul]; omega, setsL_app, ih]
theorem flat_at {α : Type} [Inhabited α] {enc : α → List Value} {k : Nat} (hk : ∀ x, (enc x).length = k) {xs : List α} {J : List Value} {w : World} {g T : Nat} (h : BlkIs w g (flat enc xs ++ J) T) {j i : Nat} (hj : j < xs.length) (hi : i < k) {u : Value} (hu : (enc xs[j]!)[i]? = some u) :
    w.cell? ⟨g, j * k + i, none⟩ = some u := by
  have hfl := flat_length hk xs
  have hlt : j * k + i < xs.length * k := by
    have : (j + 1) * k ≤ xs.length * k := Nat.mul_le_mul_right _ hj
    rw [Nat.add_mul] at this
    omega
  rw [BlkIs.cell h, List.getElem?_append_left (by omega), flat_get hk xs j hj i hi, hu]
end Go.Proofs.YtbbcicengfmhiaaGreatDoor

namespace Go.Proofs.YtbbcicengfmhiaaGreatDoor
open Go.RowKit

structure RunM where
  nm : ByteArray
  ts : List TaskV
  ps : List PartV
  over : Bool
/-- neither of two blocks -/
def Apart (b g : Nat) (v : Value) : Prop := v.ownBlock ≠ some b ∧ v.ownBlock ≠ some g
theorem SlAt.keptG {α : Type} [Inhabited α] {k : Nat} {enc : α → List Value} {w w' : World} {g : Nat} {v : Value} {xs : List α} (h : SlAt k enc w v xs) (hk : KeptG g w w') (hne : v.ownBlock ≠ some g) : SlAt k enc w' v xs := by
  obtain ⟨p, c, rfl, hn, hc⟩ := h
  refine ⟨p, c, rfl, hn, fun hl => ?_⟩
  obtain ⟨b, off, rfl, hlt, hcell⟩ := hc hl
  refine ⟨b, off, rfl, by rw [hk.2.2]; exact hlt, fun j hj i u hu => ?_⟩
  rw [hk.cell (by intro e; subst e; simp [Value.ownBlock] at hne)]
  exact hcell j hj i u hu
/-- a run: its block, its parts' row (and what lies behind it), its tasks -/
structure RunAt (TR TP : TypeId) (b g : Nat) (tv : Value) (c : Nat) (J : List Value) (R : RunM) (w : World) : Prop where
  blk : BlkIs w b [.string R.nm, tv, .slice (some ⟨g, 0, none⟩) R.ps.length c, .bool R.over] TR
  row : BlkIs w g (flat encPart R.ps ++ J) TP
  ne : b ≠ g
  tasks : TasksAt w tv R.ts
  apT : Apart b g tv
  apS : ∀ j, j < R.ts.length → Apart b g R.ts[j]!.sl
  votes : ∀ j, j < R.ps.length → SlAt 1 encI w R.ps[j]!.vs R.ps[j]!.yes ∧ Apart b g R.ps[j]!.vs
  len : R.ts.length = R.ps.length
theorem RunAt.below {TR TP : TypeId} {b g : Nat} {tv : Value} {c : Nat} {J : List Value} {R : RunM} {w w' : World} (h : RunAt TR TP b g tv c J R w) (hb : Below w.heap.size w w') : RunAt TR TP b g tv c J R w' :=
  ⟨h.blk.below hb, h.row.below hb, h.ne, h.tasks.below hb, h.apT, h.apS, fun j hj => ⟨(h.votes j hj).1.below hb, (h.votes j hj).2⟩, h.len⟩
/-- a part of it turned -/
theorem RunAt.set {TR TP : TypeId} {b g : Nat} {tv : Value} {c : Nat} {J : List Value} {R : RunM} {w : World} (h : RunAt TR TP b g tv c J R w) {j : Nat} (hj : j < R.ps.length) (p : PartV) (i : Nat) (vs : List Value) (hv : ∀ M, setsL (encPart R.ps[j]! ++ M) i vs = encPart p ++ M)
    (hs : SlAt 1 encI w p.vs p.yes) (ha : Apart b g p.vs) : RunAt TR TP b g tv c J { R with ps := R.ps.set j p } (w.setCells g (j * 9 + i) vs) := by
  have hk := KeptG.sets g (j * 9 + i) w vs
  have hget : ∀ m, m < R.ps.length → (R.ps.set j p)[m]! = if j = m then p else R.ps[m]! := fun m hm => by
    rw [getElem!_pos _ m (by simpa using hm), List.getElem_set]
    split
    · rfl
    · rw [getElem!_pos R.ps m hm]
  refine ⟨?_, ?_, h.ne, ⟨h.tasks.1.keptG hk h.apT.2, fun m hm => (h.tasks.2 m hm).keptG hk (h.apS m hm).2⟩, h.apT, h.apS, fun m hm => ?_, by simpa using h.len⟩
  · have := hk.blk h.blk h.ne
    simpa using this
  · have := BlkIs.setsL vs (j * 9 + i) w _ h.row
    rw [flat_sets encPart_len p i vs J R.ps j hj hv] at this
    exact this
  · have hm' : m < R.ps.length := by simpa using hm
    rw [hget m hm']
    split
    · exact ⟨hs.keptG hk ha.2, ha⟩
    · exact ⟨(h.votes m hm').1.keptG hk (h.votes m hm').2.2, (h.votes m hm').2⟩
theorem RunAt.setOver {TR TP : TypeId} {b g : Nat} {tv : Value} {c : Nat} {J : List Value} {R : RunM} {w : World} (h : RunAt TR TP b g tv c J R w) (o : Bool) : RunAt TR TP b g tv c J { R with over := o } (w.setCell ⟨b, 3, none⟩ (.bool o)) := by
  have hk := KeptG.set b 3 w (.bool o)
  refine ⟨by simpa using h.blk.set (o := 3) (.bool o), hk.blk h.row (Ne.symm h.ne), h.ne, ⟨h.tasks.1.keptG hk h.apT.1, fun m hm => (h.tasks.2 m hm).keptG hk (h.apS m hm).1⟩, h.apT, h.apS, fun m hm => ⟨(h.votes m hm).1.keptG hk (h.votes m hm).2.1, (h.votes m hm).2⟩, h.len⟩
/-- the cells of a part -/
theorem RunAt.cells {TR TP : TypeId} {b g : Nat} {tv : Value} {c : Nat} {J : List Value} {R : RunM} {w : World} (h : RunAt TR TP b g tv c J R w) {j : Nat} (hj : j < R.ps.length) :
    w.cell? ⟨g, j * 9, none⟩ = some (.int .i64 R.ps[j]!.try_.st) ∧ w.cell? ⟨g, j * 9 + 1, none⟩ = some (.int .i64 R.ps[j]!.try_.since) ∧ w.cell? ⟨g, j * 9 + 2, none⟩ = some (.int .i64 R.ps[j]!.try_.missed) ∧ w.cell? ⟨g, j * 9 + 3, none⟩ = some (.int .i64 R.ps[j]!.try_.wk) ∧
    w.cell? ⟨g, j * 9 + 4, none⟩ = some (.int .i64 R.ps[j]!.try_.ls) ∧ w.cell? ⟨g, j * 9 + 5, none⟩ = some (.int .i64 R.ps[j]!.try_.til) ∧ w.cell? ⟨g, j * 9 + 6, none⟩ = some (.string R.ps[j]!.out) ∧ w.cell? ⟨g, j * 9 + 7, none⟩ = some R.ps[j]!.vs ∧ w.cell? ⟨g, j * 9 + 8, none⟩ = some (.bool R.ps[j]!.no) :=
  ⟨flat_at encPart_len h.row hj (i := 0) (by decide) rfl, flat_at encPart_len h.row hj (i := 1) (by decide) rfl, flat_at encPart_len h.row hj (i := 2) (by decide) rfl, flat_at encPart_len h.row hj (i := 3) (by decide) rfl, flat_at encPart_len h.row hj (i := 4) (by decide) rfl, flat_at encPart_len h.row hj (i := 5) (by decide) rfl, flat_at encPart_len h.row hj (i := 6) (by decide) rfl, flat_at encPart_len h.row hj (i := 7) (by decide) rfl, flat_at encPart_len h.row hj (i := 8) (by decide) rfl⟩
theorem RunAt.head {TR TP : TypeId} {b g : Nat} {tv : Value} {c : Nat} {J : List Value} {R : RunM} {w : World} (h : RunAt TR TP b g tv c J R w) : w.cell? ⟨b, 0, none⟩ = some (.string R.nm) ∧ w.cell? ⟨b, 1, none⟩ = some tv ∧ w.cell? ⟨b, 2, none⟩ = some (.slice (some ⟨g, 0, none⟩) R.ps.length c) ∧ w.cell? ⟨b, 3, none⟩ = some (.bool R.over) :=
  ⟨h.blk.cell 0, h.blk.cell 1, h.blk.cell 2, h.blk.cell 3⟩
theorem RunAt.vsl {TR TP : TypeId} {b g : Nat} {tv : Value} {c : Nat} {J : List Value} {R : RunM} {w : World} (h : RunAt TR TP b g tv c J R w) {j : Nat} (hj : j < R.ps.length) : ∃ q m cc, R.ps[j]!.vs = .slice q m cc := by
  obtain ⟨q, cc, hv, _⟩ := (h.votes j hj).1
  exact ⟨_, _, _, hv⟩
/-- how a run stands -/
def stPs (ps : List PartV) : Int := if (ps.any fun p => p.try_.st == 4) = true then 2 else if (ps.all fun p => p.try_.st == 3) = true then 1 else 0
def statusM (R : RunM) : Int := if R.over = true then 3 else stPs R.ps
end Go.Proofs.YtbbcicengfmhiaaGreatDoor

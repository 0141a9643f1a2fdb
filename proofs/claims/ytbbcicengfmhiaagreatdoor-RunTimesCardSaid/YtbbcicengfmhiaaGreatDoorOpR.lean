/- A run's call among the arguments, opened to its cells. -/
import Derived.Test.YtbbcicengfmhiaaGreatDoorFrameD
import Derived.Test.YtbbcicengfmhiaaGreatDoorM1
import Derived.Deep.Slices
import Derived.Deep.Fields
namespace Go.Proofs.YtbbcicengfmhiaaGreatDoor
set_option maxRecDepth 100000
open Go.ChangeShapes Go.WideShapes Go.ChangeAt Go.RowKit Go.Deep Go.Joins

/-- a call: which, when, of what -/
structure OpR where
  kind : Int
  now : Int
  a : Int
  b : Int
  c : Int
  s : ByteArray
deriving Inhabited
def encR (o : OpR) : List Value := [.int .i64 o.kind, .int .i64 o.now, .int .i64 o.a, .int .i64 o.b, .int .i64 o.c, .string o.s]
def OpR.ok (o : OpR) : Prop := okI o.kind ∧ okI o.now ∧ okI o.a ∧ okI o.b ∧ okI o.c ∧ o.s.size ≤ maxLen
section
variable {H : Type} {enc : TypeId × Value → H} {w : World} {base : Nat} {spare : Nat → Bool} {held : Bool}
theorem i64R_of {n : Nat} {c : Value} {y : DataW H × List MemPlace} (h : DataW.trod enc Tryz.prog w base spare held n 3 [c] = some y) : ∃ a : Int, c = .int .i64 a ∧ okI a := by
  obtain ⟨b, e1, _, hw⟩ := DataW.trod_int Tryz.underlying3 h
  simp only [List.cons.injEq, and_true] at e1
  simp [Lit.wf, IntKind.min, IntKind.max, IntKind.bits, IntKind.signed] at hw
  exact ⟨b, e1, by omega, by omega⟩
theorem strR_of {n : Nat} {c : Value} {y : DataW H × List MemPlace} (h : DataW.trod enc Tryz.prog w base spare held n 9 [c] = some y) : ∃ s : ByteArray, c = .string s ∧ s.size ≤ maxLen := by
  obtain ⟨s, e1, _, hw⟩ := DataW.trod_string Tryz.underlying9 h
  simp only [List.cons.injEq, and_true] at e1
  exact ⟨s, e1, hw⟩
theorem fieldRAt {t j o ty : Nat} (h : ((Tryz.prog.fieldsOf t)[j]?).map (fun f => (f.offset, f.type)) = some (o, ty)) : ∃ f, (Tryz.prog.fieldsOf t)[j]? = some f ∧ f.offset = o ∧ f.type = ty := by
  cases hf : (Tryz.prog.fieldsOf t)[j]? with
  | none => rw [hf] at h; cases h
  | some f =>
    rw [hf] at h
    simp only [Option.map_some, Option.some.injEq, Prod.mk.injEq] at h
    exact ⟨f, rfl, h.1, h.2⟩
theorem structsRAt {t : TypeId} {n : Nat} {cs : List Value} {y : DataW H × List MemPlace} (ht : Tryz.prog.underlying t = some (.struct (Tryz.prog.fieldsOf t))) (h : DataW.trod enc Tryz.prog w base spare held n t cs = some y) :
    cs.length = Tryz.prog.cellsOf t ∧ ∃ n', ∀ (j o ty : Nat), ((Tryz.prog.fieldsOf t)[j]?).map (fun f => (f.offset, f.type)) = some (o, ty) → ∃ y', DataW.trod enc Tryz.prog w base spare held n' ty ((cs.drop o).take (Tryz.prog.cellsOf ty)) = some y' := by
  obtain ⟨xs, n', _, _, hl, hlen, hg⟩ := DataW.trod_struct ht h
  refine ⟨hl, n', fun j o ty hj => ?_⟩
  obtain ⟨f, hf, rfl, rfl⟩ := fieldRAt hj
  have hjl : j < (Tryz.prog.fieldsOf t).size := (Array.getElem?_eq_some_iff.1 hf).1
  exact ⟨_, (hg j f hf).trans (List.getElem?_eq_getElem (by omega))⟩
theorem fieldsR53 : Tryz.prog.underlying 53 = some (.struct (Tryz.prog.fieldsOf 53)) := by kernel_rfl
theorem opR_of {n : Nat} {cs : List Value} {y : DataW H × List MemPlace} (h : DataW.trod enc Tryz.prog w base spare held n 53 cs = some y) : ∃ o : OpR, o.ok ∧ cs = encR o := by
  obtain ⟨hl, n', hf⟩ := structsRAt fieldsR53 h
  have hC : Tryz.prog.cellsOf 53 = 6 := by kernel_rfl
  have h3 : Tryz.prog.cellsOf 3 = 1 := by kernel_rfl
  have h9 : Tryz.prog.cellsOf 9 = 1 := by kernel_rfl
  match cs, hl.trans hC with
  | [c0, c1, c2, c3, c4, c5], _ =>
    obtain ⟨y0, e0⟩ := hf 0 0 3 (by kernel_rfl)
    obtain ⟨y1, e1⟩ := hf 1 1 3 (by kernel_rfl)
    obtain ⟨y2, e2⟩ := hf 2 2 3 (by kernel_rfl)
    obtain ⟨y3, e3⟩ := hf 3 3 3 (by kernel_rfl)
    obtain ⟨y4, e4⟩ := hf 4 4 3 (by kernel_rfl)
    obtain ⟨y5, e5⟩ := hf 5 5 9 (by kernel_rfl)
    rw [h3] at e0 e1 e2 e3 e4
    rw [h9] at e5
    obtain ⟨a0, rfl, b0⟩ := i64R_of e0
    obtain ⟨a1, rfl, b1⟩ := i64R_of e1
    obtain ⟨a2, rfl, b2⟩ := i64R_of e2
    obtain ⟨a3, rfl, b3⟩ := i64R_of e3
    obtain ⟨a4, rfl, b4⟩ := i64R_of e4
    obtain ⟨s, rfl, b5⟩ := strR_of e5
    exact ⟨⟨a0, a1, a2, a3, a4, s⟩, ⟨b0, b1, b2, b3, b4, b5⟩, rfl⟩
theorem open_opR {v : Value} {base0 : Nat} {r : Reach} {d : DataW H} {p : List MemPlace} (hv : Value.okWide Tryz.prog w r base0 53 v) (h : DataW.Trod enc Tryz.prog w base spare held 53 v d p) : ∃ o : OpR, o.ok ∧ v = .agg (encR o).toArray := by
  obtain ⟨cs, rfl, _⟩ := okWide_struct fieldsR53 hv
  obtain ⟨fuel, hf⟩ := h
  obtain ⟨o, ho, e⟩ := opR_of hf
  refine ⟨o, ho, ?_⟩
  obtain ⟨l⟩ := cs
  have e' : l = encR o := e
  rw [e']
end
end Go.Proofs.YtbbcicengfmhiaaGreatDoor

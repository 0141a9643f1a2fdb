/- Structs among the arguments, opened to their cells. -/
import Derived.Test.YtpkmgdpnimecfabDoorFrameD
import Derived.Deep.Slices
import Derived.Deep.Fields
namespace Go.Proofs.YtpkmgdpnimecfabDoor
open Go.ChangeShapes Go.WideShapes Go.ChangeAt Go.RowKit Go.Deep Go.Joins
section
variable {H : Type} {enc : TypeId × Value → H} {w : World} {base : Nat} {spare : Nat → Bool} {held : Bool}
set_option maxRecDepth 100000 in
theorem u16_of {n : Nat} {c : Value} {y : DataW H × List MemPlace} (h : DataW.trod enc Tryd.prog w base spare held n 24 [c] = some y) : ∃ x : Nat, x < 65536 ∧ c = .int .u16 (x : Int) := by
  obtain ⟨b, e1, _, hw⟩ := DataW.trod_int Tryd.underlying24 h
  simp only [List.cons.injEq, and_true] at e1
  have hb : 0 ≤ b ∧ b < 65536 := by
    simp [Lit.wf, IntKind.min, IntKind.max, IntKind.bits, IntKind.signed] at hw
    omega
  obtain ⟨x, rfl⟩ := Int.eq_ofNat_of_zero_le hb.1
  exact ⟨x, by omega, e1⟩
theorem i64_of {n : Nat} {c : Value} {y : DataW H × List MemPlace} (h : DataW.trod enc Tryd.prog w base spare held n 3 [c] = some y) : ∃ a : Int, c = .int .i64 a ∧ (-9223372036854775808 ≤ a ∧ a ≤ 9223372036854775807) := by
  obtain ⟨b, e1, _, hw⟩ := DataW.trod_int Tryd.underlying3 h
  simp only [List.cons.injEq, and_true] at e1
  simp [Lit.wf, IntKind.min, IntKind.max, IntKind.bits, IntKind.signed] at hw
  exact ⟨b, e1, by omega, by omega⟩
theorem str_of {n : Nat} {c : Value} {y : DataW H × List MemPlace} (h : DataW.trod enc Tryd.prog w base spare held n 9 [c] = some y) : ∃ s : ByteArray, c = .string s ∧ s.size ≤ maxLen := by
  obtain ⟨s, e1, _, hw⟩ := DataW.trod_string Tryd.underlying9 h
  simp only [List.cons.injEq, and_true] at e1
  exact ⟨s, e1, hw⟩
theorem fieldAt {t j o ty : Nat} (h : ((Tryd.prog.fieldsOf t)[j]?).map (fun f => (f.offset, f.type)) = some (o, ty)) : ∃ f, (Tryd.prog.fieldsOf t)[j]? = some f ∧ f.offset = o ∧ f.type = ty := by
  cases hf : (Tryd.prog.fieldsOf t)[j]? with
  | none => rw [hf] at h; cases h
  | some f =>
    rw [hf] at h
    simp only [Option.map_some, Option.some.injEq, Prod.mk.injEq] at h
    exact ⟨f, rfl, h.1, h.2⟩
theorem structsAt {t : TypeId} {n : Nat} {cs : List Value} {y : DataW H × List MemPlace} (ht : Tryd.prog.underlying t = some (.struct (Tryd.prog.fieldsOf t))) (h : DataW.trod enc Tryd.prog w base spare held n t cs = some y) :
    cs.length = Tryd.prog.cellsOf t ∧ ∃ n', ∀ (j o ty : Nat), ((Tryd.prog.fieldsOf t)[j]?).map (fun f => (f.offset, f.type)) = some (o, ty) → ∃ y', DataW.trod enc Tryd.prog w base spare held n' ty ((cs.drop o).take (Tryd.prog.cellsOf ty)) = some y' := by
  obtain ⟨xs, n', _, _, hl, hlen, hg⟩ := DataW.trod_struct ht h
  refine ⟨hl, n', fun j o ty hj => ?_⟩
  obtain ⟨f, hf, rfl, rfl⟩ := fieldAt hj
  have hjl : j < (Tryd.prog.fieldsOf t).size := (Array.getElem?_eq_some_iff.1 hf).1
  exact ⟨_, (hg j f hf).trans (List.getElem?_eq_getElem (by omega))⟩
theorem fields26 : Tryd.prog.underlying 26 = some (.struct (Tryd.prog.fieldsOf 26)) := by kernel_rfl
theorem fields76 : Tryd.prog.underlying 76 = some (.struct (Tryd.prog.fieldsOf 76)) := by kernel_rfl
set_option maxRecDepth 100000 in
theorem lbl_of {n : Nat} {cs : List Value} {y : DataW H × List MemPlace} (h : DataW.trod enc Tryd.prog w base spare held n 26 cs = some y) :
    ∃ (a : Int) (x : Nat), (-9223372036854775808 ≤ a ∧ a ≤ 9223372036854775807) ∧ x < 65536 ∧ cs = [.int .i64 a, .int .u16 (x : Int)] := by
  obtain ⟨hl, n', hf⟩ := structsAt fields26 h
  have hC : Tryd.prog.cellsOf 26 = 2 := by kernel_rfl
  have h3 : Tryd.prog.cellsOf 3 = 1 := by kernel_rfl
  have h24 : Tryd.prog.cellsOf 24 = 1 := by kernel_rfl
  match cs, hl.trans hC with
  | [c0, c1], _ =>
    obtain ⟨y0, e0⟩ := hf 0 0 3 (by kernel_rfl)
    obtain ⟨y1, e1⟩ := hf 1 1 24 (by kernel_rfl)
    rw [h3] at e0
    rw [h24] at e1
    obtain ⟨a, rfl, ha⟩ := i64_of e0
    obtain ⟨x, hx, rfl⟩ := u16_of e1
    exact ⟨a, x, ha, hx, rfl⟩
/-- a codec's Op -/
structure OpV where
  kind : Int
  n : Int
  lo : Int
  hi : Int
  s : ByteArray
  lv : Int
  set : Nat
def OpV.ok (o : OpV) : Prop := (-9223372036854775808 ≤ o.n ∧ o.n ≤ 9223372036854775807) ∧ (-9223372036854775808 ≤ o.lv ∧ o.lv ≤ 9223372036854775807) ∧ o.set < 65536 ∧ o.s.size ≤ maxLen
def encO (o : OpV) : List Value := [.int .i64 o.kind, .int .i64 o.n, .int .i64 o.lo, .int .i64 o.hi, .string o.s, .int .i64 o.lv, .int .u16 (o.set : Int)]
set_option maxRecDepth 100000 in
theorem op_of {n : Nat} {cs : List Value} {y : DataW H × List MemPlace} (h : DataW.trod enc Tryd.prog w base spare held n 76 cs = some y) : ∃ o : OpV, o.ok ∧ cs = encO o := by
  obtain ⟨hl, n', hf⟩ := structsAt fields76 h
  have hC : Tryd.prog.cellsOf 76 = 7 := by kernel_rfl
  have h3 : Tryd.prog.cellsOf 3 = 1 := by kernel_rfl
  have h9 : Tryd.prog.cellsOf 9 = 1 := by kernel_rfl
  have h26 : Tryd.prog.cellsOf 26 = 2 := by kernel_rfl
  match cs, hl.trans hC with
  | [c0, c1, c2, c3, c4, c5, c6], _ =>
    obtain ⟨y0, e0⟩ := hf 0 0 3 (by kernel_rfl)
    obtain ⟨y1, e1⟩ := hf 1 1 3 (by kernel_rfl)
    obtain ⟨y2, e2⟩ := hf 2 2 3 (by kernel_rfl)
    obtain ⟨y3, e3⟩ := hf 3 3 3 (by kernel_rfl)
    obtain ⟨y4, e4⟩ := hf 4 4 9 (by kernel_rfl)
    obtain ⟨y5, e5⟩ := hf 5 5 26 (by kernel_rfl)
    rw [h3] at e0 e1 e2 e3
    rw [h9] at e4
    rw [h26] at e5
    obtain ⟨a0, rfl, _⟩ := i64_of e0
    obtain ⟨a1, rfl, b1⟩ := i64_of e1
    obtain ⟨a2, rfl, _⟩ := i64_of e2
    obtain ⟨a3, rfl, _⟩ := i64_of e3
    obtain ⟨s, rfl, hs⟩ := str_of e4
    obtain ⟨a, x, ha, hx, e⟩ := lbl_of e5
    simp at e
    obtain ⟨rfl, rfl⟩ := e
    exact ⟨⟨a0, a1, a2, a3, s, a, x⟩, ⟨b1, ha, hx, hs⟩, rfl⟩
set_option maxRecDepth 100000 in
theorem open_struct {t : TypeId} {v : Value} {base0 : Nat} {r : Reach} {d : DataW H} {p : List MemPlace} (ht : Tryd.prog.underlying t = some (.struct (Tryd.prog.fieldsOf t))) (hv : Value.okWide Tryd.prog w r base0 t v) (h : DataW.Trod enc Tryd.prog w base spare held t v d p) :
    ∃ cs : List Value, v = .agg cs.toArray ∧ ∃ n y, DataW.trod enc Tryd.prog w base spare held n t cs = some y := by
  obtain ⟨cs, rfl, _⟩ := okWide_struct ht hv
  obtain ⟨fuel, hf⟩ := h
  exact ⟨cs.toList, by simp, fuel, _, hf⟩
end
end Go.Proofs.YtpkmgdpnimecfabDoor

/- A pipeline among the arguments, opened to its tasks. -/
import Derived.Test.YtbbcicengfmhiaaGreatDoorRou
import Derived.Test.YtbbcicengfmhiaaGreatDoorFrame
import Derived.Deep.Slices
import Derived.Deep.Fields
namespace Go.Proofs.YtbbcicengfmhiaaGreatDoor
set_option maxRecDepth 100000
open Go.ChangeShapes Go.WideShapes Go.ChangeAt Go.RowKit Go.Deep Go.Joins
section
variable {H : Type} {enc : TypeId × Value → H} {w : World} {base : Nat} {spare : Nat → Bool} {held : Bool}

theorem u16C_of {n : Nat} {c : Value} {y : DataW H × List MemPlace} (h : DataW.trod enc Tryz.prog w base spare held n 78 [c] = some y) : ∃ x : Nat, x < 65536 ∧ c = .int .u16 (x : Int) := by
  obtain ⟨b, e1, _, hw⟩ := DataW.trod_int Tryz.underlying78 h
  simp only [List.cons.injEq, and_true] at e1
  have hb : 0 ≤ b ∧ b < 65536 := by
    simp [Lit.wf, IntKind.min, IntKind.max, IntKind.bits, IntKind.signed] at hw
    omega
  obtain ⟨x, rfl⟩ := Int.eq_ofNat_of_zero_le hb.1
  exact ⟨x, by omega, e1⟩
theorem i64C_of {n : Nat} {cs : List Value} {y : DataW H × List MemPlace} (h : DataW.trod enc Tryz.prog w base spare held n 3 cs = some y) : ∃ a : Int, okI a ∧ cs = encI a := by
  obtain ⟨b, e1, _, hw⟩ := DataW.trod_int Tryz.underlying3 h
  simp [Lit.wf, IntKind.min, IntKind.max, IntKind.bits, IntKind.signed] at hw
  exact ⟨b, ⟨by omega, by omega⟩, e1⟩
theorem boolC_of {n : Nat} {cs : List Value} {y : DataW H × List MemPlace} (h : DataW.trod enc Tryz.prog w base spare held n 4 cs = some y) : ∃ a : Bool, cs = [.bool a] := by
  obtain ⟨b, e1, _⟩ := DataW.trod_bool Tryz.underlying4 h
  exact ⟨b, e1⟩
theorem strC_of {n : Nat} {c : Value} {y : DataW H × List MemPlace} (h : DataW.trod enc Tryz.prog w base spare held n 9 [c] = some y) : ∃ s : ByteArray, c = .string s ∧ s.size ≤ maxLen := by
  obtain ⟨s, e1, _, hw⟩ := DataW.trod_string Tryz.underlying9 h
  simp only [List.cons.injEq, and_true] at e1
  exact ⟨s, e1, hw⟩
theorem fieldCAt {t j o ty : Nat} (h : ((Tryz.prog.fieldsOf t)[j]?).map (fun f => (f.offset, f.type)) = some (o, ty)) : ∃ f, (Tryz.prog.fieldsOf t)[j]? = some f ∧ f.offset = o ∧ f.type = ty := by
  cases hf : (Tryz.prog.fieldsOf t)[j]? with
  | none => rw [hf] at h; cases h
  | some f =>
    rw [hf] at h
    simp only [Option.map_some, Option.some.injEq, Prod.mk.injEq] at h
    exact ⟨f, rfl, h.1, h.2⟩
theorem structsCAt {t : TypeId} {n : Nat} {cs : List Value} {y : DataW H × List MemPlace} (ht : Tryz.prog.underlying t = some (.struct (Tryz.prog.fieldsOf t))) (h : DataW.trod enc Tryz.prog w base spare held n t cs = some y) :
    cs.length = Tryz.prog.cellsOf t ∧ ∃ n', ∀ (j o ty : Nat), ((Tryz.prog.fieldsOf t)[j]?).map (fun f => (f.offset, f.type)) = some (o, ty) → ∃ y', DataW.trod enc Tryz.prog w base spare held n' ty ((cs.drop o).take (Tryz.prog.cellsOf ty)) = some y' := by
  obtain ⟨xs, n', _, _, hl, hlen, hg⟩ := DataW.trod_struct ht h
  refine ⟨hl, n', fun j o ty hj => ?_⟩
  obtain ⟨f, hf, rfl, rfl⟩ := fieldCAt hj
  have hjl : j < (Tryz.prog.fieldsOf t).size := (Array.getElem?_eq_some_iff.1 hf).1
  exact ⟨_, (hg j f hf).trans (List.getElem?_eq_getElem (by omega))⟩
theorem fieldsCL : Tryz.prog.underlying 80 = some (.struct (Tryz.prog.fieldsOf 80)) := by kernel_rfl
theorem fieldsCT : Tryz.prog.underlying 100 = some (.struct (Tryz.prog.fieldsOf 100)) := by kernel_rfl
theorem fieldsCP : Tryz.prog.underlying 46 = some (.struct (Tryz.prog.fieldsOf 46)) := by kernel_rfl
theorem lblC_of {n : Nat} {cs : List Value} {y : DataW H × List MemPlace} (h : DataW.trod enc Tryz.prog w base spare held n 80 cs = some y) :
    ∃ (a : Int) (x : Nat), x < 65536 ∧ cs = [.int .i64 a, .int .u16 (x : Int)] := by
  obtain ⟨hl, n', hf⟩ := structsCAt fieldsCL h
  have hC : Tryz.prog.cellsOf 80 = 2 := by kernel_rfl
  have h3 : Tryz.prog.cellsOf 3 = 1 := by kernel_rfl
  have h24 : Tryz.prog.cellsOf 78 = 1 := by kernel_rfl
  match cs, hl.trans hC with
  | [c0, c1], _ =>
    obtain ⟨y0, e0⟩ := hf 0 0 3 (by kernel_rfl)
    obtain ⟨y1, e1⟩ := hf 1 1 78 (by kernel_rfl)
    rw [h3] at e0
    rw [h24] at e1
    obtain ⟨a, _, e2⟩ := i64C_of e0
    obtain ⟨x, hx, rfl⟩ := u16C_of e1
    simp [encI] at e2
    subst e2
    exact ⟨a, x, hx, rfl⟩
theorem openC_structs {α : Type} [Inhabited α] {k : Nat} {encA : α → List Value} (hk0 : 0 < k) (hk : ∀ x, (encA x).length = k) {ok : α → Prop} {t e : TypeId} {fuel : Nat} {v : Value} {y0 : DataW H × List MemPlace}
    (ht : Tryz.prog.underlying t = some (.slice e)) (hC : Tryz.prog.cellsOf e = k)
    (hel : ∀ (n : Nat) (cs : List Value) (y : DataW H × List MemPlace), DataW.trod enc Tryz.prog w base spare held n e cs = some y → ∃ x : α, ok x ∧ cs = encA x)
    (hf : DataW.trod enc Tryz.prog w base spare held fuel t [v] = some y0) : ∃ xs : List α, SlAt k encA w v xs ∧ (∀ j, j < xs.length → ok xs[j]!) ∧ xs.length ≤ maxLen := by
  rcases open_slice ht hf with ⟨h0, _⟩ | ⟨a, len, cap, m, n, D, Pl, hcs, hb, hl, hm, hmm, hx, hi⟩
  · simp only [List.cons.injEq, and_true] at h0
    subst h0
    exact ⟨[], SlAt.nil _ _ _, fun j hj => absurd hj (by simp), by simp⟩
  · simp only [List.cons.injEq, and_true] at hcs
    subst hcs
    have hlm : len ≤ m := by rw [hmm]; split <;> omega
    have each : ∀ i, i < len → ∃ x : α, ok x ∧ ∀ (q : Nat) (u : Value), (encA x)[q]? = some u → w.cell? (a.add (i * k + q)) = some u := by
      intro i hi'
      obtain ⟨cs', hc, ht'⟩ := hi i (by omega)
      obtain ⟨x, hok, rfl⟩ := hel _ _ _ ht'
      refine ⟨x, hok, fun q u hu => ?_⟩
      obtain ⟨_, hcl, hat⟩ := World.cells?_some hc
      have hq : q < Tryz.prog.cellsOf e := by rw [hC, ← hk x]; exact (List.getElem?_eq_some_iff.1 hu).1
      have := hat q hq
      rw [← Go.Deep.add_add, ← hC, this, hu]
    have : ∃ xs : List α, xs.length = len ∧ ∀ i, i < len → ok xs[i]! ∧ ∀ (q : Nat) (u : Value), (encA xs[i]!)[q]? = some u → w.cell? (a.add (i * k + q)) = some u := by
      clear hi hx hmm hlm hl hf
      induction len with
      | zero => exact ⟨[], rfl, fun i hi => absurd hi (by omega)⟩
      | succ len ih =>
        obtain ⟨xs, hxl, hxs⟩ := ih (fun i hi => each i (by omega))
        obtain ⟨x, hok, hx⟩ := each len (by omega)
        refine ⟨xs ++ [x], by simp [hxl], fun i hi => ?_⟩
        by_cases e : i = len
        · subst e
          have : (xs ++ [x])[i]! = x := by rw [getElem!_pos _ _ (by simp [hxl])]; simp [hxl]
          rw [this]
          exact ⟨hok, hx⟩
        · have : (xs ++ [x])[i]! = xs[i]! := by rw [getElem!_pos _ _ (by simp; omega), getElem!_pos xs i (by omega)]; rw [List.getElem_append_left (by omega)]
          rw [this]
          exact hxs i (by omega)
    obtain ⟨xs, rfl, hxs⟩ := this
    refine ⟨xs, ⟨some a, cap, rfl, ⟨hl, fun h => nomatch h⟩, fun hpos => ?_⟩, fun j hj => (hxs j hj).1, by omega⟩
    have h00 : 0 < (encA xs[0]!).length := by rw [hk]; exact hk0
    have hc0 := (hxs 0 hpos).2 0 _ (List.getElem?_eq_getElem h00)
    obtain ⟨b, off, spot⟩ := a
    have hspot : spot = none := by simpa [Addr.add] using World.cell?_spot hc0
    subst hspot
    have hblt : b < w.heap.size := by
      rw [Go.WideShapes.add_plain] at hc0
      exact cell_lt hc0
    refine ⟨b, off, rfl, hblt, fun j hj i u hu => ?_⟩
    have := (hxs j hj).2 i u hu
    rw [Go.WideShapes.add_plain] at this
    rw [Nat.add_assoc]
    exact this
/-- a task among the arguments -/
def okT (w : World) (t : TaskV) : Prop := t.ok ∧ SlAt 1 encI w t.sl t.after
theorem task_of {n : Nat} {cs : List Value} {y : DataW H × List MemPlace} (h : DataW.trod enc Tryz.prog w base spare held n 100 cs = some y) : ∃ t : TaskV, okT w t ∧ cs = encT t := by
  obtain ⟨hl, n', hf⟩ := structsCAt fieldsCT h
  have hC : Tryz.prog.cellsOf 100 = 7 := by kernel_rfl
  have h3 : Tryz.prog.cellsOf 3 = 1 := by kernel_rfl
  have h9 : Tryz.prog.cellsOf 9 = 1 := by kernel_rfl
  have h29 : Tryz.prog.cellsOf 98 = 1 := by kernel_rfl
  have h32 : Tryz.prog.cellsOf 80 = 2 := by kernel_rfl
  match cs, hl.trans hC with
  | [c0, c1, c2, c3, c4, c5, c6], _ =>
    obtain ⟨y0, e0⟩ := hf 0 0 9 (by kernel_rfl)
    obtain ⟨y1, e1⟩ := hf 1 1 98 (by kernel_rfl)
    obtain ⟨y2, e2⟩ := hf 2 2 3 (by kernel_rfl)
    obtain ⟨y3, e3⟩ := hf 3 3 3 (by kernel_rfl)
    obtain ⟨y4, e4⟩ := hf 4 4 3 (by kernel_rfl)
    obtain ⟨y5, e5⟩ := hf 5 5 80 (by kernel_rfl)
    rw [h9] at e0
    rw [h29] at e1
    rw [h3] at e2 e3 e4
    rw [h32] at e5
    obtain ⟨s, rfl, hs⟩ := strC_of e0
    obtain ⟨af, hS, ho, hm⟩ := openC_structs (encA := encI) (ok := okI) (k := 1) (by decide) (fun _ => rfl) Tryz.underlying98 h3 (fun n cs y h => i64C_of h) e1
    obtain ⟨a2, _, q2⟩ := i64C_of e2
    obtain ⟨a3, _, q3⟩ := i64C_of e3
    obtain ⟨a4, _, q4⟩ := i64C_of e4
    obtain ⟨a, x, hx, e⟩ := lblC_of e5
    simp [encI] at q2 q3 q4
    simp at e
    obtain ⟨rfl, rfl⟩ := e
    subst q2 q3 q4
    exact ⟨⟨s, c1, af, a2, a3, a4, a, x⟩, ⟨⟨hx, hs, hm, ho⟩, hS⟩, rfl⟩
theorem open_pipe {v : Value} {base0 : Nat} {r : Reach} {d : DataW H} {p : List MemPlace} (hv : Value.okWide Tryz.prog w r base0 46 v) (h : DataW.Trod enc Tryz.prog w base spare held 46 v d p) :
    ∃ nm vt ts, v = .agg #[.string nm, vt] ∧ nm.size ≤ maxLen ∧ TasksAt w vt ts ∧ okTs ts := by
  obtain ⟨cs, rfl, _⟩ := okWide_struct fieldsCP hv
  obtain ⟨fuel, hf⟩ := h
  obtain ⟨hl, n', hg⟩ := structsCAt fieldsCP hf
  have hC : Tryz.prog.cellsOf 46 = 2 := by kernel_rfl
  have h9 : Tryz.prog.cellsOf 9 = 1 := by kernel_rfl
  have h22 : Tryz.prog.cellsOf 44 = 1 := by kernel_rfl
  have hT : Tryz.prog.cellsOf 100 = 7 := by kernel_rfl
  obtain ⟨y0, e0⟩ := hg 0 0 9 (by kernel_rfl)
  obtain ⟨y1, e1⟩ := hg 1 1 44 (by kernel_rfl)
  have hl2 := hl.trans hC
  obtain ⟨l⟩ := cs
  simp only [Value.cells] at e0 e1 hl2
  match l, hl2 with
  | [c0, c1], _ =>
    rw [h9] at e0
    rw [h22] at e1
    obtain ⟨s, rfl, hs⟩ := strC_of e0
    obtain ⟨ts, hS, ho, hm⟩ := openC_structs (encA := encT) (ok := okT w) (k := 7) (by decide) (fun _ => rfl) Tryz.underlying44 hT (fun n cs y h => task_of h) e1
    exact ⟨s, c1, ts, rfl, hs, ⟨hS, fun j hj => (ho j hj).2⟩, hm, fun j hj => (ho j hj).1⟩
end
end Go.Proofs.YtbbcicengfmhiaaGreatDoor

/- Labels and people among the arguments, opened to lists. -/
import Derived.Test.YtbbcicengfmhiaaDoorRos5
import Derived.Test.YtbbcicengfmhiaaDoorFrame
import Derived.Deep.Slices
import Derived.Deep.Fields
namespace Go.Proofs.YtbbcicengfmhiaaDoor
set_option maxRecDepth 100000
open Go.ChangeShapes Go.WideShapes Go.ChangeAt Go.RowKit Go.Deep Go.Joins
theorem open_L {H : Type} {enc : TypeId × Value → H} {W : World} {r : Reach} {b0 base : Nat} {spare : Nat → Bool} {held : Bool} {v : Value} {d : DataW H} {p : List MemPlace}
    (hv : Value.okWide Tryd.prog W r b0 41 v) (h : DataW.Trod enc Tryd.prog W base spare held 41 v d p) : ∃ (a : Int) (x : Nat), x < 65536 ∧ v = (.agg #[.int .i64 (a), .int .u16 ((x : Nat) : Int)]) := by
  obtain ⟨v0, v1, y0, y1, n, rfl, _, _, h0, h1⟩ := open_agg2 Tryd.underlying41 (by kernel_rfl) (by kernel_rfl) hv h
  obtain ⟨a, e0, _⟩ := DataW.trod_int Tryd.underlying3 h0
  obtain ⟨b, e1, _, hw⟩ := DataW.trod_int Tryd.underlying39 h1
  simp only [List.cons.injEq, and_true] at e0 e1
  subst e0 e1
  have hb : 0 ≤ b ∧ b < 65536 := by
    simp [Lit.wf, IntKind.min, IntKind.max, IntKind.bits, IntKind.signed] at hw
    omega
  obtain ⟨x, rfl⟩ := Int.eq_ofNat_of_zero_le hb.1
  exact ⟨a, x, by omega, rfl⟩


section
variable {H : Type} {enc : TypeId × Value → H} {w : World} {base : Nat} {spare : Nat → Bool} {held : Bool}

set_option maxRecDepth 100000 in
theorem u16_of {n : Nat} {c : Value} {y : DataW H × List MemPlace} (h : DataW.trod enc Tryd.prog w base spare held n 39 [c] = some y) : ∃ x : Nat, x < 65536 ∧ c = .int .u16 (x : Int) := by
  obtain ⟨b, e1, _, hw⟩ := DataW.trod_int Tryd.underlying39 h
  simp only [List.cons.injEq, and_true] at e1
  have hb : 0 ≤ b ∧ b < 65536 := by
    simp [Lit.wf, IntKind.min, IntKind.max, IntKind.bits, IntKind.signed] at hw
    omega
  obtain ⟨x, rfl⟩ := Int.eq_ofNat_of_zero_le hb.1
  exact ⟨x, by omega, e1⟩
theorem i64_of {n : Nat} {c : Value} {y : DataW H × List MemPlace} (h : DataW.trod enc Tryd.prog w base spare held n 3 [c] = some y) : ∃ a : Int, c = .int .i64 a := by
  obtain ⟨b, e1, _, _⟩ := DataW.trod_int Tryd.underlying3 h
  simp only [List.cons.injEq, and_true] at e1
  exact ⟨b, e1⟩

theorem fieldAt {t j o ty : Nat} (h : ((Tryd.prog.fieldsOf t)[j]?).map (fun f => (f.offset, f.type)) = some (o, ty)) : ∃ f, (Tryd.prog.fieldsOf t)[j]? = some f ∧ f.offset = o ∧ f.type = ty := by
  cases hf : (Tryd.prog.fieldsOf t)[j]? with
  | none => rw [hf] at h; cases h
  | some f =>
    rw [hf] at h
    simp only [Option.map_some, Option.some.injEq, Prod.mk.injEq] at h
    exact ⟨f, rfl, h.1, h.2⟩

theorem structsAt {t : TypeId} {n : Nat} {cs : List Value} {y : DataW H × List MemPlace} (ht : Tryd.prog.underlying t = some (.struct (Tryd.prog.fieldsOf t))) (h : DataW.trod enc Tryd.prog w base spare held n t cs = some y) :
    cs.length = Tryd.prog.cellsOf t ∧ ∃ n', ∀ (j o ty : Nat), ((Tryd.prog.fieldsOf t)[j]?).map (fun f => (f.offset, f.type)) = some (o, ty) → ∃ y', DataW.trod enc Tryd.prog w base spare held n' ty ((cs.drop o).take (Tryd.prog.cellsOf ty)) = some y' := by
  obtain ⟨xs, n', _, _, hl, hlen, hg⟩ := DataW.trod_struct ht h
  refine ⟨hl, n', fun j o ty hj => ?_⟩
  obtain ⟨f, hf, rfl, rfl⟩ := fieldAt hj
  have hjl : j < (Tryd.prog.fieldsOf t).size := (Array.getElem?_eq_some_iff.1 hf).1
  exact ⟨_, (hg j f hf).trans (List.getElem?_eq_getElem (by omega))⟩

set_option maxRecDepth 100000 in
theorem lbl_of {n : Nat} {cs : List Value} {y : DataW H × List MemPlace} (h : DataW.trod enc Tryd.prog w base spare held n 41 cs = some y) : ∃ l : Lbl, l.2 < 65536 ∧ cs = encL l := by
  obtain ⟨hl, n', hf⟩ := structsAt fieldsL h
  have hC : Tryd.prog.cellsOf 41 = 2 := by kernel_rfl
  have h3 : Tryd.prog.cellsOf 3 = 1 := by kernel_rfl
  have h46 : Tryd.prog.cellsOf 39 = 1 := by kernel_rfl
  match cs, hl.trans hC with
  | [c0, c1], _ =>
    obtain ⟨y0, e0⟩ := hf 0 0 3 (by kernel_rfl)
    obtain ⟨y1, e1⟩ := hf 1 1 39 (by kernel_rfl)
    rw [h3] at e0
    rw [h46] at e1
    obtain ⟨a, rfl⟩ := i64_of e0
    obtain ⟨x, hx, rfl⟩ := u16_of e1
    exact ⟨(a, x), hx, rfl⟩

theorem fieldsP : Tryd.prog.underlying 47 = some (.struct (Tryd.prog.fieldsOf 47)) := by kernel_rfl
set_option maxRecDepth 100000 in
theorem psn_of {n : Nat} {cs : List Value} {y : DataW H × List MemPlace} (h : DataW.trod enc Tryd.prog w base spare held n 47 cs = some y) : ∃ p : Psn, p.2.2 < 65536 ∧ cs = encP p := by
  obtain ⟨hl, n', hf⟩ := structsAt fieldsP h
  have hC : Tryd.prog.cellsOf 47 = 3 := by kernel_rfl
  have h3 : Tryd.prog.cellsOf 3 = 1 := by kernel_rfl
  have h48 : Tryd.prog.cellsOf 41 = 2 := by kernel_rfl
  match cs, hl.trans hC with
  | [c0, c1, c2], _ =>
    obtain ⟨y0, e0⟩ := hf 0 0 3 (by kernel_rfl)
    obtain ⟨y1, e1⟩ := hf 1 1 41 (by kernel_rfl)
    rw [h3] at e0
    rw [h48] at e1
    obtain ⟨a, rfl⟩ := i64_of e0
    obtain ⟨l, hlx, e⟩ := lbl_of e1
    simp [encL] at e
    obtain ⟨rfl, rfl⟩ := e
    exact ⟨(a, l.1, l.2), hlx, rfl⟩

/-- a slice of structs among the arguments -/
theorem open_structs {α : Type} [Inhabited α] {k : Nat} {encA : α → List Value} (hk0 : 0 < k) (hk : ∀ x, (encA x).length = k) {ok : α → Prop} {t e : TypeId} {v : Value} {d : DataW H} {p : List MemPlace}
    (ht : Tryd.prog.underlying t = some (.slice e)) (hC : Tryd.prog.cellsOf e = k)
    (hel : ∀ (n : Nat) (cs : List Value) (y : DataW H × List MemPlace), DataW.trod enc Tryd.prog w base spare held n e cs = some y → ∃ x : α, ok x ∧ cs = encA x)
    (hc1 : v.cells.toList = [v]) (h : DataW.Trod enc Tryd.prog w base spare held t v d p) : ∃ xs : List α, SlAt k encA w v xs ∧ (∀ j, j < xs.length → ok xs[j]!) ∧ xs.length ≤ maxLen := by
  obtain ⟨fuel, hf⟩ := h
  rcases open_slice ht hf with ⟨h0, _⟩ | ⟨a, len, cap, m, n, D, Pl, hcs, hb, hl, hm, hmm, hx, hi⟩
  · rw [hc1] at h0
    simp only [List.cons.injEq, and_true] at h0
    subst h0
    exact ⟨[], SlAt.nil _ _ _, fun j hj => absurd hj (by simp), by simp⟩
  · rw [hc1] at hcs
    simp only [List.cons.injEq, and_true] at hcs
    subst hcs
    have hlm : len ≤ m := by rw [hmm]; split <;> omega
    have each : ∀ i, i < len → ∃ x : α, ok x ∧ ∀ (q : Nat) (u : Value), (encA x)[q]? = some u → w.cell? (a.add (i * k + q)) = some u := by
      intro i hi'
      obtain ⟨cs', hc, ht'⟩ := hi i (by omega)
      obtain ⟨x, hok, rfl⟩ := hel _ _ _ ht'
      refine ⟨x, hok, fun q u hu => ?_⟩
      obtain ⟨_, hcl, hat⟩ := World.cells?_some hc
      have hq : q < Tryd.prog.cellsOf e := by rw [hC, ← hk x]; exact (List.getElem?_eq_some_iff.1 hu).1
      have := hat q hq
      rw [← Go.Deep.add_add, ← hC, this, hu]
    have : ∃ xs : List α, xs.length = len ∧ ∀ i, i < len → ok xs[i]! ∧ ∀ (q : Nat) (u : Value), (encA xs[i]!)[q]? = some u → w.cell? (a.add (i * k + q)) = some u := by
      clear hi hx hmm hlm hl hf hc1
      induction len with
      | zero => exact ⟨[], rfl, fun i hi => absurd hi (by omega)⟩
      | succ len ih =>
        obtain ⟨xs, hxl, hxs⟩ := ih (fun i hi => each i (by omega))
        obtain ⟨x, hok, hx⟩ := each len (by omega)
        refine ⟨xs ++ [x], by simp [hxl], fun i hi => ?_⟩
        by_cases e : i = len
        · subst e
          have : (xs ++ [x])[i]! = x := by rw [getElem!_pos _ _ (by simp [hxl])]; simp [hxl]
          rw [this]
          exact ⟨hok, hx⟩
        · have : (xs ++ [x])[i]! = xs[i]! := by rw [getElem!_pos _ _ (by simp; omega), getElem!_pos xs i (by omega)]; rw [List.getElem_append_left (by omega)]
          rw [this]
          exact hxs i (by omega)
    obtain ⟨xs, rfl, hxs⟩ := this
    refine ⟨xs, ⟨some a, cap, rfl, ⟨hl, fun h => nomatch h⟩, fun hpos => ?_⟩, fun j hj => (hxs j hj).1, by omega⟩
    have h00 : 0 < (encA xs[0]!).length := by rw [hk]; exact hk0
    have hc0 := (hxs 0 hpos).2 0 _ (List.getElem?_eq_getElem h00)
    obtain ⟨b, off, spot⟩ := a
    have hspot : spot = none := by simpa [Addr.add] using World.cell?_spot hc0
    subst hspot
    have hblt : b < w.heap.size := by
      rw [Go.WideShapes.add_plain] at hc0
      exact cell_lt hc0
    refine ⟨b, off, rfl, hblt, fun j hj i u hu => ?_⟩
    have := (hxs j hj).2 i u hu
    rw [Go.WideShapes.add_plain] at this
    rw [Nat.add_assoc]
    exact this
end
end Go.Proofs.YtbbcicengfmhiaaDoor

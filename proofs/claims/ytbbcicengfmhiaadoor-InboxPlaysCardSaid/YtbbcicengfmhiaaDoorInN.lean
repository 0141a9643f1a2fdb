/- InboxPlays stands as the law says. Every input. -/
import Derived.Test.YtbbcicengfmhiaaDoorInY
import Derived.Deep.Slices
import Derived.Deep.Fields
namespace Go.Proofs.YtbbcicengfmhiaaDoor
set_option maxRecDepth 100000
open Go.ChangeShapes Go.WideShapes Go.ChangeAt Go.RowKit Go.Deep Go.Joins
section
variable {H : Type} {enc : TypeId × Value → H} {w : World} {base : Nat} {spare : Nat → Bool} {held : Bool}
theorem fieldAt {t j o ty : Nat} (h : ((Tryd.prog.fieldsOf t)[j]?).map (fun f => (f.offset, f.type)) = some (o, ty)) : ∃ f, (Tryd.prog.fieldsOf t)[j]? = some f ∧ f.offset = o ∧ f.type = ty := by
  cases hf : (Tryd.prog.fieldsOf t)[j]? with
  | none => rw [hf] at h; cases h
  | some f =>
    rw [hf] at h
    simp only [Option.map_some, Option.some.injEq, Prod.mk.injEq] at h
    exact ⟨f, rfl, h.1, h.2⟩
theorem structsAt {t : TypeId} {n : Nat} {cs : List Value} {y : DataW H × List MemPlace} (ht : Tryd.prog.underlying t = some (.struct (Tryd.prog.fieldsOf t))) (h : DataW.trod enc Tryd.prog w base spare held n t cs = some y) :
    cs.length = Tryd.prog.cellsOf t ∧ ∃ n', ∀ (j o ty : Nat), ((Tryd.prog.fieldsOf t)[j]?).map (fun f => (f.offset, f.type)) = some (o, ty) → ∃ y', DataW.trod enc Tryd.prog w base spare held n' ty ((cs.drop o).take (Tryd.prog.cellsOf ty)) = some y' := by
  obtain ⟨xs, n', _, _, hl, hlen, hg⟩ := DataW.trod_struct ht h
  refine ⟨hl, n', fun j o ty hj => ?_⟩
  obtain ⟨f, hf, rfl, rfl⟩ := fieldAt hj
  have hjl : j < (Tryd.prog.fieldsOf t).size := (Array.getElem?_eq_some_iff.1 hf).1
  exact ⟨_, (hg j f hf).trans (List.getElem?_eq_getElem (by omega))⟩
theorem i64_of {n : Nat} {c : Value} {y : DataW H × List MemPlace} (h : DataW.trod enc Tryd.prog w base spare held n 3 [c] = some y) : ∃ a : Int, c = .int .i64 a ∧ (-9223372036854775808 ≤ a ∧ a ≤ 9223372036854775807) := by
  obtain ⟨b, e1, _, hw⟩ := DataW.trod_int Tryd.underlying3 h
  simp only [List.cons.injEq, and_true] at e1
  simp [Lit.wf, IntKind.min, IntKind.max, IntKind.bits, IntKind.signed] at hw
  exact ⟨b, e1, by omega, by omega⟩
theorem str_of {n : Nat} {c : Value} {y : DataW H × List MemPlace} (h : DataW.trod enc Tryd.prog w base spare held n 9 [c] = some y) : ∃ s : ByteArray, c = .string s := by
  obtain ⟨s, e1, _, _⟩ := DataW.trod_string Tryd.underlying9 h
  simp only [List.cons.injEq, and_true] at e1
  exact ⟨s, e1⟩
theorem rel_of {n : Nat} {cs : List Value} {y : DataW H × List MemPlace} (h : DataW.trod enc Tryd.prog w base spare held n 75 cs = some y) : ∃ x : Rel, True ∧ cs = encR x := by
  obtain ⟨hl, n', hf⟩ := structsAt fieldsR h
  have hC : Tryd.prog.cellsOf 75 = 5 := by kernel_rfl
  have h3 : Tryd.prog.cellsOf 3 = 1 := by kernel_rfl
  have h9 : Tryd.prog.cellsOf 9 = 1 := by kernel_rfl
  match cs, hl.trans hC with
  | [c0, c1, c2, c3, c4], _ =>
    obtain ⟨y0, e0⟩ := hf 0 0 3 (by kernel_rfl)
    obtain ⟨y1, e1⟩ := hf 1 1 3 (by kernel_rfl)
    obtain ⟨y2, e2⟩ := hf 2 2 3 (by kernel_rfl)
    obtain ⟨y3, e3⟩ := hf 3 3 3 (by kernel_rfl)
    obtain ⟨y4, e4⟩ := hf 4 4 9 (by kernel_rfl)
    rw [h3] at e0 e1 e2 e3
    rw [h9] at e4
    obtain ⟨a, rfl, _⟩ := i64_of e0
    obtain ⟨b, rfl, _⟩ := i64_of e1
    obtain ⟨c, rfl, _⟩ := i64_of e2
    obtain ⟨d, rfl, _⟩ := i64_of e3
    obtain ⟨s, rfl⟩ := str_of e4
    exact ⟨(a, b, c, d, s), trivial, rfl⟩
/-- a slice of structs among the arguments -/
theorem open_structs {α : Type} [Inhabited α] {k : Nat} {encA : α → List Value} (hk0 : 0 < k) (hk : ∀ x, (encA x).length = k) {ok : α → Prop} {t e : TypeId} {v : Value} {d : DataW H} {p : List MemPlace}
    (ht : Tryd.prog.underlying t = some (.slice e)) (hC : Tryd.prog.cellsOf e = k)
    (hel : ∀ (n : Nat) (cs : List Value) (y : DataW H × List MemPlace), DataW.trod enc Tryd.prog w base spare held n e cs = some y → ∃ x : α, ok x ∧ cs = encA x)
    (hc1 : v.cells.toList = [v]) (h : DataW.Trod enc Tryd.prog w base spare held t v d p) : ∃ xs : List α, SlAt k encA w v xs ∧ (∀ j, j < xs.length → ok xs[j]!) ∧ xs.length ≤ maxLen := by
  obtain ⟨fuel, hf⟩ := h
  rcases open_slice ht hf with ⟨h0, _⟩ | ⟨a, len, cap, m, n, D, Pl, hcs, hb, hl, hm, hmm, hx, hi⟩
  · rw [hc1] at h0
    simp only [List.cons.injEq, and_true] at h0
    subst h0
    exact ⟨[], SlAt.nil _ _ _, fun j hj => absurd hj (by simp), by simp⟩
  · rw [hc1] at hcs
    simp only [List.cons.injEq, and_true] at hcs
    subst hcs
    have hlm : len ≤ m := by rw [hmm]; split <;> omega
    have each : ∀ i, i < len → ∃ x : α, ok x ∧ ∀ (q : Nat) (u : Value), (encA x)[q]? = some u → w.cell? (a.add (i * k + q)) = some u := by
      intro i hi'
      obtain ⟨cs', hc, ht'⟩ := hi i (by omega)
      obtain ⟨x, hok, rfl⟩ := hel _ _ _ ht'
      refine ⟨x, hok, fun q u hu => ?_⟩
      obtain ⟨_, hcl, hat⟩ := World.cells?_some hc
      have hq : q < Tryd.prog.cellsOf e := by rw [hC, ← hk x]; exact (List.getElem?_eq_some_iff.1 hu).1
      have := hat q hq
      rw [← Go.Deep.add_add, ← hC, this, hu]
    have : ∃ xs : List α, xs.length = len ∧ ∀ i, i < len → ok xs[i]! ∧ ∀ (q : Nat) (u : Value), (encA xs[i]!)[q]? = some u → w.cell? (a.add (i * k + q)) = some u := by
      clear hi hx hmm hlm hl hf hc1
      induction len with
      | zero => exact ⟨[], rfl, fun i hi => absurd hi (by omega)⟩
      | succ len ih =>
        obtain ⟨xs, hxl, hxs⟩ := ih (fun i hi => each i (by omega))
        obtain ⟨x, hok, hx⟩ := each len (by omega)
        refine ⟨xs ++ [x], by simp [hxl], fun i hi => ?_⟩
        by_cases e : i = len
        · subst e
          have : (xs ++ [x])[i]! = x := by rw [getElem!_pos _ _ (by simp [hxl])]; simp [hxl]
          rw [this]
          exact ⟨hok, hx⟩
        · have : (xs ++ [x])[i]! = xs[i]! := by rw [getElem!_pos _ _ (by simp; omega), getElem!_pos xs i (by omega)]; rw [List.getElem_append_left (by omega)]
          rw [this]
          exact hxs i (by omega)
    obtain ⟨xs, rfl, hxs⟩ := this
    refine ⟨xs, ⟨some a, cap, rfl, ⟨hl, fun h => nomatch h⟩, fun hpos => ?_⟩, fun j hj => (hxs j hj).1, by omega⟩
    have h00 : 0 < (encA xs[0]!).length := by rw [hk]; exact hk0
    have hc0 := (hxs 0 hpos).2 0 _ (List.getElem?_eq_getElem h00)
    obtain ⟨b, off, spot⟩ := a
    have hspot : spot = none := by simpa [Addr.add] using World.cell?_spot hc0
    subst hspot
    have hblt : b < w.heap.size := by
      rw [Go.WideShapes.add_plain] at hc0
      exact cellW_lt hc0
    refine ⟨b, off, rfl, hblt, fun j hj i u hu => ?_⟩
    have := (hxs j hj).2 i u hu
    rw [Go.WideShapes.add_plain] at this
    rw [Nat.add_assoc]
    exact this
end
theorem inboxPlays_lifted (os : Os) (started : os.Started) (H : Type) (enc : TypeId × Value → H) :
    ReturnsInHanded {} Tryd.checked os 6 .any (fun w args => (Rows.inboxPlaysSpec.pre enc Tryd.prog Tryd.f6 [] false w args ∧ laidMetH Tryd.prog laidL w) ∧ sizedMet enc Tryd.prog Tryd.f6 (OpenSpec.ofChange Rows.inboxPlaysSpec) false w args) (Rows.inboxPlaysSpec.post enc Tryd.prog Tryd.f6 false true false false) := by
  refine law_liftD started Tryd.func6 (by kernel_rfl) (by kernel_rfl) rfl (by kernel_rfl) ?_
    (ChangeSpec.witness_shaped (enc := enc) (C := Tryd.checked) (os := os) (X := fun w _ => laidMetH Tryd.prog laidL w) false (World.doorLaid Tryd.prog 79 os) #[.slice none 0 0, .int .i64 0] 8 rfl (World.shaped_of_RefB (by kernel_rfl) (by kernel_rfl)) (by kernel_rfl) (by kernel_rfl) (by kernel_rfl) (door_met os _)) ?_
  · intro ds hd
    rw [Tryd.params6] at hd
    match ds, hd with
    | [d0, d1], _ => rfl
  · intro W base args ds ps hM hval hA
    rw [Tryd.params6] at hA hval
    obtain ⟨v0, vs0, d0, ds0, p0, q0, hargs, rfl, rfl, h0, r0⟩ := trodAll_cons hA
    obtain ⟨v1, vs1, d1, ds1, p1, q1, rfl, rfl, rfl, h1, r1⟩ := trodAll_cons r0
    obtain ⟨rfl, rfl, rfl⟩ := trodAll_nil r1
    obtain rfl : args = #[v0, v1] := by cases args; simp_all
    obtain ⟨s0, n0, k0, rfl⟩ := okWide_slice Tryd.underlying71 (hval 0 71 v0 rfl rfl)
    obtain ⟨xs, hS, _, hm⟩ := open_structs (encA := encR) (ok := fun _ : Rel => True) (k := 5) (by decide) encR_len Tryd.underlying71 (by kernel_rfl) (fun n cs y h => rel_of h) rfl h0
    obtain ⟨now, rfl, _⟩ := okWide_int Tryd.underlying3 (hval 1 3 v1 rfl rfl)
    exact inboxPlays_walk _ xs now _ hS hm hM

theorem inboxPlays_row : Rows.InboxPlaysSaid :=
  OpenClaim.holds_of_wide 6 Tryd.f6 rfl rfl rfl rfl rfl rfl rfl ⟨rfl, rfl, rfl, rfl, rfl⟩ rfl rfl rfl rfl rfl (by kernel_rfl) Tryd.func6 (by kernel_rfl)
    (of_decide_eq_true (by kernel_rfl)) (by unfold Func.isWrapper; first | (rw [if_pos (by decide +kernel)]; kernel_rfl) | (rw [if_neg (by decide +kernel)]; exact ⟨rfl, rfl⟩))
    (fun os started H enc _ => inboxPlays_lifted os started H enc)
theorem inboxPlays_holds : Rows.InboxPlaysCardSaid :=
  Claim7.holds_tied_plain_at .later [] [.data, .data, .data, .sentinel, .sentinel] true (true, "64998b5a3760839ba819a9156221ec0b6c70f2118e7e78e2ee1ccec64c559da2") true
    inboxPlays_row (fun _ h => by cases h) (by kernel_rfl) (fun _ h => by cases h) inboxPlays_row_tie rfl ⟨rfl, rfl⟩ (by kernel_rfl) rfl
    (fun f fn hf hfn => by
      obtain rfl : f = 6 := Option.some.inj ((show Tryd.prog.funcNamed "lockage/lockagelaw15.InboxPlays" = some 6 by kernel_rfl).symm.trans hf) |>.symm
      obtain rfl : fn = Tryd.f6 := (Option.some.inj (Tryd.func6.symm.trans hfn)).symm
      exact ⟨by kernel_rfl, fun j t ht => by
        rw [Tryd.params6] at ht
        have hm : t ∈ [71, 3] := by simpa using Array.mem_of_getElem? ht
        have hall : ([71, 3].all fun u => !Tryd.prog.wantsStandIn u) = true := by kernel_rfl
        exact (show Tryd.prog.wantsStandIn t = false by simpa using List.all_eq_true.1 hall t hm)⟩)
    (by kernel_rfl)
end Go.Proofs.YtbbcicengfmhiaaDoor

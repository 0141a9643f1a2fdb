/- ClockPlays stands as the law says. Every input. -/
import Derived.Test.YtbbcicengfmhiaaDoorClPw
import Derived.Test.YtbbcicengfmhiaaDoorFrameC
import Derived.Deep.Slices
import Derived.Deep.Fields
namespace Go.Proofs.YtbbcicengfmhiaaDoor
set_option maxRecDepth 100000
open Go.ChangeShapes Go.WideShapes Go.ChangeAt Go.RowKit Go.Deep Go.Joins
section
variable {H : Type} {enc : TypeId × Value → H} {w : World} {base : Nat} {spare : Nat → Bool} {held : Bool}
theorem fieldAt {t j o ty : Nat} (h : ((Tryd.prog.fieldsOf t)[j]?).map (fun f => (f.offset, f.type)) = some (o, ty)) : ∃ f, (Tryd.prog.fieldsOf t)[j]? = some f ∧ f.offset = o ∧ f.type = ty := by
  cases hf : (Tryd.prog.fieldsOf t)[j]? with
  | none => rw [hf] at h; cases h
  | some f =>
    rw [hf] at h
    simp only [Option.map_some, Option.some.injEq, Prod.mk.injEq] at h
    exact ⟨f, rfl, h.1, h.2⟩
theorem structsAt {t : TypeId} {n : Nat} {cs : List Value} {y : DataW H × List MemPlace} (ht : Tryd.prog.underlying t = some (.struct (Tryd.prog.fieldsOf t))) (h : DataW.trod enc Tryd.prog w base spare held n t cs = some y) :
    cs.length = Tryd.prog.cellsOf t ∧ ∃ n', ∀ (j o ty : Nat), ((Tryd.prog.fieldsOf t)[j]?).map (fun f => (f.offset, f.type)) = some (o, ty) → ∃ y', DataW.trod enc Tryd.prog w base spare held n' ty ((cs.drop o).take (Tryd.prog.cellsOf ty)) = some y' := by
  obtain ⟨xs, n', _, _, hl, hlen, hg⟩ := DataW.trod_struct ht h
  refine ⟨hl, n', fun j o ty hj => ?_⟩
  obtain ⟨f, hf, rfl, rfl⟩ := fieldAt hj
  have hjl : j < (Tryd.prog.fieldsOf t).size := (Array.getElem?_eq_some_iff.1 hf).1
  exact ⟨_, (hg j f hf).trans (List.getElem?_eq_getElem (by omega))⟩
theorem i64_of {n : Nat} {c : Value} {y : DataW H × List MemPlace} (h : DataW.trod enc Tryd.prog w base spare held n 3 [c] = some y) : ∃ a : Int, c = .int .i64 a ∧ (-9223372036854775808 ≤ a ∧ a ≤ 9223372036854775807) := by
  obtain ⟨b, e1, _, hw⟩ := DataW.trod_int Tryd.underlying3 h
  simp only [List.cons.injEq, and_true] at e1
  simp [Lit.wf, IntKind.min, IntKind.max, IntKind.bits, IntKind.signed] at hw
  exact ⟨b, e1, by omega, by omega⟩
theorem u64_of {n : Nat} {c : Value} {y : DataW H × List MemPlace} (h : DataW.trod enc Tryd.prog w base spare held n 100 [c] = some y) : ∃ x : Nat, c = .int .u64 (x : Int) := by
  obtain ⟨b, e1, _, hw⟩ := DataW.trod_int Tryd.underlying100 h
  simp only [List.cons.injEq, and_true] at e1
  have hb : 0 ≤ b := by
    simp [Lit.wf, IntKind.min, IntKind.max, IntKind.bits, IntKind.signed] at hw
    omega
  obtain ⟨x, rfl⟩ := Int.eq_ofNat_of_zero_le hb
  exact ⟨x, e1⟩
theorem fields105 : Tryd.prog.underlying 105 = some (.struct (Tryd.prog.fieldsOf 105)) := by kernel_rfl
theorem cut_of {n : Nat} {cs : List Value} {y : DataW H × List MemPlace} (h : DataW.trod enc Tryd.prog w base spare held n 105 cs = some y) : ∃ x : Cut, (-9223372036854775808 ≤ x.1 ∧ x.1 ≤ 9223372036854775807) ∧ cs = encT x := by
  obtain ⟨hl, n', hf⟩ := structsAt fields105 h
  have hC : Tryd.prog.cellsOf 105 = 2 := by kernel_rfl
  have h3 : Tryd.prog.cellsOf 3 = 1 := by kernel_rfl
  have h100 : Tryd.prog.cellsOf 100 = 1 := by kernel_rfl
  match cs, hl.trans hC with
  | [c0, c1], _ =>
    obtain ⟨y0, e0⟩ := hf 0 0 3 (by kernel_rfl)
    obtain ⟨y1, e1⟩ := hf 1 1 100 (by kernel_rfl)
    rw [h3] at e0
    rw [h100] at e1
    obtain ⟨a, rfl, ha⟩ := i64_of e0
    obtain ⟨x, rfl⟩ := u64_of e1
    exact ⟨(a, x), ha, rfl⟩
/-- a slice of structs among the arguments -/
theorem open_structs {α : Type} [Inhabited α] {k : Nat} {encA : α → List Value} (hk0 : 0 < k) (hk : ∀ x, (encA x).length = k) {ok : α → Prop} {t e : TypeId} {v : Value} {d : DataW H} {p : List MemPlace}
    (ht : Tryd.prog.underlying t = some (.slice e)) (hC : Tryd.prog.cellsOf e = k)
    (hel : ∀ (n : Nat) (cs : List Value) (y : DataW H × List MemPlace), DataW.trod enc Tryd.prog w base spare held n e cs = some y → ∃ x : α, ok x ∧ cs = encA x)
    (hc1 : v.cells.toList = [v]) (h : DataW.Trod enc Tryd.prog w base spare held t v d p) : ∃ xs : List α, SlAt k encA w v xs ∧ (∀ j, j < xs.length → ok xs[j]!) ∧ xs.length ≤ maxLen := by
  obtain ⟨fuel, hf⟩ := h
  rcases open_slice ht hf with ⟨h0, _⟩ | ⟨a, len, cap, m, n, D, Pl, hcs, hb, hl, hm, hmm, hx, hi⟩
  · rw [hc1] at h0
    simp only [List.cons.injEq, and_true] at h0
    subst h0
    exact ⟨[], SlAt.nil _ _ _, fun j hj => absurd hj (by simp), by simp⟩
  · rw [hc1] at hcs
    simp only [List.cons.injEq, and_true] at hcs
    subst hcs
    have hlm : len ≤ m := by rw [hmm]; split <;> omega
    have each : ∀ i, i < len → ∃ x : α, ok x ∧ ∀ (q : Nat) (u : Value), (encA x)[q]? = some u → w.cell? (a.add (i * k + q)) = some u := by
      intro i hi'
      obtain ⟨cs', hc, ht'⟩ := hi i (by omega)
      obtain ⟨x, hok, rfl⟩ := hel _ _ _ ht'
      refine ⟨x, hok, fun q u hu => ?_⟩
      obtain ⟨_, hcl, hat⟩ := World.cells?_some hc
      have hq : q < Tryd.prog.cellsOf e := by rw [hC, ← hk x]; exact (List.getElem?_eq_some_iff.1 hu).1
      have := hat q hq
      rw [← Go.Deep.add_add, ← hC, this, hu]
    have : ∃ xs : List α, xs.length = len ∧ ∀ i, i < len → ok xs[i]! ∧ ∀ (q : Nat) (u : Value), (encA xs[i]!)[q]? = some u → w.cell? (a.add (i * k + q)) = some u := by
      clear hi hx hmm hlm hl hf hc1
      induction len with
      | zero => exact ⟨[], rfl, fun i hi => absurd hi (by omega)⟩
      | succ len ih =>
        obtain ⟨xs, hxl, hxs⟩ := ih (fun i hi => each i (by omega))
        obtain ⟨x, hok, hx⟩ := each len (by omega)
        refine ⟨xs ++ [x], by simp [hxl], fun i hi => ?_⟩
        by_cases e : i = len
        · subst e
          have : (xs ++ [x])[i]! = x := by rw [getElem!_pos _ _ (by simp [hxl])]; simp [hxl]
          rw [this]
          exact ⟨hok, hx⟩
        · have : (xs ++ [x])[i]! = xs[i]! := by rw [getElem!_pos _ _ (by simp; omega), getElem!_pos xs i (by omega)]; rw [List.getElem_append_left (by omega)]
          rw [this]
          exact hxs i (by omega)
    obtain ⟨xs, rfl, hxs⟩ := this
    refine ⟨xs, ⟨some a, cap, rfl, ⟨hl, fun h => nomatch h⟩, fun hpos => ?_⟩, fun j hj => (hxs j hj).1, by omega⟩
    have h00 : 0 < (encA xs[0]!).length := by rw [hk]; exact hk0
    have hc0 := (hxs 0 hpos).2 0 _ (List.getElem?_eq_getElem h00)
    obtain ⟨b, off, spot⟩ := a
    have hspot : spot = none := by simpa [Addr.add] using World.cell?_spot hc0
    subst hspot
    have hblt : b < w.heap.size := by
      rw [Go.WideShapes.add_plain] at hc0
      exact cellW_lt hc0
    refine ⟨b, off, rfl, hblt, fun j hj i u hu => ?_⟩
    have := (hxs j hj).2 i u hu
    rw [Go.WideShapes.add_plain] at this
    rw [Nat.add_assoc]
    exact this
end
theorem clockPlays_lifted (os : Os) (started : os.Started) (H : Type) (enc : TypeId × Value → H) :
    ReturnsInHanded {} Tryd.checked os 9 .any (fun w args => (Rows.clockPlaysSpec.pre enc Tryd.prog Tryd.f9 [] false w args ∧ laidMetH Tryd.prog laidC w) ∧ sizedMet enc Tryd.prog Tryd.f9 (OpenSpec.ofChange Rows.clockPlaysSpec) false w args) (Rows.clockPlaysSpec.post enc Tryd.prog Tryd.f9 false true false false) := by
  refine law_liftC started Tryd.func9 (by kernel_rfl) (by kernel_rfl) rfl (by kernel_rfl) ?_
    (ChangeSpec.witness_shaped (enc := enc) (C := Tryd.checked) (os := os) (X := fun w _ => laidMetH Tryd.prog laidC w) false (World.laidAll Tryd.prog os laidC) #[.slice none 0 0] 8 (World.laidAll_os _ _ _) (shapedC os _) (by kernel_rfl) (by kernel_rfl) (by kernel_rfl) (laid_metC os _)) ?_
  · intro ds hd
    rw [Tryd.params9] at hd
    match ds, hd with
    | [d0], _ => rfl
  · intro W base args ds ps hM hval hA
    rw [Tryd.params9] at hA hval
    obtain ⟨v0, vs0, d0, ds0, p0, q0, hargs, rfl, rfl, h0, r0⟩ := trodAll_cons hA
    obtain ⟨rfl, rfl, rfl⟩ := trodAll_nil r0
    obtain rfl : args = #[v0] := by cases args; simp_all
    obtain ⟨s0, n0, k0, rfl⟩ := okWide_slice Tryd.underlying103 (hval 0 103 v0 rfl rfl)
    obtain ⟨xs, hS, ho, hm⟩ := open_structs (encA := encT) (ok := fun x : Cut => -9223372036854775808 ≤ x.1 ∧ x.1 ≤ 9223372036854775807) (k := 2) (by decide) (fun _ => rfl) Tryd.underlying103 (by kernel_rfl) (fun n cs y h => cut_of h) rfl h0
    exact clockPlays_walk _ xs _ hS ho hm hM

theorem clockPlays_row : Rows.ClockPlaysSaid :=
  OpenClaim.holds_of_wide 9 Tryd.f9 rfl rfl rfl rfl rfl rfl rfl ⟨rfl, rfl, rfl, rfl, rfl⟩ rfl rfl rfl rfl rfl (by kernel_rfl) Tryd.func9 (by kernel_rfl)
    (of_decide_eq_true (by kernel_rfl)) (by unfold Func.isWrapper; first | (rw [if_pos (by decide +kernel)]; kernel_rfl) | (rw [if_neg (by decide +kernel)]; exact ⟨rfl, rfl⟩))
    (fun os started H enc _ => clockPlays_lifted os started H enc)
theorem clockPlays_holds : Rows.ClockPlaysCardSaid :=
  Claim7.holds_tied_plain_at .later [] [.data, .data, .data, .data, .sentinel, .sentinel, .pinned] true (true, "64998b5a3760839ba819a9156221ec0b6c70f2118e7e78e2ee1ccec64c559da2") true
    clockPlays_row (fun _ h => by cases h) (by kernel_rfl) (fun _ h => by cases h) clockPlays_row_tie rfl ⟨rfl, rfl⟩ (by kernel_rfl) rfl
    (fun f fn hf hfn => by
      obtain rfl : f = 9 := Option.some.inj ((show Tryd.prog.funcNamed "lockage/lockagelaw17.ClockPlays" = some 9 by kernel_rfl).symm.trans hf) |>.symm
      obtain rfl : fn = Tryd.f9 := (Option.some.inj (Tryd.func9.symm.trans hfn)).symm
      exact ⟨by kernel_rfl, fun j t ht => by
        rw [Tryd.params9] at ht
        have hm : t ∈ [103] := by simpa using Array.mem_of_getElem? ht
        have hall : ([103].all fun u => !Tryd.prog.wantsStandIn u) = true := by kernel_rfl
        exact (show Tryd.prog.wantsStandIn t = false by simpa using List.all_eq_true.1 hall t hm)⟩)
    (by kernel_rfl)
end Go.Proofs.YtbbcicengfmhiaaDoor

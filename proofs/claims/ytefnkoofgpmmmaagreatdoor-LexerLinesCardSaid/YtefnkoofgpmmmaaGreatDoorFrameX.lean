/- The frame of a law whose row lists eight package-level variables, one of them a handle, one pinned: its contract is paid by its walk. -/
import Derived.Test.YtefnkoofgpmmmaaGreatDoorFrameD
import Derived.Test.YtefnkoofgpmmmaaGreatDoorErr
import Derived.Lay
import Derived.LaidHandle
namespace Go.Proofs.YtefnkoofgpmmmaaGreatDoor
set_option maxRecDepth 100000
open Go.ChangeShapes Go.WideShapes Go.ChangeAt Go.RowKit

def laidX : List (String × DataW Unit) := [("math/bits.deBruijn32tab", Rows.laid_math_bits_deBruijn32tab), ("math/bits.deBruijn64tab", Rows.laid_math_bits_deBruijn64tab), ("internal/strconv.uint64pow10", Rows.laid_internal_strconv_uint64pow10), ("unicode/utf8.acceptRanges", Rows.laid_unicode_utf8_acceptRanges), ("errors.errorType", Rows.laid_errors_errorType), ("strconv.ErrRange", Rows.laid_strconv_ErrRange), ("strconv.ErrSyntax", Rows.laid_strconv_ErrSyntax), ("unicode/utf8.first", Rows.laid_unicode_utf8_first)]
def laid7 : List (String × DataW Unit) := [("math/bits.deBruijn32tab", Rows.laid_math_bits_deBruijn32tab), ("math/bits.deBruijn64tab", Rows.laid_math_bits_deBruijn64tab), ("internal/strconv.uint64pow10", Rows.laid_internal_strconv_uint64pow10), ("unicode/utf8.acceptRanges", Rows.laid_unicode_utf8_acceptRanges), ("strconv.ErrRange", Rows.laid_strconv_ErrRange), ("strconv.ErrSyntax", Rows.laid_strconv_ErrSyntax), ("unicode/utf8.first", Rows.laid_unicode_utf8_first)]
/-- a world that holds them: the handle's cell is set, all else is laid by the function -/
noncomputable def baseX (os : Os) : World := (World.holding Tryz.prog os ⟨#[], #[], []⟩).setCell ⟨0, 0, none⟩ (.iface 259 (.agg #[.pointer (some ⟨9, 25, none⟩)]))
noncomputable def worldX (os : Os) : World := (baseX os).layVars Tryz.prog laid7
theorem fitsX (os : Os) : (baseX os).layFits Tryz.prog laid7 [] = true := by kernel_rfl
theorem ifacesX (os : Os) : (baseX os).layIfaces Tryz.prog laid7 (worldX os) = true := by kernel_rfl
theorem worldX_os (os : Os) : (worldX os).os = os := World.layVars_os _ _ _
theorem laid_met7 (os : Os) (args : Array Value) : laidMet Tryz.prog laid7 ((worldX os).forCall (fun _ _ => 0) ⟨#[], args, []⟩).memory := by
  have e1 : (laid7.filter fun x => (laid7.map (·.1)).contains x.1) = laid7 := List.filter_eq_self.2 fun x hx => List.contains_iff_mem.2 (List.mem_map.2 ⟨x, hx, rfl⟩)
  have e2 : (laid7.filter fun x => !(laid7.map (·.1)).contains x.1) = [] := List.filter_eq_nil_iff.2 fun x hx => by rw [List.contains_iff_mem.2 (List.mem_map.2 ⟨x, hx, rfl⟩)]; simp
  have h : laidMet Tryz.prog laid7 (worldX os) := laidMet_layVars (w0 := baseX os) (laid7.map (·.1)) [] (by rw [e1]; rfl) (by rw [e1]; exact fitsX os) (by rw [e1]; exact ifacesX os) (by rw [e2]; exact LaidIn.none)
  exact h.of_heap (by simp [World.memory, World.forCall, Input.heap])
theorem laid_metX (os : Os) (args : Array Value) : laidMetH Tryz.prog laidX ((worldX os).forCall (fun _ _ => 0) ⟨#[], args, []⟩).memory :=
  laidMetH_of_parts3 (fuel := 8) (show laidMet Tryz.prog (laidX.filter fun x => x.2.handleName?.isNone) _ from laid_met7 os args) (by kernel_rfl) (by kernel_rfl)
theorem laid_shapedX (os : Os) (args : Array Value) : ((worldX os).forCall (fun _ _ => 0) ⟨#[], args, []⟩).Shaped Tryz.prog := World.shaped_of_ZipB (by kernel_rfl) (by kernel_rfl)
theorem splitX {W : World} (h : laidMetH Tryz.prog laidX W) : laidMet Tryz.prog laid7 W ∧ handlesMet Tryz.prog (laidX.filter fun x => x.2.handleName?.isSome) W := h
theorem Tryz.et : Tryz.prog.globalNamed "errors.errorType" = some 0 := by kernel_rfl
theorem Tryz.rt : (Tryz.prog.cutTypes.find? (·.1 == "internal/reflectlite.rtype")).map (·.2) = some 259 := by kernel_rfl
theorem Tryz.oneRow : ((List.range 407).filter fun t => Tryz.prog.rowNamed t [101, 114, 114, 111, 114]) = [25] := by kernel_rfl
theorem Tryz.tsize : Tryz.prog.types.size = 407 := by kernel_rfl
theorem metE_ofX {W : World} (h : laidMetH Tryz.prog laidX W) : MetE W := by
  obtain ⟨name, u, ty, e1, e2, e3, e4, e5⟩ := (splitX h).2 ("errors.errorType", Rows.laid_errors_errorType) (List.mem_singleton.2 rfl)
  have en : name = [101, 114, 114, 111, 114] := (Option.some.inj e1).symm
  subst en
  obtain rfl := Option.some.inj (Tryz.rt.symm.trans e2)
  have hm : ty ∈ (List.range 407).filter fun t => Tryz.prog.rowNamed t [101, 114, 114, 111, 114] := List.mem_filter.2 ⟨List.mem_range.2 (by rw [← Tryz.tsize]; exact e3), e4⟩
  rw [Tryz.oneRow] at hm
  obtain rfl := List.mem_singleton.1 hm
  have hh : typeHandle Tryz.prog 25 = .pointer (some ⟨9, 25, none⟩) := by kernel_rfl
  rw [hh] at e5
  have := World.var?_cell Tryz.et e5 0
  unfold MetE
  simpa using this
theorem met_ofX {W : World} (hsh : W.ShapedOpen Tryz.prog) (h : laidMetH Tryz.prog laidX W) : Met W := by
  have h2 := (splitX h).1.tail
  have h3 : laidMet Tryz.prog [("internal/strconv.uint64pow10", Rows.laid_internal_strconv_uint64pow10), ("unicode/utf8.acceptRanges", Rows.laid_unicode_utf8_acceptRanges), ("strconv.ErrRange", Rows.laid_strconv_ErrRange), ("strconv.ErrSyntax", Rows.laid_strconv_ErrSyntax), ("unicode/utf8.first", Rows.laid_unicode_utf8_first)] W := (splitX h).1.tail.tail
  refine ⟨?_, ?_, ?_, cell_of_shapedOpen_int (zero := #[.int .i64 0]) (t := 3) hsh (of_decide_eq_true (by kernel_rfl)) (by kernel_rfl) rfl (by kernel_rfl) (by kernel_rfl) Tryz.underlying3, ?_⟩
  · rw [pow_data] at h3
    exact Lib.tabIs_of_head gPow (t := 366) (e := 80) (n := 20) (by kernel_rfl) (by kernel_rfl) (by kernel_rfl) (by kernel_rfl) (by kernel_rfl) h3
  · obtain ⟨a, s, hv, _⟩ := laid_sentinel (g := 1) (ti := 25) (tp := 363) (te := 365) (ts := 9) h3.tail.tail.tail gSyn (by kernel_rfl) Tryz.underlying25 rowErr Tryz.underlying363 Tryz.underlying365 rfl rfl (by kernel_rfl) (by kernel_rfl) (by kernel_rfl)
    exact ⟨a, hv⟩
  · obtain ⟨a, s, hv, _⟩ := laid_sentinel (g := 2) (ti := 25) (tp := 363) (te := 365) (ts := 9) h3.tail.tail gRng (by kernel_rfl) Tryz.underlying25 rowErr Tryz.underlying363 Tryz.underlying365 rfl rfl (by kernel_rfl) (by kernel_rfl) (by kernel_rfl)
    exact ⟨a, hv⟩
  · rw [bru_data] at h2
    exact Lib.tabIs_of_head gBru (t := 374) (e := 5) (n := 64) (by kernel_rfl) (by kernel_rfl) (by kernel_rfl) (by kernel_rfl) (by kernel_rfl) h2
theorem law_liftX {os : Os} (started : os.Started) {H : Type} {enc : TypeId × Value → H} {F : FuncId} {fn : Func} {s : ChangeSpec} {conds : List PathCond} {apart fresh handsOn : Bool}
    (hF : Tryz.prog.funcs[F]? = some fn) (hinit : Tryz.prog.inits.idxOf? F = none) (hres : fn.resultTypes = #[4]) (hvars : s.vars = [])
    (hts : (fn.params.toList.all fun t => Tryz.prog.readableRec t && decide (t < Tryz.prog.types.size)) = true)
    (hspec : ∀ ds : List (DataW H), ds.length = fn.params.toList.length → s.fn H (ds ++ []) = { results := [.lit (.bool true)], args := ds })
    (wit : ∃ (w : World) (tape : Tape) (i : Input), w.os = os ∧ (w.forCall tape i).Shaped Tryz.prog ∧ i.vars = [] ∧ Input.okWide Tryz.prog (w.forCall tape i) .any w.heap.size F i ∧
      ((s.pre enc Tryz.prog fn conds apart (w.forCall tape i).memory i.args ∧ laidMetH Tryz.prog laidX (w.forCall tape i).memory) ∧ sizedMet enc Tryz.prog fn (OpenSpec.ofChange s) apart (w.forCall tape i).memory i.args) ∧ ({} : Assume).holds Tryz.prog (lone (Frame.enter Tryz.prog F i.args .normal) [] (w.forCall tape i)))
    (walk : ∀ (W : World) (base : Nat) (args : Array Value) (ds : List (DataW H)) (ps : List MemPlace), Met W ∧ MetE W →
      (∀ (j : Nat) t v, fn.params[j]? = some t → args[j]? = some v → Value.okWide Tryz.prog W .any base t v) →
      DataW.TrodAll enc Tryz.prog W 0 (fun _ => true) true fn.params.toList args.toList ds ps →
      Calls Tryz.prog F args W fun e W' => e = .returned (.bool true) ∧ Below W.heap.size W W') :
    ReturnsInHanded {} Tryz.checked os F .any (fun w args => (s.pre enc Tryz.prog fn conds apart w args ∧ laidMetH Tryz.prog laidX w) ∧ sizedMet enc Tryz.prog fn (OpenSpec.ofChange s) apart w args) (s.post enc Tryz.prog fn apart fresh handsOn false) :=
  law_liftG (Met := fun W => Met W ∧ MetE W) (fun h1 h2 => ⟨met_ofX h1 h2, metE_ofX h2⟩) started hF hinit hres hvars hts hspec wit walk
end Go.Proofs.YtefnkoofgpmmmaaGreatDoor

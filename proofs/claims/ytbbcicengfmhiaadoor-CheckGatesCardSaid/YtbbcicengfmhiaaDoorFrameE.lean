/- The frame of a law whose row lists errors.errorType alone. -/
import Derived.Test.YtbbcicengfmhiaaDoorFrameG
import Derived.Test.YtbbcicengfmhiaaDoorErr
namespace Go.Proofs.YtbbcicengfmhiaaDoor
set_option maxRecDepth 100000
open Go.ChangeShapes Go.WideShapes Go.ChangeAt Go.RowKit
def laidE : List (String × DataW Unit) := [("errors.errorType", Rows.laid_errors_errorType)]
theorem door_metE (os : Os) (args : Array Value) : laidMetH Tryd.prog laidE ((World.doorLaid Tryd.prog 79 os).forCall (fun _ _ => 0) ⟨#[], args, []⟩).memory :=
  laidMetH_of_parts (laidMet_nil _ _) (by kernel_rfl)
theorem Tryd.et : Tryd.prog.globalNamed "errors.errorType" = some 0 := by kernel_rfl
theorem Tryd.rt : (Tryd.prog.cutTypes.find? (·.1 == "internal/reflectlite.rtype")).map (·.2) = some 223 := by kernel_rfl
theorem Tryd.oneRow : ((List.range 328).filter fun t => Tryd.prog.rowNamed t [101, 114, 114, 111, 114]) = [35] := by kernel_rfl
theorem Tryd.tsize : Tryd.prog.types.size = 328 := by kernel_rfl
theorem metE_of {W : World} (h : laidMetH Tryd.prog laidE W) : MetE W := by
  have h' : laidMet Tryd.prog [] W ∧ handlesMet Tryd.prog laidE W := h
  obtain ⟨name, u, ty, e1, e2, e3, e4, e5⟩ := h'.2 _ (List.mem_singleton.2 rfl)
  have en : name = [101, 114, 114, 111, 114] := (Option.some.inj e1).symm
  subst en
  obtain rfl := Option.some.inj (Tryd.rt.symm.trans e2)
  have hm : ty ∈ (List.range 328).filter fun t => Tryd.prog.rowNamed t [101, 114, 114, 111, 114] := List.mem_filter.2 ⟨List.mem_range.2 (by rw [← Tryd.tsize]; exact e3), e4⟩
  rw [Tryd.oneRow] at hm
  obtain rfl := List.mem_singleton.1 hm
  have hh : typeHandle Tryd.prog 35 = .pointer (some ⟨9, 35, none⟩) := by kernel_rfl
  rw [hh] at e5
  have := World.var?_cell Tryd.et e5 0
  unfold MetE
  simpa using this
theorem law_liftE {os : Os} (started : os.Started) {H : Type} {enc : TypeId × Value → H} {F : FuncId} {fn : Func} {s : ChangeSpec} {conds : List PathCond} {apart fresh handsOn : Bool}
    (hF : Tryd.prog.funcs[F]? = some fn) (hinit : Tryd.prog.inits.idxOf? F = none) (hres : fn.resultTypes = #[4]) (hvars : s.vars = [])
    (hts : (fn.params.toList.all fun t => Tryd.prog.readableRec t && decide (t < Tryd.prog.types.size)) = true)
    (hspec : ∀ ds : List (DataW H), ds.length = fn.params.toList.length → s.fn H (ds ++ []) = { results := [.lit (.bool true)], args := ds })
    (wit : ∃ (w : World) (tape : Tape) (i : Input), w.os = os ∧ (w.forCall tape i).Shaped Tryd.prog ∧ i.vars = [] ∧ Input.okWide Tryd.prog (w.forCall tape i) .any w.heap.size F i ∧
      ((s.pre enc Tryd.prog fn conds apart (w.forCall tape i).memory i.args ∧ laidMetH Tryd.prog laidE (w.forCall tape i).memory) ∧ sizedMet enc Tryd.prog fn (OpenSpec.ofChange s) apart (w.forCall tape i).memory i.args) ∧ ({} : Assume).holds Tryd.prog (lone (Frame.enter Tryd.prog F i.args .normal) [] (w.forCall tape i)))
    (walk : ∀ (W : World) (base : Nat) (args : Array Value) (ds : List (DataW H)) (ps : List MemPlace), MetE W →
      (∀ (j : Nat) t v, fn.params[j]? = some t → args[j]? = some v → Value.okWide Tryd.prog W .any base t v) →
      DataW.TrodAll enc Tryd.prog W 0 (fun _ => true) true fn.params.toList args.toList ds ps →
      Calls Tryd.prog F args W fun e W' => e = .returned (.bool true) ∧ Below W.heap.size W W') :
    ReturnsInHanded {} Tryd.checked os F .any (fun w args => (s.pre enc Tryd.prog fn conds apart w args ∧ laidMetH Tryd.prog laidE w) ∧ sizedMet enc Tryd.prog fn (OpenSpec.ofChange s) apart w args) (s.post enc Tryd.prog fn apart fresh handsOn false) :=
  law_liftG (fun _ h2 => metE_of h2) started hF hinit hres hvars hts hspec wit walk
end Go.Proofs.YtbbcicengfmhiaaDoor

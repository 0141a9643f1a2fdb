/- The frame of a law whose row lists the Clock rows' seven package-level variables, one of them pinned: its contract is paid by its walk. -/
import Derived.Test.YtbbcicengfmhiaaDoorFrameD
import Derived.Lay
namespace Go.Proofs.YtbbcicengfmhiaaDoor
open Go.ChangeShapes Go.WideShapes Go.ChangeAt Go.RowKit

def laidC : List (String × DataW Unit) := [("math/bits.deBruijn32tab", Rows.laid_math_bits_deBruijn32tab), ("math/bits.deBruijn64tab", Rows.laid_math_bits_deBruijn64tab), ("internal/strconv.uint64pow10", Rows.laid_internal_strconv_uint64pow10), ("unicode/utf8.acceptRanges", Rows.laid_unicode_utf8_acceptRanges), ("strconv.ErrRange", Rows.laid_strconv_ErrRange), ("strconv.ErrSyntax", Rows.laid_strconv_ErrSyntax), ("unicode/utf8.first", Rows.laid_unicode_utf8_first)]

set_option maxRecDepth 100000 in
theorem fitsC (os : Os) : (World.holding Tryd.prog os ⟨#[], #[], []⟩).layFits Tryd.prog laidC [] = true := by kernel_rfl
set_option maxRecDepth 100000 in
theorem ifacesC (os : Os) : (World.holding Tryd.prog os ⟨#[], #[], []⟩).layIfaces Tryd.prog laidC (World.laidAll Tryd.prog os laidC) = true := by kernel_rfl
/-- The world that the function lays meets the condition. -/
theorem laid_metC (os : Os) (args : Array Value) : laidMetH Tryd.prog laidC ((World.laidAll Tryd.prog os laidC).forCall (fun _ _ => 0) ⟨#[], args, []⟩).memory := by
  rw [MakeChecks.laidMetH_plain _ _ _ (by kernel_rfl)]
  exact laidMet_laidAll _ (fitsC os) (ifacesC os)
set_option maxRecDepth 100000 in
theorem shapedC (os : Os) (args : Array Value) : ((World.laidAll Tryd.prog os laidC).forCall (fun _ _ => 0) ⟨#[], args, []⟩).Shaped Tryd.prog := World.shaped_of_ZipB (by kernel_rfl) (by kernel_rfl)

set_option maxRecDepth 100000 in
theorem met_ofC {W : World} (hsh : W.ShapedOpen Tryd.prog) (h : laidMetH Tryd.prog laidC W) : Met W := by
  rw [MakeChecks.laidMetH_plain _ _ _ (by kernel_rfl)] at h
  have h3 : laidMet Tryd.prog [("internal/strconv.uint64pow10", Rows.laid_internal_strconv_uint64pow10), ("unicode/utf8.acceptRanges", Rows.laid_unicode_utf8_acceptRanges), ("strconv.ErrRange", Rows.laid_strconv_ErrRange), ("strconv.ErrSyntax", Rows.laid_strconv_ErrSyntax), ("unicode/utf8.first", Rows.laid_unicode_utf8_first)] W := h.tail.tail
  have h2 := h.tail
  refine ⟨?_, ?_, ?_, cell_of_shapedOpen_int (zero := #[.int .i64 0]) (t := 3) hsh (of_decide_eq_true (by kernel_rfl)) (by kernel_rfl) rfl (by kernel_rfl) (by kernel_rfl) Tryd.underlying3, ?_⟩
  · rw [pow_data] at h3
    exact Lib.tabIs_of_head gPow (t := 280) (e := 100) (n := 20) (by kernel_rfl) (by kernel_rfl) (by kernel_rfl) (by kernel_rfl) (by kernel_rfl) h3
  · obtain ⟨a, s, hv, _⟩ := laid_sentinel (g := 2) (ti := 35) (tp := 286) (te := 288) (ts := 9) h3.tail.tail.tail gSyn (by kernel_rfl) Tryd.underlying35 rowErr Tryd.underlying286 Tryd.underlying288 rfl rfl (by kernel_rfl) (by kernel_rfl) (by kernel_rfl)
    exact ⟨a, hv⟩
  · obtain ⟨a, s, hv, _⟩ := laid_sentinel (g := 3) (ti := 35) (tp := 286) (te := 288) (ts := 9) h3.tail.tail gRng (by kernel_rfl) Tryd.underlying35 rowErr Tryd.underlying286 Tryd.underlying288 rfl rfl (by kernel_rfl) (by kernel_rfl) (by kernel_rfl)
    exact ⟨a, hv⟩
  · rw [bru_data] at h2
    exact Lib.tabIs_of_head gBru (t := 162) (e := 5) (n := 64) (by kernel_rfl) (by kernel_rfl) (by kernel_rfl) (by kernel_rfl) (by kernel_rfl) h2

theorem law_liftC {os : Os} (started : os.Started) {H : Type} {enc : TypeId × Value → H} {F : FuncId} {fn : Func} {s : ChangeSpec} {conds : List PathCond} {apart fresh handsOn : Bool}
    (hF : Tryd.prog.funcs[F]? = some fn) (hinit : Tryd.prog.inits.idxOf? F = none) (hres : fn.resultTypes = #[4]) (hvars : s.vars = [])
    (hts : (fn.params.toList.all fun t => Tryd.prog.readableRec t && decide (t < Tryd.prog.types.size)) = true)
    (hspec : ∀ ds : List (DataW H), ds.length = fn.params.toList.length → s.fn H (ds ++ []) = { results := [.lit (.bool true)], args := ds })
    (wit : ∃ (w : World) (tape : Tape) (i : Input), w.os = os ∧ (w.forCall tape i).Shaped Tryd.prog ∧ i.vars = [] ∧ Input.okWide Tryd.prog (w.forCall tape i) .any w.heap.size F i ∧
      ((s.pre enc Tryd.prog fn conds apart (w.forCall tape i).memory i.args ∧ laidMetH Tryd.prog laidC (w.forCall tape i).memory) ∧ sizedMet enc Tryd.prog fn (OpenSpec.ofChange s) apart (w.forCall tape i).memory i.args) ∧ ({} : Assume).holds Tryd.prog (lone (Frame.enter Tryd.prog F i.args .normal) [] (w.forCall tape i)))
    (walk : ∀ (W : World) (base : Nat) (args : Array Value) (ds : List (DataW H)) (ps : List MemPlace), Met W →
      (∀ (j : Nat) t v, fn.params[j]? = some t → args[j]? = some v → Value.okWide Tryd.prog W .any base t v) →
      DataW.TrodAll enc Tryd.prog W 0 (fun _ => true) true fn.params.toList args.toList ds ps →
      Calls Tryd.prog F args W fun e W' => e = .returned (.bool true) ∧ Below W.heap.size W W') :
    ReturnsInHanded {} Tryd.checked os F .any (fun w args => (s.pre enc Tryd.prog fn conds apart w args ∧ laidMetH Tryd.prog laidC w) ∧ sizedMet enc Tryd.prog fn (OpenSpec.ofChange s) apart w args) (s.post enc Tryd.prog fn apart fresh handsOn false) :=
  law_liftG (fun h1 h2 => met_ofC h1 h2) started hF hinit hres hvars hts hspec wit walk
end Go.Proofs.YtbbcicengfmhiaaDoor

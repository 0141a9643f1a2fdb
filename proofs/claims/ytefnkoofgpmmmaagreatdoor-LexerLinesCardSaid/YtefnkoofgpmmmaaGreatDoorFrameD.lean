/- The frame of a law whose row lists package-level variables: its contract is paid by its walk, which is told what they hold. -/
import Derived.Test.YtefnkoofgpmmmaaGreatDoorFrameG
import Derived.Test.YtefnkoofgpmmmaaGreatDoorTie
import Derived.Test.YtefnkoofgpmmmaaGreatDoorCards
import Derived.LaidMore
import Derived.Stop.Joined
import Derived.Stop.LaidErr
import Derived.Lib.LaidTab
import Derived.Lib.ItoaNum
import Derived.Lib.TrailingZeros
import Derived.WalkSmall
import Derived.SevenTiedAt
import Derived.Deep.DeepHandedRow
import Derived.Shelf.Vars
import Derived.Lay
namespace Go.Proofs.YtefnkoofgpmmmaaGreatDoor
open Go.ChangeShapes Go.WideShapes Go.ChangeAt Go.RowKit

def laidL : List (String × DataW Unit) := [("math/bits.deBruijn32tab", Rows.laid_math_bits_deBruijn32tab), ("math/bits.deBruijn64tab", Rows.laid_math_bits_deBruijn64tab), ("internal/strconv.uint64pow10", Rows.laid_internal_strconv_uint64pow10), ("strconv.ErrRange", Rows.laid_strconv_ErrRange), ("strconv.ErrSyntax", Rows.laid_strconv_ErrSyntax)]

set_option maxRecDepth 100000 in
theorem fitsL (os : Os) : (World.holding Tryz.prog os ⟨#[], #[], []⟩).layFits Tryz.prog laidL [] = true := by kernel_rfl
set_option maxRecDepth 100000 in
theorem ifacesL (os : Os) : (World.holding Tryz.prog os ⟨#[], #[], []⟩).layIfaces Tryz.prog laidL (World.laidAll Tryz.prog os laidL) = true := by kernel_rfl
/-- The world that the function lays meets the condition. -/
theorem laid_metL (os : Os) (args : Array Value) : laidMetH Tryz.prog laidL ((World.laidAll Tryz.prog os laidL).forCall (fun _ _ => 0) ⟨#[], args, []⟩).memory := by
  rw [MakeChecks.laidMetH_plain _ _ _ (by kernel_rfl)]
  exact laidMet_laidAll _ (fitsL os) (ifacesL os)
set_option maxRecDepth 100000 in
theorem shapedL (os : Os) (args : Array Value) : ((World.laidAll Tryz.prog os laidL).forCall (fun _ _ => 0) ⟨#[], args, []⟩).Shaped Tryz.prog := World.shaped_of_ZipB (by kernel_rfl) (by kernel_rfl)

theorem gPow : Tryz.prog.globalNamed "internal/strconv.uint64pow10" = some 6 := by kernel_rfl
theorem gBru : Tryz.prog.globalNamed "math/bits.deBruijn64tab" = some 8 := by kernel_rfl
theorem gSyn : Tryz.prog.globalNamed "strconv.ErrSyntax" = some 1 := by kernel_rfl
theorem gRng : Tryz.prog.globalNamed "strconv.ErrRange" = some 2 := by kernel_rfl
set_option maxRecDepth 100000 in
theorem pow_data : (Rows.laid_internal_strconv_uint64pow10 : DataW Unit) = Lib.tabData .u64 Lib.pow10Tab := by kernel_rfl
def bruTab : List Int := Lib.deBruijn64tab.map fun (n : Nat) => (n : Int)
set_option maxRecDepth 100000 in
theorem bru_data : (Rows.laid_math_bits_deBruijn64tab : DataW Unit) = Lib.tabData .u8 bruTab := by kernel_rfl
set_option maxRecDepth 100000 in
theorem rowErr : ∀ u, Tryz.prog.typeName? 3 u = some "*errors.errorString" → u = 363 :=
  typeName_ptr_named (nm := "errors.errorString") (by kernel_rfl) (by kernel_rfl) (by decide)

/-- what a walk goes by of the listed variables -/
def Met (W : World) : Prop :=
  Lib.TabIs Tryz.prog W "internal/strconv.uint64pow10" .u64 Lib.pow10Tab ∧ (∃ a, W.var? Tryz.prog "strconv.ErrSyntax" = some #[.iface 363 (.pointer (some a))]) ∧ (∃ a, W.var? Tryz.prog "strconv.ErrRange" = some #[.iface 363 (.pointer (some a))]) ∧ (∃ m, W.cell? ⟨5, 0, none⟩ = some (.int .i64 m)) ∧ Lib.TabIs Tryz.prog W "math/bits.deBruijn64tab" .u8 bruTab
theorem cellW_lt {W : World} {b o : Nat} {v : Value} (h : W.cell? ⟨b, o, none⟩ = some v) : b < W.heap.size := by
  unfold World.cell? at h
  cases hh : W.heap[b]? with
  | none => simp [hh] at h
  | some x => exact (Array.getElem?_eq_some_iff.1 hh).1
theorem var_lt {W : World} {n : String} {g : Nat} {cs : Array Value} (hg : Tryz.prog.globalNamed n = some g) (h : W.var? Tryz.prog n = some cs) : g < W.heap.size := by
  unfold World.var? at h
  rw [hg] at h
  simp only [Option.bind_some] at h
  cases hh : W.heap[g]? with
  | none => rw [hh] at h; cases h
  | some x => exact (Array.getElem?_eq_some_iff.1 hh).1
theorem Met.below {W W' : World} (h : Met W) (hb : Below W.heap.size W W') : Met W' := by
  obtain ⟨h1, ⟨a, h2⟩, ⟨b, h3⟩, ⟨m, h4⟩, h5⟩ := h
  exact ⟨var?_below hb gPow (var_lt gPow h1) h1, ⟨a, var?_below hb gSyn (var_lt gSyn h2) h2⟩, ⟨b, var?_below hb gRng (var_lt gRng h3) h3⟩, ⟨m, (hb.cell (p := ⟨5, 0, none⟩) (cellW_lt h4)).trans h4⟩, var?_below hb gBru (var_lt gBru h5) h5⟩
set_option maxRecDepth 100000 in
theorem met_of {W : World} (hsh : W.ShapedOpen Tryz.prog) (h : laidMetH Tryz.prog laidL W) : Met W := by
  rw [MakeChecks.laidMetH_plain _ _ _ (by kernel_rfl)] at h
  have h3 : laidMet Tryz.prog [("internal/strconv.uint64pow10", Rows.laid_internal_strconv_uint64pow10), ("strconv.ErrRange", Rows.laid_strconv_ErrRange), ("strconv.ErrSyntax", Rows.laid_strconv_ErrSyntax)] W := h.tail.tail
  have h2 := h.tail
  refine ⟨?_, ?_, ?_, cell_of_shapedOpen_int (zero := #[.int .i64 0]) (t := 3) hsh (of_decide_eq_true (by kernel_rfl)) (by kernel_rfl) rfl (by kernel_rfl) (by kernel_rfl) Tryz.underlying3, ?_⟩
  · rw [pow_data] at h3
    exact Lib.tabIs_of_head gPow (t := 366) (e := 80) (n := 20) (by kernel_rfl) (by kernel_rfl) (by kernel_rfl) (by kernel_rfl) (by kernel_rfl) h3
  · obtain ⟨a, s, hv, _⟩ := laid_sentinel (g := 1) (ti := 25) (tp := 363) (te := 365) (ts := 9) h3.tail.tail gSyn (by kernel_rfl) Tryz.underlying25 rowErr Tryz.underlying363 Tryz.underlying365 rfl rfl (by kernel_rfl) (by kernel_rfl) (by kernel_rfl)
    exact ⟨a, hv⟩
  · obtain ⟨a, s, hv, _⟩ := laid_sentinel (g := 2) (ti := 25) (tp := 363) (te := 365) (ts := 9) h3.tail gRng (by kernel_rfl) Tryz.underlying25 rowErr Tryz.underlying363 Tryz.underlying365 rfl rfl (by kernel_rfl) (by kernel_rfl) (by kernel_rfl)
    exact ⟨a, hv⟩
  · rw [bru_data] at h2
    exact Lib.tabIs_of_head gBru (t := 374) (e := 5) (n := 64) (by kernel_rfl) (by kernel_rfl) (by kernel_rfl) (by kernel_rfl) (by kernel_rfl) h2

theorem law_liftD {os : Os} (started : os.Started) {H : Type} {enc : TypeId × Value → H} {F : FuncId} {fn : Func} {s : ChangeSpec} {conds : List PathCond} {apart fresh handsOn : Bool}
    (hF : Tryz.prog.funcs[F]? = some fn) (hinit : Tryz.prog.inits.idxOf? F = none) (hres : fn.resultTypes = #[4]) (hvars : s.vars = [])
    (hts : (fn.params.toList.all fun t => Tryz.prog.readableRec t && decide (t < Tryz.prog.types.size)) = true)
    (hspec : ∀ ds : List (DataW H), ds.length = fn.params.toList.length → s.fn H (ds ++ []) = { results := [.lit (.bool true)], args := ds })
    (wit : ∃ (w : World) (tape : Tape) (i : Input), w.os = os ∧ (w.forCall tape i).Shaped Tryz.prog ∧ i.vars = [] ∧ Input.okWide Tryz.prog (w.forCall tape i) .any w.heap.size F i ∧
      ((s.pre enc Tryz.prog fn conds apart (w.forCall tape i).memory i.args ∧ laidMetH Tryz.prog laidL (w.forCall tape i).memory) ∧ sizedMet enc Tryz.prog fn (OpenSpec.ofChange s) apart (w.forCall tape i).memory i.args) ∧ ({} : Assume).holds Tryz.prog (lone (Frame.enter Tryz.prog F i.args .normal) [] (w.forCall tape i)))
    (walk : ∀ (W : World) (base : Nat) (args : Array Value) (ds : List (DataW H)) (ps : List MemPlace), Met W →
      (∀ (j : Nat) t v, fn.params[j]? = some t → args[j]? = some v → Value.okWide Tryz.prog W .any base t v) →
      DataW.TrodAll enc Tryz.prog W 0 (fun _ => true) true fn.params.toList args.toList ds ps →
      Calls Tryz.prog F args W fun e W' => e = .returned (.bool true) ∧ Below W.heap.size W W') :
    ReturnsInHanded {} Tryz.checked os F .any (fun w args => (s.pre enc Tryz.prog fn conds apart w args ∧ laidMetH Tryz.prog laidL w) ∧ sizedMet enc Tryz.prog fn (OpenSpec.ofChange s) apart w args) (s.post enc Tryz.prog fn apart fresh handsOn false) :=
  law_liftG (fun h1 h2 => met_of h1 h2) started hF hinit hres hvars hts hspec wit walk
end Go.Proofs.YtefnkoofgpmmmaaGreatDoor

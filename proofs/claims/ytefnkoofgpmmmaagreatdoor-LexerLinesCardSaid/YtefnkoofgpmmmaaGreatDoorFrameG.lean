/- The frame of a law whose row lists package-level variables, whichever: its contract is paid by its walk, which is told what they hold. -/
import Derived.Test.YtefnkoofgpmmmaaGreatDoorFrame
import Derived.Test.YtefnkoofgpmmmaaGreatDoorTie
import Derived.Test.YtefnkoofgpmmmaaGreatDoorCards
import Derived.LaidMore
import Derived.Stop.Joined
import Derived.Stop.LaidErr
import Derived.Lib.LaidTab
import Derived.Lib.ItoaNum
import Derived.Lib.TrailingZeros
import Derived.WalkSmall
import Derived.SevenTiedAt
import Derived.Deep.DeepHandedRow
import Derived.Shelf.Vars
import Derived.LaidHandle
namespace Go.Proofs.YtefnkoofgpmmmaaGreatDoor
open Go.ChangeShapes Go.WideShapes Go.ChangeAt Go.RowKit

set_option maxRecDepth 100000 in
/-- A law's contract out of its walk: a bool that is true, nothing turned. -/
theorem law_liftG {laidL : List (String × DataW Unit)} {Met : World → Prop} (met_of : ∀ {W : World}, W.ShapedOpen Tryz.prog → laidMetH Tryz.prog laidL W → Met W) {os : Os} (started : os.Started) {H : Type} {enc : TypeId × Value → H} {F : FuncId} {fn : Func} {s : ChangeSpec} {conds : List PathCond} {apart fresh handsOn : Bool}
    (hF : Tryz.prog.funcs[F]? = some fn) (hinit : Tryz.prog.inits.idxOf? F = none) (hres : fn.resultTypes = #[4]) (hvars : s.vars = [])
    (hts : (fn.params.toList.all fun t => Tryz.prog.readableRec t && decide (t < Tryz.prog.types.size)) = true)
    (hspec : ∀ ds : List (DataW H), ds.length = fn.params.toList.length → s.fn H (ds ++ []) = { results := [.lit (.bool true)], args := ds })
    (wit : ∃ (w : World) (tape : Tape) (i : Input), w.os = os ∧ (w.forCall tape i).Shaped Tryz.prog ∧ i.vars = [] ∧ Input.okWide Tryz.prog (w.forCall tape i) .any w.heap.size F i ∧
      ((s.pre enc Tryz.prog fn conds apart (w.forCall tape i).memory i.args ∧ laidMetH Tryz.prog laidL (w.forCall tape i).memory) ∧ sizedMet enc Tryz.prog fn (OpenSpec.ofChange s) apart (w.forCall tape i).memory i.args) ∧ ({} : Assume).holds Tryz.prog (lone (Frame.enter Tryz.prog F i.args .normal) [] (w.forCall tape i)))
    (walk : ∀ (W : World) (base : Nat) (args : Array Value) (ds : List (DataW H)) (ps : List MemPlace), Met W →
      (∀ (j : Nat) t v, fn.params[j]? = some t → args[j]? = some v → Value.okWide Tryz.prog W .any base t v) →
      DataW.TrodAll enc Tryz.prog W 0 (fun _ => true) true fn.params.toList args.toList ds ps →
      Calls Tryz.prog F args W fun e W' => e = .returned (.bool true) ∧ Below W.heap.size W W') :
    ReturnsInHanded {} Tryz.checked os F .any (fun w args => (s.pre enc Tryz.prog fn conds apart w args ∧ laidMetH Tryz.prog laidL w) ∧ sizedMet enc Tryz.prog fn (OpenSpec.ofChange s) apart w args) (s.post enc Tryz.prog fn apart fresh handsOn false) := by
  refine returnsInHanded_of_row (C := Tryz.checked) (s := OpenSpec.ofChange s) (F := fun _ _ => default) own_knob started hinit hF wit ?_
  intro W base args ds gs before hval hW hcnd _ _ hL hsh _
  have hmet := met_of hsh hL
  change Calls Tryz.prog F args W fun e W' => ∃ v, e = .returned v ∧ ChangeSpec.post enc Tryz.prog fn s apart fresh handsOn false W args v W'
  have hW : DataW.Whole enc Tryz.prog fn.params.toList s.vars apart W args.toList ds gs before := hW
  have hW' := hW
  obtain ⟨p, q, hA, hV, rfl, hfz, hnd⟩ := hW
  rw [hvars] at hV
  obtain ⟨rfl, rfl⟩ := trodVars_none hV
  have hlen : ds.length = fn.params.toList.length := by
    have : ∀ (ts : List TypeId) (vs : List Value) (ds : List (DataW H)) (ps : List MemPlace), DataW.TrodAll enc Tryz.prog W 0 (fun _ => true) true ts vs ds ps → ds.length = ts.length := by
      intro ts
      induction ts with
      | nil => intro vs ds ps h; cases vs <;> cases ds <;> simp [DataW.TrodAll] at h ⊢
      | cons t ts ih =>
        intro vs ds ps h
        obtain ⟨v, vs', d, ds', p, q, rfl, rfl, rfl, h1, h2⟩ := trodAll_cons h
        simp [ih _ _ _ h2]
    exact this _ _ _ _ hA
  refine (walk W base args ds p hmet hval hA).mono fun e W' ⟨he, hb⟩ => ?_
  subst he
  have hlt : ∀ x ∈ p, x.block < W.heap.size := fun x hx => hW'.lt x (List.mem_append_left _ hx)
  have hsp := hspec ds hlen
  refine ⟨_, rfl, post_of_below (pa := p) (pv := []) hW' ?_ ?_ ?_ (by simp) hb ?_⟩
  · intro b sp hd
    rw [hsp, hres]
    exact trodAll_cons_mk (shut_bool Tryz.underlying4 _) trodAll_mk0
  · intro sp hs
    rw [hsp]
    exact args_below laid_out hb sp hts hA hlt (fun x hx => hs x (by simpa using hx))
  · intro sp hs
    rw [hsp, hvars]
    rfl
  · intro j t r hj hr
    rw [hres] at hj hr
    match j, hj, hr with
    | 0, hj, hr =>
      obtain rfl : 4 = t := by simpa using hj
      obtain rfl : Value.bool true = r := by simpa [Value.resultList] using hr
      exact okWide_bool_mk Tryz.underlying4 _
    | j + 1, hj, _ => simp at hj
end Go.Proofs.YtefnkoofgpmmmaaGreatDoor

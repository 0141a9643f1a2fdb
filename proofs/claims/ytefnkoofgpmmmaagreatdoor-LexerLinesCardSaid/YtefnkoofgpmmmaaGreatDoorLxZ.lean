/- LexerLines: any text has the words that the document says, or is wrong where it says. Every input. -/
import Derived.Test.YtefnkoofgpmmmaaGreatDoorLxK
import Derived.Test.YtefnkoofgpmmmaaGreatDoorFrameX
namespace Go.Proofs.YtefnkoofgpmmmaaGreatDoor
set_option maxRecDepth 100000
open Go.ChangeShapes Go.WideShapes Go.ChangeAt Go.RowKit

theorem lexerLines_lifted (os : Os) (started : os.Started) (H : Type) (enc : TypeId × Value → H) :
    ReturnsInHanded {} Tryz.checked os 3 .any (fun w args => (Rows.lexerLinesSpec.pre enc Tryz.prog Tryz.f3 [] false w args ∧ laidMetH Tryz.prog laidX w) ∧ sizedMet enc Tryz.prog Tryz.f3 (OpenSpec.ofChange Rows.lexerLinesSpec) false w args) (Rows.lexerLinesSpec.post enc Tryz.prog Tryz.f3 false true false false) := by
  refine law_liftX started Tryz.func3 (by kernel_rfl) (by kernel_rfl) rfl (by kernel_rfl) ?_
    (ChangeSpec.witness_shaped (enc := enc) (C := Tryz.checked) (os := os) (X := fun w _ => laidMetH Tryz.prog laidX w) false (worldX os) #[.string ⟨#[]⟩] 8 (worldX_os os) (laid_shapedX os _) (by kernel_rfl) (by kernel_rfl) (by kernel_rfl) (laid_metX os _)) ?_
  · intro ds hd
    rw [Tryz.params3] at hd
    match ds, hd with
    | [d0], _ => rfl
  · intro W base args ds ps hM hval hA
    rw [Tryz.params3] at hA hval
    obtain ⟨v0, vs0, d0, ds0, p0, q0, hargs, rfl, rfl, h0, r0⟩ := trodAll_cons hA
    obtain ⟨rfl, rfl, rfl⟩ := trodAll_nil r0
    obtain rfl : args = #[v0] := by cases args; simp_all
    obtain ⟨s0, rfl⟩ := okWide_string Tryz.underlying9 (hval 0 9 v0 rfl rfl)
    have w0 : s0.size ≤ maxLen := by
      obtain ⟨fuel, hf⟩ := h0
      obtain ⟨s', h9, _, hs⟩ := DataW.trod_string Tryz.underlying9 hf
      simp [Value.cells] at h9
      subst h9
      exact hs
    exact lawLines s0 _ hM.1 hM.2 w0

theorem lexerLines_named : Tryz.prog.funcNamed "lockage/lockagelaw07.LexerLines" = some 3 := by kernel_rfl
theorem lexerLines_facts : joinedFacts Tryz.pinned.checked.prog 3 Tryz.f3 Rows.lexerLinesSpec Rows.lexerLinesRow = true := by kernel_rfl
theorem lexerLines_wrap : Tryz.f3.isWrapper Tryz.prog Rows.lexerLinesRow.wrapper Rows.lexerLinesRow.mainSum := by
  unfold Func.isWrapper
  first | (rw [if_pos (by decide +kernel)]; kernel_rfl) | (rw [if_neg (by decide +kernel)]; exact ⟨rfl, rfl⟩)
theorem lexerLines_row : Rows.LexerLinesSaid :=
  OpenClaim.holds_of_wide 3 Tryz.f3 rfl rfl rfl rfl rfl rfl rfl ⟨rfl, rfl, rfl, rfl, rfl⟩ rfl rfl rfl rfl rfl lexerLines_named Tryz.func3 lexerLines_facts
    (of_decide_eq_true (by kernel_rfl)) lexerLines_wrap
    (fun os started H enc _ => lexerLines_lifted os started H enc)
theorem lexerLines_holds : Rows.LexerLinesCardSaid :=
  Claim7.holds_tied_plain_at .later [] [.data, .data, .data, .data, .handle, .sentinel, .sentinel, .pinned] true (true, "bbaf67af15e3126830d2b6bda416d78b5c0fb97af6f7a2a2fcfd1c7c2c76be43") true
    lexerLines_row (fun _ h => by cases h) (by kernel_rfl) (fun _ h => by cases h) lexerLines_row_tie rfl ⟨rfl, rfl⟩ (by kernel_rfl) rfl
    (fun f fn hf hfn => by
      obtain rfl : f = 3 := Option.some.inj (lexerLines_named.symm.trans hf) |>.symm
      obtain rfl : fn = Tryz.f3 := (Option.some.inj (Tryz.func3.symm.trans hfn)).symm
      exact ⟨by kernel_rfl, fun j t ht => by
        rw [Tryz.params3] at ht
        have hm : t ∈ [9] := by simpa using Array.mem_of_getElem? ht
        have hall : ([9].all fun u => !Tryz.prog.wantsStandIn u) = true := by kernel_rfl
        exact (show Tryz.prog.wantsStandIn t = false by simpa using List.all_eq_true.1 hall t hm)⟩)
    (by kernel_rfl)
end Go.Proofs.YtefnkoofgpmmmaaGreatDoor

/- CheckGates: each gate of a pipeline that check.Check has nothing against stands as the law says. Every input. -/
import Derived.Test.YtbbcicengfmhiaaDoorChH
import Derived.Test.YtbbcicengfmhiaaDoorOpP
namespace Go.Proofs.YtbbcicengfmhiaaDoor
set_option maxRecDepth 100000
open Go.ChangeShapes Go.WideShapes Go.ChangeAt Go.RowKit Go.Deep Go.Joins

theorem checkGates_lifted (os : Os) (started : os.Started) (H : Type) (enc : TypeId × Value → H) :
    ReturnsInHanded {} Tryd.checked os 3 .any (fun w args => (Rows.checkGatesSpec.pre enc Tryd.prog Tryd.f3 [] false w args ∧ laidMetH Tryd.prog laidE w) ∧ sizedMet enc Tryd.prog Tryd.f3 (OpenSpec.ofChange Rows.checkGatesSpec) false w args) (Rows.checkGatesSpec.post enc Tryd.prog Tryd.f3 false true false false) := by
  refine law_liftE started Tryd.func3 (by kernel_rfl) (by kernel_rfl) rfl (by kernel_rfl) ?_
    (ChangeSpec.witness_shaped (enc := enc) (C := Tryd.checked) (os := os) (X := fun w _ => laidMetH Tryd.prog laidE w) false (World.doorLaid Tryd.prog 79 os) #[.agg #[.string ⟨#[]⟩, .slice none 0 0], .slice none 0 0, .slice none 0 0, .int .i64 0] 8 rfl (World.shaped_of_RefB (by kernel_rfl) (by kernel_rfl)) (by kernel_rfl) (by kernel_rfl) (by kernel_rfl) (door_metE os _)) ?_
  · intro ds hd
    rw [Tryd.params3] at hd
    match ds, hd with
    | [d0, d1, d2, d3], _ => rfl
  · intro W base args ds ps hM hval hA
    rw [Tryd.params3] at hA hval
    obtain ⟨v0, vs0, d0, ds0, p0, q0, hargs, rfl, rfl, h0, r0⟩ := trodAll_cons hA
    obtain ⟨v1, vs1, d1, ds1, p1, q1, rfl, rfl, rfl, h1, r1⟩ := trodAll_cons r0
    obtain ⟨v2, vs2, d2, ds2, p2, q2, rfl, rfl, rfl, h2, r2⟩ := trodAll_cons r1
    obtain ⟨v3, vs3, d3, ds3, p3, q3, rfl, rfl, rfl, h3, r3⟩ := trodAll_cons r2
    obtain ⟨rfl, rfl, rfl⟩ := trodAll_nil r3
    obtain rfl : args = #[v0, v1, v2, v3] := by cases args; simp_all
    obtain ⟨nm, vt, ts, rfl, hnm, hT, hok⟩ := open_pipe (hval 0 24 v0 rfl rfl) h0
    obtain ⟨s1, n1, k1, rfl⟩ := okWide_slice Tryd.underlying25 (hval 1 25 v1 rfl rfl)
    obtain ⟨s2, n2, k2, rfl⟩ := okWide_slice Tryd.underlying26 (hval 2 26 v2 rfl rfl)
    obtain ⟨ls, hL, ho, hml⟩ := open_structs (encA := encL) (ok := fun l : Lbl => l.2 < 65536) (k := 2) (by decide) (fun _ => rfl) Tryd.underlying25 (by kernel_rfl) (fun n cs y h => lbl_of h) rfl h1
    obtain ⟨ps, hP, hop, hmp⟩ := open_structs (encA := encP) (ok := fun p : Psn => p.2.2 < 65536) (k := 3) (by decide) (fun _ => rfl) Tryd.underlying26 (by kernel_rfl) (fun n cs y h => psn_of h) rfl h2
    obtain ⟨a3, rfl, _, _, w3⟩ := open_int Tryd.underlying3 (hval 3 3 v3 rfl rfl) h3
    exact checkGates_walk nm vt _ _ ts ls ps _ _ hT hok hnm hL hP hml hmp ho hop hM

theorem checkGates_row : Rows.CheckGatesSaid :=
  OpenClaim.holds_of_wide 3 Tryd.f3 rfl rfl rfl rfl rfl rfl rfl ⟨rfl, rfl, rfl, rfl, rfl⟩ rfl rfl rfl rfl rfl (by kernel_rfl) Tryd.func3 (by kernel_rfl)
    (of_decide_eq_true (by kernel_rfl)) (by unfold Func.isWrapper; first | (rw [if_pos (by decide +kernel)]; kernel_rfl) | (rw [if_neg (by decide +kernel)]; exact ⟨rfl, rfl⟩))
    (fun os started H enc _ => checkGates_lifted os started H enc)
theorem checkGates_holds : Rows.CheckGatesCardSaid :=
  Claim7.holds_tied_plain_at .later [] [.handle] true (true, "64998b5a3760839ba819a9156221ec0b6c70f2118e7e78e2ee1ccec64c559da2") true
    checkGates_row (fun _ h => by cases h) (by kernel_rfl) (fun _ h => by cases h) checkGates_row_tie rfl ⟨rfl, rfl⟩ (by kernel_rfl) rfl
    (fun f fn hf hfn => by
      obtain rfl : f = 3 := Option.some.inj ((show Tryd.prog.funcNamed "lockage/lockagelaw10.CheckGates" = some 3 by kernel_rfl).symm.trans hf) |>.symm
      obtain rfl : fn = Tryd.f3 := (Option.some.inj (Tryd.func3.symm.trans hfn)).symm
      exact ⟨by kernel_rfl, fun j t ht => by
        rw [Tryd.params3] at ht
        have hm : t ∈ [24, 25, 26, 3] := by simpa using Array.mem_of_getElem? ht
        have hall : ([24, 25, 26, 3].all fun u => !Tryd.prog.wantsStandIn u) = true := by kernel_rfl
        exact (show Tryd.prog.wantsStandIn t = false by simpa using List.all_eq_true.1 hall t hm)⟩)
    (by kernel_rfl)
end Go.Proofs.YtbbcicengfmhiaaDoor

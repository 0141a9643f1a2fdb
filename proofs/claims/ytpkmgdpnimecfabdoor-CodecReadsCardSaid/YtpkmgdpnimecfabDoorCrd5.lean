/- CodecReads: whatever the text, and in whatever order it is taken apart: what is taken, and whether something was wrong, is the document's. Every input. -/
import Derived.Test.YtpkmgdpnimecfabDoorCrd4
namespace Go.Proofs.YtpkmgdpnimecfabDoor
open Go.ChangeShapes Go.WideShapes Go.ChangeAt Go.RowKit
set_option maxRecDepth 100000 in
theorem codecReads_lifted (os : Os) (started : os.Started) (H : Type) (enc : TypeId × Value → H) :
    ReturnsInHanded {} Tryd.checked os 11 .any (fun w args => (Rows.codecReadsSpec.pre enc Tryd.prog Tryd.f11 [] false w args ∧ laidMetH Tryd.prog laidL w) ∧ sizedMet enc Tryd.prog Tryd.f11 (OpenSpec.ofChange Rows.codecReadsSpec) false w args) (Rows.codecReadsSpec.post enc Tryd.prog Tryd.f11 false true false false) := by
  refine law_liftD started Tryd.func11 (by kernel_rfl) (by kernel_rfl) rfl (by kernel_rfl) ?_
    (ChangeSpec.witness_shaped (enc := enc) (C := Tryd.checked) (os := os) (X := fun w _ => laidMetH Tryd.prog laidL w) false (World.doorLaid Tryd.prog 69 os) #[.string ⟨#[]⟩, .slice none 0 0] 8 rfl (World.shaped_of_RefB (by kernel_rfl) (by kernel_rfl)) (by kernel_rfl) (by kernel_rfl) (by kernel_rfl) (door_met os _)) ?_
  · intro ds hd
    rw [Tryd.params11] at hd
    match ds, hd with
    | [d0, d1], _ => rfl
  · intro W base args ds ps hM hval hA
    rw [Tryd.params11] at hA hval
    obtain ⟨v0, vs0, d0, ds0, p0, q0, hargs, rfl, rfl, h0, r0⟩ := trodAll_cons hA
    obtain ⟨v1, vs1, d1, ds1, p1, q1, rfl, rfl, rfl, h1, r1⟩ := trodAll_cons r0
    obtain ⟨rfl, rfl, rfl⟩ := trodAll_nil r1
    obtain rfl : args = #[v0, v1] := by cases args; simp_all
    obtain ⟨s0, rfl⟩ := okWide_string Tryd.underlying9 (hval 0 9 v0 rfl rfl)
    obtain ⟨s1, n1, k1, rfl⟩ := okWide_slice Tryd.underlying70 (hval 1 70 v1 rfl rfl)
    obtain ⟨xs, hL, hok, hml⟩ := open_structs (encA := encO) (ok := OpV.ok) (k := 7) (by decide) (fun _ => rfl) Tryd.underlying70 (by kernel_rfl) (fun n cs y h => op_of h) rfl h1
    exact codecReads_walk _ _ xs _ hL hml hM

theorem codecReads_row : Rows.CodecReadsSaid :=
  OpenClaim.holds_of_wide 11 Tryd.f11 rfl rfl rfl rfl rfl rfl rfl ⟨rfl, rfl, rfl, rfl, rfl⟩ rfl rfl rfl rfl rfl (by kernel_rfl) Tryd.func11 (by kernel_rfl)
    (of_decide_eq_true (by kernel_rfl)) (by unfold Func.isWrapper; first | (rw [if_pos (by decide +kernel)]; kernel_rfl) | (rw [if_neg (by decide +kernel)]; exact ⟨rfl, rfl⟩))
    (fun os started H enc _ => codecReads_lifted os started H enc)
theorem codecReads_holds : Rows.CodecReadsCardSaid :=
  Claim7.holds_tied_plain_at .later [] [.data, .data, .data, .sentinel, .sentinel] true (true, "cfe63c5658b6bd1a0fc7e38934e65126801f8a0fa6b3d3db120216d21a504323") true
    codecReads_row (fun _ h => by cases h) (by kernel_rfl) (fun _ h => by cases h) codecReads_row_tie rfl ⟨rfl, rfl⟩ (by kernel_rfl) rfl
    (fun f fn hf hfn => by
      obtain rfl : f = 11 := Option.some.inj ((show Tryd.prog.funcNamed "lockage/lockagelaw06.CodecReads" = some 11 by kernel_rfl).symm.trans hf) |>.symm
      obtain rfl : fn = Tryd.f11 := (Option.some.inj (Tryd.func11.symm.trans hfn)).symm
      exact ⟨by kernel_rfl, fun j t ht => by
        rw [Tryd.params11] at ht
        have hm : t ∈ [9, 70] := by simpa using Array.mem_of_getElem? ht
        have hall : ([9, 70].all fun u => !Tryd.prog.wantsStandIn u) = true := by kernel_rfl
        exact (show Tryd.prog.wantsStandIn t = false by simpa using List.all_eq_true.1 hall t hm)⟩)
    (by kernel_rfl)
end Go.Proofs.YtpkmgdpnimecfabDoor

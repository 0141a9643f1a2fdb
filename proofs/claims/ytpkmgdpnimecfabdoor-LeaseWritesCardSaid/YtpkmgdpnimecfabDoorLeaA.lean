/- LeaseWrites: a try is written as its numbers, and read as it was; numbers that are none stop the reader. Every input. -/
import Derived.Test.YtpkmgdpnimecfabDoorLea9
import Derived.Test.YtpkmgdpnimecfabDoorOpn
namespace Go.Proofs.YtpkmgdpnimecfabDoor
open Go.ChangeShapes Go.WideShapes Go.ChangeAt Go.RowKit Go.Deep Go.Joins
section
variable {H : Type} {enc : TypeId × Value → H} {w : World} {base : Nat} {spare : Nat → Bool} {held : Bool}
theorem fields84 : Tryd.prog.underlying 84 = some (.struct (Tryd.prog.fieldsOf 84)) := by kernel_rfl
set_option maxRecDepth 100000 in
theorem try_of {n : Nat} {cs : List Value} {y : DataW H × List MemPlace} (h : DataW.trod enc Tryd.prog w base spare held n 84 cs = some y) :
    ∃ s si m k l u : Int, (okI s ∧ okI si ∧ okI m ∧ okI k ∧ okI l ∧ okI u) ∧ cs = [.int .i64 s, .int .i64 si, .int .i64 m, .int .i64 k, .int .i64 l, .int .i64 u] := by
  obtain ⟨hl, n', hf⟩ := structsAt fields84 h
  have hC : Tryd.prog.cellsOf 84 = 6 := by kernel_rfl
  have h3 : Tryd.prog.cellsOf 3 = 1 := by kernel_rfl
  match cs, hl.trans hC with
  | [c0, c1, c2, c3, c4, c5], _ =>
    obtain ⟨y0, e0⟩ := hf 0 0 3 (by kernel_rfl)
    obtain ⟨y1, e1⟩ := hf 1 1 3 (by kernel_rfl)
    obtain ⟨y2, e2⟩ := hf 2 2 3 (by kernel_rfl)
    obtain ⟨y3, e3⟩ := hf 3 3 3 (by kernel_rfl)
    obtain ⟨y4, e4⟩ := hf 4 4 3 (by kernel_rfl)
    obtain ⟨y5, e5⟩ := hf 5 5 3 (by kernel_rfl)
    rw [h3] at e0 e1 e2 e3 e4 e5
    obtain ⟨a0, rfl, b0⟩ := i64_of e0
    obtain ⟨a1, rfl, b1⟩ := i64_of e1
    obtain ⟨a2, rfl, b2⟩ := i64_of e2
    obtain ⟨a3, rfl, b3⟩ := i64_of e3
    obtain ⟨a4, rfl, b4⟩ := i64_of e4
    obtain ⟨a5, rfl, b5⟩ := i64_of e5
    exact ⟨a0, a1, a2, a3, a4, a5, ⟨b0, b1, b2, b3, b4, b5⟩, rfl⟩
end
set_option maxRecDepth 100000 in
theorem leaseWrites_lifted (os : Os) (started : os.Started) (H : Type) (enc : TypeId × Value → H) :
    ReturnsInHanded {} Tryd.checked os 14 .any (fun w args => (Rows.leaseWritesSpec.pre enc Tryd.prog Tryd.f14 [] false w args ∧ laidMetH Tryd.prog laidL w) ∧ sizedMet enc Tryd.prog Tryd.f14 (OpenSpec.ofChange Rows.leaseWritesSpec) false w args) (Rows.leaseWritesSpec.post enc Tryd.prog Tryd.f14 false true false false) := by
  refine law_liftD started Tryd.func14 (by kernel_rfl) (by kernel_rfl) rfl (by kernel_rfl) ?_
    (ChangeSpec.witness_shaped (enc := enc) (C := Tryd.checked) (os := os) (X := fun w _ => laidMetH Tryd.prog laidL w) false (World.doorLaid Tryd.prog 69 os) #[.agg #[.int .i64 0, .int .i64 0, .int .i64 0, .int .i64 0, .int .i64 0, .int .i64 0], .string ⟨#[]⟩] 8 rfl (World.shaped_of_RefB (by kernel_rfl) (by kernel_rfl)) (by kernel_rfl) (by kernel_rfl) (by kernel_rfl) (door_met os _)) ?_
  · intro ds hd
    rw [Tryd.params14] at hd
    match ds, hd with
    | [d0, d1], _ => rfl
  · intro W base args ds ps hM hval hA
    rw [Tryd.params14] at hA hval
    obtain ⟨v0, vs0, d0, ds0, p0, q0, hargs, rfl, rfl, h0, r0⟩ := trodAll_cons hA
    obtain ⟨v1, vs1, d1, ds1, p1, q1, rfl, rfl, rfl, h1, r1⟩ := trodAll_cons r0
    obtain ⟨rfl, rfl, rfl⟩ := trodAll_nil r1
    obtain rfl : args = #[v0, v1] := by cases args; simp_all
    obtain ⟨cs0, rfl, n0, y0, g0⟩ := open_struct fields84 (hval 0 84 v0 rfl rfl) h0
    obtain ⟨s, si, m, k, l, u, ⟨o1, o2, o3, o4, o5, o6⟩, rfl⟩ := try_of g0
    obtain ⟨t, rfl⟩ := okWide_string Tryd.underlying9 (hval 1 9 v1 rfl rfl)
    exact leaseWrites_walk s si m k l u t _ o1 o2 o3 o4 o5 o6 hM

theorem leaseWrites_row : Rows.LeaseWritesSaid :=
  OpenClaim.holds_of_wide 14 Tryd.f14 rfl rfl rfl rfl rfl rfl rfl ⟨rfl, rfl, rfl, rfl, rfl⟩ rfl rfl rfl rfl rfl (by kernel_rfl) Tryd.func14 (by kernel_rfl)
    (of_decide_eq_true (by kernel_rfl)) (by unfold Func.isWrapper; first | (rw [if_pos (by decide +kernel)]; kernel_rfl) | (rw [if_neg (by decide +kernel)]; exact ⟨rfl, rfl⟩))
    (fun os started H enc _ => leaseWrites_lifted os started H enc)
theorem leaseWrites_holds : Rows.LeaseWritesCardSaid :=
  Claim7.holds_tied_plain_at .later [] [.data, .data, .data, .sentinel, .sentinel] true (true, "cfe63c5658b6bd1a0fc7e38934e65126801f8a0fa6b3d3db120216d21a504323") true
    leaseWrites_row (fun _ h => by cases h) (by kernel_rfl) (fun _ h => by cases h) leaseWrites_row_tie rfl ⟨rfl, rfl⟩ (by kernel_rfl) rfl
    (fun f fn hf hfn => by
      obtain rfl : f = 14 := Option.some.inj ((show Tryd.prog.funcNamed "lockage/lockagelaw11.LeaseWrites" = some 14 by kernel_rfl).symm.trans hf) |>.symm
      obtain rfl : fn = Tryd.f14 := (Option.some.inj (Tryd.func14.symm.trans hfn)).symm
      exact ⟨by kernel_rfl, fun j t ht => by
        rw [Tryd.params14] at ht
        have hm : t ∈ [84, 9] := by simpa using Array.mem_of_getElem? ht
        have hall : ([84, 9].all fun u => !Tryd.prog.wantsStandIn u) = true := by kernel_rfl
        exact (show Tryd.prog.wantsStandIn t = false by simpa using List.all_eq_true.1 hall t hm)⟩)
    (by kernel_rfl)
end Go.Proofs.YtpkmgdpnimecfabDoor

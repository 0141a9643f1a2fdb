/- RunNil: a run that is none does nothing. Every input. -/
import Derived.Test.YtbbcicengfmhiaaGreatDoorM11
import Derived.Test.YtbbcicengfmhiaaGreatDoorOpR
namespace Go.Proofs.YtbbcicengfmhiaaGreatDoor
set_option maxRecDepth 100000
open Go.ChangeShapes Go.WideShapes Go.ChangeAt Go.RowKit Go.Deep Go.Joins

theorem runSettleNil (now : Int) (w : World) : Calls Tryz.prog 21 #[.pointer none, .int .i64 now] w fun e w' => e = .returned (.tuple #[]) ∧ w = w' := by
  go_enter Tryz.func21, Tryz.ntmps21
  go_wp2
  refine bodyPost_ret (results_none rfl _ _ _) rfl ?_
  exact ⟨rfl, rfl⟩
theorem runCopyNil (w : World) : Calls Tryz.prog 25 #[.pointer none] w fun e w' => e = .returned (.pointer none) ∧ w = w' := by
  go_enter Tryz.func25, Tryz.ntmps25
  go_wp2
  go_ret
  exact ⟨rfl, rfl⟩
theorem bestNil (now : Int) (w : World) : Calls Tryz.prog 27 #[.pointer none, .int .i64 now] w fun e w' => e = .returned (.tuple #[.int .i64 (-1), .int .i64 0, .bool false]) ∧ Below w.heap.size w w' := (runBestNil now w).mono fun _ _ h => h
theorem finNil (now wk n : Int) (w : World) : Calls Tryz.prog 28 #[.pointer none, .int .i64 now, .int .i64 wk, .int .i64 n] w fun e w' => e = .returned (.tuple #[.int .i64 (-1), .bool false]) ∧ Below w.heap.size w w' := (runFinNil now wk n w).mono fun _ _ h => h
theorem run_fieldP0 (w : World) : (Instr.field 46 (.agg #[.string ⟨#[]⟩, .slice none 0 0]) 1).run Tryz.prog w = .ok (.slice none 0 0) w := by kernel_rfl
set_option maxHeartbeats 8000000 in
theorem runNil_walk (o : OpR) (w : World) (hM : Met w) : Calls Tryz.prog 6 #[.agg (encR o).toArray] w fun e w' => e = .returned (.bool true) ∧ Below w.heap.size w w' := by
  obtain ⟨k, now, a, b, c, s⟩ := o
  show Calls Tryz.prog 6 #[.agg #[.int .i64 k, .int .i64 now, .int .i64 a, .int .i64 b, .int .i64 c, .string s]] w _
  have HM := Lib.hid hM
  have HB := Lib.hid (below1 w (.cells #[.int .i64 k, .int .i64 now, .int .i64 a, .int .i64 b, .int .i64 c, .string s] 53))
  have HX := Lib.hid (BlkIs.alloc w [.int .i64 k, .int .i64 now, .int .i64 a, .int .i64 b, .int .i64 c, .string s] 53)
  clear hM
  go_enter Tryz.func6, Tryz.ntmps6
  go_upto_region 2 with fail
  generalize w.alloc (.cells #[.int .i64 k, .int .i64 now, .int .i64 a, .int .i64 b, .int .i64 c, .string s] 53) = W1 at HB HX ⊢
  generalize w.heap.size = bx at HX ⊢
  have x := HX.out
  have c1 := x.cell 1
  have c2 := x.cell 2
  have c3 := x.cell 3
  have c4 := x.cell 4
  have c5 := x.cell 5
  simp only [List.getElem?_cons_succ, List.getElem?_cons_zero] at c1 c2 c3 c4 c5
  clear x
  go_wp2_with fail
  refine (runSettleNil now W1).mono ?_
  rintro e w' ⟨rfl, rfl⟩
  go_wp2_with fail
  refine (bestNil now W1).mono ?_
  rintro e W2 ⟨rfl, hb⟩
  have HB := Lib.hid (HB.out.trans (hb.mono HB.out.size))
  have HX := Lib.hid (HX.out.below hb)
  clear hb c1 c2 c3 c4 c5
  have x := HX.out
  have c1 := x.cell 1
  have c2 := x.cell 2
  have c3 := x.cell 3
  have c4 := x.cell 4
  have c5 := x.cell 5
  simp only [List.getElem?_cons_succ, List.getElem?_cons_zero] at c1 c2 c3 c4 c5
  clear x
  go_wp2_with fail
  refine (finNil now b c W2).mono ?_
  rintro e W3 ⟨rfl, hb⟩
  have HB := Lib.hid (HB.out.trans (hb.mono HB.out.size))
  have HX := Lib.hid (HX.out.below hb)
  clear hb c1 c2 c3 c4 c5
  have x := HX.out
  have c1 := x.cell 1
  have c2 := x.cell 2
  have c3 := x.cell 3
  have c4 := x.cell 4
  have c5 := x.cell 5
  simp only [List.getElem?_cons_succ, List.getElem?_cons_zero] at c1 c2 c3 c4 c5
  clear x
  go_wp2_with fail
  refine (runVoteNil a b true W3).mono ?_
  rintro e w' ⟨rfl, rfl⟩
  go_wp2_with fail
  refine (runLetNil a now W3).mono ?_
  rintro e w' ⟨rfl, rfl⟩
  go_wp2_with fail
  refine (awake13 W3 (HM.out.below HB.out)).mono ?_
  rintro e W4 ⟨rfl, hb⟩
  have HB := Lib.hid (HB.out.trans (hb.mono HB.out.size))
  have HX := Lib.hid (HX.out.below hb)
  clear hb c1 c2 c3 c4 c5
  have x := HX.out
  have c1 := x.cell 1
  have c2 := x.cell 2
  have c3 := x.cell 3
  have c4 := x.cell 4
  have c5 := x.cell 5
  simp only [List.getElem?_cons_succ, List.getElem?_cons_zero] at c1 c2 c3 c4 c5
  clear x
  go_wp2_with fail
  refine (runTakeNil a now b c W4).mono ?_
  rintro e w' ⟨rfl, rfl⟩
  go_wp2_with fail
  refine (runCompleteNil a now s W4).mono ?_
  rintro e w' ⟨rfl, rfl⟩
  go_wp2_with fail
  refine (runMissNil a now W4).mono ?_
  rintro e w' ⟨rfl, rfl⟩
  go_wp2_with fail
  refine (runBeatNil a now W4).mono ?_
  rintro e w' ⟨rfl, rfl⟩
  go_wp2_with fail
  refine (runCancelNil W4).mono ?_
  rintro e w' ⟨rfl, rfl⟩
  go_wp2_with fail
  refine (runStatusNil W4).mono ?_
  rintro e w' ⟨rfl, rfl⟩
  go_wp2_with fail
  refine (runInputNil a W4).mono ?_
  rintro e W5 ⟨rfl, hb⟩
  have HB := Lib.hid (HB.out.trans (hb.mono HB.out.size))
  have HX := Lib.hid (HX.out.below hb)
  clear hb c1 c2 c3 c4 c5
  have x := HX.out
  have c1 := x.cell 1
  have c2 := x.cell 2
  have c3 := x.cell 3
  have c4 := x.cell 4
  have c5 := x.cell 5
  simp only [List.getElem?_cons_succ, List.getElem?_cons_zero] at c1 c2 c3 c4 c5
  clear x
  go_wp2_with fail
  refine (runStateNil a W5).mono ?_
  rintro e w' ⟨rfl, rfl⟩
  go_wp2_with fail
  refine (runCopyNil W5).mono ?_
  rintro e w' ⟨rfl, rfl⟩
  go_wp2_with fail
  refine (textNil W5).mono ?_
  rintro e W6 ⟨rfl, hb⟩
  have HB := Lib.hid (HB.out.trans (hb.mono HB.out.size))
  have HX := Lib.hid (HX.out.below hb)
  clear hb c1 c2 c3 c4 c5
  have x := HX.out
  have c1 := x.cell 1
  have c2 := x.cell 2
  have c3 := x.cell 3
  have c4 := x.cell 4
  have c5 := x.cell 5
  simp only [List.getElem?_cons_succ, List.getElem?_cons_zero] at c1 c2 c3 c4 c5
  clear x
  go_wp2_with fail
  refine (runPipeNil W6).mono ?_
  rintro e W7 ⟨rfl, hb⟩
  have HB := Lib.hid (HB.out.trans (hb.mono HB.out.size))
  have HX := Lib.hid (HX.out.below hb)
  clear hb c1 c2 c3 c4 c5
  have x := HX.out
  have c1 := x.cell 1
  have c2 := x.cell 2
  have c3 := x.cell 3
  have c4 := x.cell 4
  have c5 := x.cell 5
  simp only [List.getElem?_cons_succ, List.getElem?_cons_zero] at c1 c2 c3 c4 c5
  clear x
  have hfl := run_fieldP0
  go_wp2
  go_ret
  exact ⟨rfl, HB.out⟩

theorem runNil_lifted (os : Os) (started : os.Started) (H : Type) (enc : TypeId × Value → H) :
    ReturnsInHanded {} Tryz.checked os 6 .any (fun w args => (Rows.runNilSpec.pre enc Tryz.prog Tryz.f6 [] false w args ∧ laidMetH Tryz.prog laidL w) ∧ sizedMet enc Tryz.prog Tryz.f6 (OpenSpec.ofChange Rows.runNilSpec) false w args) (Rows.runNilSpec.post enc Tryz.prog Tryz.f6 false true false false) := by
  refine law_liftD started Tryz.func6 (by kernel_rfl) (by kernel_rfl) rfl (by kernel_rfl) ?_
    (ChangeSpec.witness_shaped (enc := enc) (C := Tryz.checked) (os := os) (X := fun w _ => laidMetH Tryz.prog laidL w) false (World.laidAll Tryz.prog os laidL) #[.agg #[.int .i64 0, .int .i64 0, .int .i64 0, .int .i64 0, .int .i64 0, .string ⟨#[]⟩]] 8 rfl (shapedL os _) (by kernel_rfl) (by kernel_rfl) (by kernel_rfl) (laid_metL os _)) ?_
  · intro ds hd
    rw [Tryz.params6] at hd
    match ds, hd with
    | [d0], _ => rfl
  · intro W base args ds ps hM hval hA
    rw [Tryz.params6] at hA hval
    obtain ⟨v0, vs0, d0, ds0, p0, q0, hargs, rfl, rfl, h0, r0⟩ := trodAll_cons hA
    obtain ⟨rfl, rfl, rfl⟩ := trodAll_nil r0
    obtain rfl : args = #[v0] := by cases args; simp_all
    obtain ⟨o, ho, rfl⟩ := open_opR (hval 0 53 v0 rfl rfl) h0
    exact runNil_walk o _ hM

theorem runNil_row : Rows.RunNilSaid :=
  OpenClaim.holds_of_wide 6 Tryz.f6 rfl rfl rfl rfl rfl rfl rfl ⟨rfl, rfl, rfl, rfl, rfl⟩ rfl rfl rfl rfl rfl (by kernel_rfl) Tryz.func6 (by kernel_rfl)
    (of_decide_eq_true (by kernel_rfl)) (by unfold Func.isWrapper; first | (rw [if_pos (by decide +kernel)]; kernel_rfl) | (rw [if_neg (by decide +kernel)]; exact ⟨rfl, rfl⟩))
    (fun os started H enc _ => runNil_lifted os started H enc)
theorem runNil_holds : Rows.RunNilCardSaid :=
  Claim7.holds_tied_plain_at .later [] [.data, .data, .data, .sentinel, .sentinel] true (true, "2f13b6cc92835c72b660c9667954f9a291f485fe2b50b279bce080c968671950") true
    runNil_row (fun _ h => by cases h) (by kernel_rfl) (fun _ h => by cases h) runNil_row_tie rfl ⟨rfl, rfl⟩ (by kernel_rfl) rfl
    (fun f fn hf hfn => by
      obtain rfl : f = 6 := Option.some.inj ((show Tryz.prog.funcNamed "lockage/lockagelaw13.RunNil" = some 6 by kernel_rfl).symm.trans hf) |>.symm
      obtain rfl : fn = Tryz.f6 := (Option.some.inj (Tryz.func6.symm.trans hfn)).symm
      exact ⟨by kernel_rfl, fun j t ht => by
        rw [Tryz.params6] at ht
        have hm : t ∈ [53] := by simpa using Array.mem_of_getElem? ht
        have hall : ([53].all fun u => !Tryz.prog.wantsStandIn u) = true := by kernel_rfl
        exact (show Tryz.prog.wantsStandIn t = false by simpa using List.all_eq_true.1 hall t hm)⟩)
    (by kernel_rfl)
end Go.Proofs.YtbbcicengfmhiaaGreatDoor

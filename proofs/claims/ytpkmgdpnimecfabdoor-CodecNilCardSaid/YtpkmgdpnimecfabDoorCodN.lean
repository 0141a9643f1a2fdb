/- CodecNil: a writer, or a reader, that is none does nothing. Every input. -/
import Derived.Test.YtpkmgdpnimecfabDoorAwk6
import Derived.Test.YtpkmgdpnimecfabDoorOpn
namespace Go.Proofs.YtpkmgdpnimecfabDoor
open Go.ChangeShapes Go.WideShapes Go.ChangeAt Go.RowKit

theorem results_cell1 {fn : Func} {p : Tmp} {ty : TypeId} (h : fn.results = #[.cell p ty]) (tmps : Array Value) (P : Program) (w : World) :
    (results fn tmps).run P w = ((asAddr (tmps.getD p undef)).run P w).andThen fun a w₁ => (loadVar ty a).run P w₁ := by
  simp only [results, h]
  simp [Sem.run_bind, Result.andThen]
theorem wIntNil (v : Value) (w : World) : Calls Tryd.prog 39 #[.pointer none, v] w fun e w' => e = .returned (.tuple #[]) ∧ w = w' := by
  go_enter Tryd.func39, Tryd.ntmps39
  go_wp2
  (try simp only [Exit.inBlock, Exit.then])
  refine bodyPost_ret (results_none rfl _ _ _) rfl ?_
  exact ⟨rfl, rfl⟩
theorem wTextNil (v : Value) (w : World) : Calls Tryd.prog 42 #[.pointer none, v] w fun e w' => e = .returned (.tuple #[]) ∧ w = w' := by
  go_enter Tryd.func42, Tryd.ntmps42
  go_wp2
  (try simp only [Exit.inBlock, Exit.then])
  refine bodyPost_ret (results_none rfl _ _ _) rfl ?_
  exact ⟨rfl, rfl⟩
theorem wLabelNil (a : Int) (x : Nat) (w : World) : Calls Tryd.prog 54 #[.pointer none, (.agg #[.int .i64 (a), .int .u16 ((x : Nat) : Int)])] w fun e w' => e = .returned (.tuple #[]) ∧ Below w.heap.size w w' := by
  go_enter Tryd.func54, Tryd.ntmps54
  go_wp2_with fail
  refine (wIntNil _ _).mono ?_
  rintro e w' ⟨rfl, rfl⟩
  go_wp2
  go_end0
  exact ⟨rfl, below2 _ _ _⟩
theorem wStringNil (w : World) : Calls Tryd.prog 40 #[.pointer none] w fun e w' => e = .returned (.string ⟨#[]⟩) ∧ w = w' := by
  go_enter Tryd.func40, Tryd.ntmps40
  go_wp2
  go_ret
  exact ⟨rfl, rfl⟩
theorem rIntNil (lo hi : Int) (w : World) : Calls Tryd.prog 44 #[.pointer none, .int .i64 lo, .int .i64 hi] w fun e w' => e = .returned (.int .i64 0) ∧ w = w' := by
  go_enter Tryd.func44, Tryd.ntmps44
  go_wp2
  go_ret
  exact ⟨rfl, rfl⟩
theorem rOkNil (w : World) : Calls Tryd.prog 47 #[.pointer none] w fun e w' => e = .returned (.bool false) ∧ w = w' := by
  go_enter Tryd.func47, Tryd.ntmps47
  go_wp2
  go_ret
  exact ⟨rfl, rfl⟩
theorem rDoneNil (w : World) : Calls Tryd.prog 46 #[.pointer none] w fun e w' => e = .returned (.bool false) ∧ w = w' := by
  go_enter Tryd.func46, Tryd.ntmps46
  go_wp2_with fail
  refine (rOkNil _).mono ?_
  rintro e w' ⟨rfl, rfl⟩
  go_wp2
  go_ret
  exact ⟨rfl, rfl⟩
theorem rTextNil (hi : Int) (w : World) : Calls Tryd.prog 45 #[.pointer none, .int .i64 hi] w fun e w' => e = .returned (.string ⟨#[]⟩) ∧ w = w' := by
  go_enter Tryd.func45, Tryd.ntmps45
  go_wp2_with fail
  refine (rIntNil _ _ _).mono ?_
  rintro e w' ⟨rfl, rfl⟩
  go_wp2_with fail
  refine (rOkNil _).mono ?_
  rintro e w' ⟨rfl, rfl⟩
  go_wp2
  go_ret
  exact ⟨rfl, rfl⟩
set_option maxRecDepth 100000 in
theorem rLabelNil (w : World) : Calls Tryd.prog 51 #[.pointer none] w fun e w' => e = .returned (.agg #[.int .i64 (0), .int .u16 ((0 : Nat) : Int)]) ∧ Below w.heap.size w w' := by
  go_enter Tryd.func51, Tryd.ntmps51
  go_wp2_with fail
  refine (rIntNil _ _ _).mono ?_
  rintro e w' ⟨rfl, rfl⟩
  go_wp2_with fail
  refine (rIntNil _ _ _).mono ?_
  rintro e w' ⟨rfl, rfl⟩
  go_wp2_with fail
  refine (rOkNil _).mono ?_
  rintro e w' ⟨rfl, rfl⟩
  go_wp2
  (try simp only [Exit.inBlock, Exit.then])
  refine bodyPost_ret (v := (.agg #[.int .i64 (0), .int .u16 ((0 : Nat) : Int)])) (by rw [results_cell1 rfl]; go_simp) rfl ⟨rfl, ?_⟩
  exact below2 _ _ _

theorem fields26' : Tryd.prog.underlying 26 = some (.struct (Tryd.prog.fieldsOf 26)) := by kernel_rfl
theorem held26 : Tryd.prog.stoodInHeld 26 = false := by kernel_rfl
theorem eqGuard26 : Tryd.prog.eqGuardType Tryd.prog.depth 26 = false := by kernel_rfl
theorem run_eqL (a a' : Int) (x x' : Nat) (w : World) : (binOp .eql 26 (.agg #[.int .i64 (a), .int .u16 ((x : Nat) : Int)]) (.agg #[.int .i64 (a'), .int .u16 ((x' : Nat) : Int)])).run Tryd.prog w = .ok (.bool (a == a' && x == x')) w := by
  have hu := Tryd.underlying3
  have ha := Tryd.isAgg3
  have hz := Tryd.sizeOf3
  have hu2 := Tryd.underlying24
  have ha2 := Tryd.isAgg24
  have hz2 := Tryd.sizeOf24
  rw [run_eql_struct, show (10000 : Nat) = 9999 + 1 from rfl, run_equalIn_agg w 9999 26 _ _ fields26' held26]
  simp only [Program.fieldsOf, Tryd.underlying26]
  go_simp
  have hx : ((x : Int) = (x' : Int)) ↔ x = x' := Int.ofNat_inj
  by_cases h1 : a = a' <;> by_cases h2 : x = x' <;> simp [h1, h2, hx]

set_option maxRecDepth 100000 in
set_option maxHeartbeats 4000000 in
theorem codecNil_walk (o : OpV) (w : World) (hM : Met w) :
    Calls Tryd.prog 13 #[.agg (encO o).toArray] w fun e w' => e = .returned (.bool true) ∧ Below w.heap.size w w' := by
  obtain ⟨k, n, lo, hi, s, lv, x⟩ := o
  show Calls Tryd.prog 13 #[.agg #[.int .i64 k, .int .i64 n, .int .i64 lo, .int .i64 hi, .string s, .int .i64 lv, .int .u16 (x : Int)]] w _
  have hE : ∀ W, (binOp .eql 26 (.agg #[.int .i64 (0), .int .u16 ((0 : Nat) : Int)]) (.agg #[.int .i64 (0), .int .u16 ((0 : Nat) : Int)])).run Tryd.prog W = .ok (.bool true) W := fun W => run_eqL 0 0 0 0 W
  have hgu := eqGuard26
  have HM := Lib.hid hM
  clear hM
  go_enter Tryd.func13, Tryd.ntmps13
  go_upto_region 3 with fail
  have HB := Lib.hid (below1 w (.cells #[.int .i64 k, .int .i64 n, .int .i64 lo, .int .i64 hi, .string s, .int .i64 lv, .int .u16 (x : Int)] 76))
  have c1 : (w.alloc (.cells #[.int .i64 k, .int .i64 n, .int .i64 lo, .int .i64 hi, .string s, .int .i64 lv, .int .u16 (x : Int)] 76)).cell? ⟨w.heap.size, 1, none⟩ = some (.int .i64 n) := by go_simp
  have c2 : (w.alloc (.cells #[.int .i64 k, .int .i64 n, .int .i64 lo, .int .i64 hi, .string s, .int .i64 lv, .int .u16 (x : Int)] 76)).cell? ⟨w.heap.size, 2, none⟩ = some (.int .i64 lo) := by go_simp
  have c3 : (w.alloc (.cells #[.int .i64 k, .int .i64 n, .int .i64 lo, .int .i64 hi, .string s, .int .i64 lv, .int .u16 (x : Int)] 76)).cell? ⟨w.heap.size, 3, none⟩ = some (.int .i64 hi) := by go_simp
  have c4 : (w.alloc (.cells #[.int .i64 k, .int .i64 n, .int .i64 lo, .int .i64 hi, .string s, .int .i64 lv, .int .u16 (x : Int)] 76)).cell? ⟨w.heap.size, 4, none⟩ = some (.string s) := by go_simp
  have c5 : (w.alloc (.cells #[.int .i64 k, .int .i64 n, .int .i64 lo, .int .i64 hi, .string s, .int .i64 lv, .int .u16 (x : Int)] 76)).cell? ⟨w.heap.size, 5, none⟩ = some (.int .i64 lv) := by go_simp
  have c6 : (w.alloc (.cells #[.int .i64 k, .int .i64 n, .int .i64 lo, .int .i64 hi, .string s, .int .i64 lv, .int .u16 (x : Int)] 76)).cell? ⟨w.heap.size, 5 + 1, none⟩ = some (.int .u16 (x : Int)) := by go_simp
  have hz : w.heap.size < (w.alloc (.cells #[.int .i64 k, .int .i64 n, .int .i64 lo, .int .i64 hi, .string s, .int .i64 lv, .int .u16 (x : Int)] 76)).heap.size := by simp
  generalize w.alloc (.cells #[.int .i64 k, .int .i64 n, .int .i64 lo, .int .i64 hi, .string s, .int .i64 lv, .int .u16 (x : Int)] 76) = W1 at HB c1 c2 c3 c4 c5 c6 hz ⊢
  generalize hb1 : w.heap.size = b1 at c1 c2 c3 c4 c5 c6 hz ⊢
  have HB1 := Lib.hid hb1
  clear hb1
  go_wp2_with fail
  refine (wIntNil _ _).mono ?_
  rintro e w' ⟨rfl, rfl⟩
  have HBa := Lib.hid (below1 W1 (.cells #[.int .i64 n] 3))
  have cs : ∀ i v, W1.cell? ⟨b1, i, none⟩ = some v → (W1.alloc (.cells #[.int .i64 n] 3)).cell? ⟨b1, i, none⟩ = some v := fun i v h => ((below1 W1 (.cells #[.int .i64 n] 3)).cell (p := ⟨b1, i, none⟩) hz).trans h
  have c2 := cs _ _ c2
  have c3 := cs _ _ c3
  have c4 := cs _ _ c4
  have c5 := cs _ _ c5
  have c6 := cs _ _ c6
  have hz' := Nat.lt_of_lt_of_le hz (below1 W1 (.cells #[.int .i64 n] 3)).size
  clear cs c1 hz
  generalize W1.alloc (.cells #[.int .i64 n] 3) = W2 at HBa c2 c3 c4 c5 c6 hz' ⊢
  go_wp2_with fail
  refine (wTextNil _ _).mono ?_
  rintro e w' ⟨rfl, rfl⟩
  have HBb := Lib.hid (below1 W2 (.cells #[.string s] 9))
  have cs : ∀ i v, W2.cell? ⟨b1, i, none⟩ = some v → (W2.alloc (.cells #[.string s] 9)).cell? ⟨b1, i, none⟩ = some v := fun i v h => ((below1 W2 (.cells #[.string s] 9)).cell (p := ⟨b1, i, none⟩) hz').trans h
  have c2 := cs _ _ c2
  have c3 := cs _ _ c3
  have c5 := cs _ _ c5
  have c6 := cs _ _ c6
  have hz := Nat.lt_of_lt_of_le hz' (below1 W2 (.cells #[.string s] 9)).size
  clear cs c4 hz'
  generalize W2.alloc (.cells #[.string s] 9) = W3 at HBb c2 c3 c5 c6 hz ⊢
  go_wp2_with fail
  refine (wLabelNil _ _ _).mono ?_
  rintro e w4 ⟨rfl, hb⟩
  have d2 := (hb.cell (p := ⟨b1, 2, none⟩) hz).trans c2
  have d3 := (hb.cell (p := ⟨b1, 3, none⟩) hz).trans c3
  have hz' := Nat.lt_of_lt_of_le hz hb.size
  have HB4 := Lib.hid (((HB.out.trans (HBa.out.mono HB.out.size)).trans (HBb.out.mono (Nat.le_trans HB.out.size HBa.out.size))).trans (hb.mono (Nat.le_trans (Nat.le_trans HB.out.size HBa.out.size) HBb.out.size)))
  clear c2 c3 c5 c6 hz hb
  go_wp2_with fail
  refine (awake06 _ (HM.out.below HB4.out)).mono ?_
  rintro e w5 ⟨rfl, hb⟩
  have c2 := (hb.cell (p := ⟨b1, 2, none⟩) hz').trans d2
  have c3 := (hb.cell (p := ⟨b1, 3, none⟩) hz').trans d3
  have hz := Nat.lt_of_lt_of_le hz' hb.size
  have HB5 := Lib.hid (HB4.out.trans (hb.mono HB4.out.size))
  clear d2 d3 hz' hb
  go_wp2_with fail
  refine (wStringNil _).mono ?_
  rintro e w' ⟨rfl, rfl⟩
  go_wp2_with fail
  refine (rIntNil _ _ _).mono ?_
  rintro e w' ⟨rfl, rfl⟩
  go_wp2_with fail
  refine (rTextNil _ _).mono ?_
  rintro e w' ⟨rfl, rfl⟩
  go_wp2_with fail
  refine (rLabelNil _).mono ?_
  rintro e w6 ⟨rfl, hb⟩
  have HB6 := Lib.hid (HB5.out.trans (hb.mono HB5.out.size))
  clear hb c2 c3 hz
  go_wp2_with fail
  refine (rOkNil _).mono ?_
  rintro e w' ⟨rfl, rfl⟩
  go_wp2_with fail
  refine (rDoneNil _).mono ?_
  rintro e w' ⟨rfl, rfl⟩
  go_wp2
  go_ret
  exact ⟨rfl, HB6.out⟩

theorem okI_of {n : Int} (h : (Lit.int .i64 n).wf = true) : okI n := by
  simp [Lit.wf, IntKind.min, IntKind.max, IntKind.bits, IntKind.signed] at h
  exact ⟨by omega, by omega⟩
set_option maxRecDepth 100000 in
theorem codecNil_lifted (os : Os) (started : os.Started) (H : Type) (enc : TypeId × Value → H) :
    ReturnsInHanded {} Tryd.checked os 13 .any (fun w args => (Rows.codecNilSpec.pre enc Tryd.prog Tryd.f13 [] false w args ∧ laidMetH Tryd.prog laidL w) ∧ sizedMet enc Tryd.prog Tryd.f13 (OpenSpec.ofChange Rows.codecNilSpec) false w args) (Rows.codecNilSpec.post enc Tryd.prog Tryd.f13 false true false false) := by
  refine law_liftD started Tryd.func13 (by kernel_rfl) (by kernel_rfl) rfl (by kernel_rfl) ?_
    (ChangeSpec.witness_shaped (enc := enc) (C := Tryd.checked) (os := os) (X := fun w _ => laidMetH Tryd.prog laidL w) false (World.doorLaid Tryd.prog 69 os) #[.agg #[.int .i64 0, .int .i64 0, .int .i64 0, .int .i64 0, .string ⟨#[]⟩, .int .i64 0, .int .u16 0]] 8 rfl (World.shaped_of_RefB (by kernel_rfl) (by kernel_rfl)) (by kernel_rfl) (by kernel_rfl) (by kernel_rfl) (door_met os _)) ?_
  · intro ds hd
    rw [Tryd.params13] at hd
    match ds, hd with
    | [d0], _ => rfl
  · intro W base args ds ps hM hval hA
    rw [Tryd.params13] at hA hval
    obtain ⟨v0, vs0, d0, ds0, p0, q0, hargs, rfl, rfl, h0, r0⟩ := trodAll_cons hA
    obtain ⟨rfl, rfl, rfl⟩ := trodAll_nil r0
    obtain rfl : args = #[v0] := by cases args; simp_all
    obtain ⟨cs, rfl, n0, y0, g0⟩ := open_struct fields76 (hval 0 76 v0 rfl rfl) h0
    obtain ⟨o, _, rfl⟩ := op_of g0
    exact codecNil_walk o _ hM

theorem codecNil_row : Rows.CodecNilSaid :=
  OpenClaim.holds_of_wide 13 Tryd.f13 rfl rfl rfl rfl rfl rfl rfl ⟨rfl, rfl, rfl, rfl, rfl⟩ rfl rfl rfl rfl rfl (by kernel_rfl) Tryd.func13 (by kernel_rfl)
    (of_decide_eq_true (by kernel_rfl)) (by unfold Func.isWrapper; first | (rw [if_pos (by decide +kernel)]; kernel_rfl) | (rw [if_neg (by decide +kernel)]; exact ⟨rfl, rfl⟩))
    (fun os started H enc _ => codecNil_lifted os started H enc)
theorem codecNil_holds : Rows.CodecNilCardSaid :=
  Claim7.holds_tied_plain_at .later [] [.data, .data, .data, .sentinel, .sentinel] true (true, "cfe63c5658b6bd1a0fc7e38934e65126801f8a0fa6b3d3db120216d21a504323") true
    codecNil_row (fun _ h => by cases h) (by kernel_rfl) (fun _ h => by cases h) codecNil_row_tie rfl ⟨rfl, rfl⟩ (by kernel_rfl) rfl
    (fun f fn hf hfn => by
      obtain rfl : f = 13 := Option.some.inj ((show Tryd.prog.funcNamed "lockage/lockagelaw06.CodecNil" = some 13 by kernel_rfl).symm.trans hf) |>.symm
      obtain rfl : fn = Tryd.f13 := (Option.some.inj (Tryd.func13.symm.trans hfn)).symm
      exact ⟨by kernel_rfl, fun j t ht => by
        rw [Tryd.params13] at ht
        have hm : t ∈ [76] := by simpa using Array.mem_of_getElem? ht
        have hall : ([76].all fun u => !Tryd.prog.wantsStandIn u) = true := by kernel_rfl
        exact (show Tryd.prog.wantsStandIn t = false by simpa using List.all_eq_true.1 hall t hm)⟩)
    (by kernel_rfl)
end Go.Proofs.YtpkmgdpnimecfabDoor

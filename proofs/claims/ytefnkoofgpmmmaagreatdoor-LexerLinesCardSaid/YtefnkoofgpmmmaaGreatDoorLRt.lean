/- Labels: which may be; when two are the same. No condition. -/
import Derived.Test.YtefnkoofgpmmmaaGreatDoorRows
import Derived.Test.YtefnkoofgpmmmaaGreatDoorBase
import Derived.WalkKit
import Derived.WalkSpells
import Derived.WalkLawsBesides
import Derived.Laws.StructEq
import Derived.Lib.Hide
namespace Go.Proofs.YtefnkoofgpmmmaaGreatDoor
open Go.RowKit
def rightLv (a : Int) : Bool := decide (0 ≤ a) && decide (a ≤ 7)
set_option maxHeartbeats 400000 in
theorem labelRight (a : Int) (x : Nat) (w : World) :
    Calls Tryz.prog 61 #[(.agg #[.int .i64 (a), .int .u16 ((x : Nat) : Int)])] w fun e w' => e = .returned (.bool (rightLv a)) ∧ Below w.heap.size w w' := by
  unfold rightLv
  go_enter Tryz.func61, Tryz.ntmps61
  cases h1 : decide (0 ≤ a) <;> cases h2 : decide (a ≤ 7)
  all_goals
    go_wp2
    go_ret
    refine ⟨?_, below1 _ _⟩
    first | rfl | (simp_all; done) | trace_state

set_option maxHeartbeats 400000 in
theorem ref01Right (a : Int) (x : Nat) (w : World) :
    Calls Tryz.prog 55 #[(.agg #[.int .i64 (a), .int .u16 ((x : Nat) : Int)])] w fun e w' => e = .returned (.bool (rightLv a)) ∧ Below w.heap.size w w' := by
  unfold rightLv
  go_enter Tryz.func55, Tryz.ntmps55
  cases h1 : decide (0 ≤ a) <;> cases h2 : decide (a ≤ 7)
  all_goals
    go_wp2
    go_ret
    refine ⟨?_, below1 _ _⟩
    first | rfl | (simp_all; done) | trace_state

theorem eqGuardL : Tryz.prog.eqGuardType Tryz.prog.depth 56 = false := by kernel_rfl
theorem fieldsL : Tryz.prog.underlying 56 = some (.struct (Tryz.prog.fieldsOf 56)) := by kernel_rfl
theorem heldL : Tryz.prog.stoodInHeld 56 = false := by kernel_rfl
theorem run_eqL (a a' : Int) (x x' : Nat) (w : World) : (binOp .eql 56 (.agg #[.int .i64 (a), .int .u16 ((x : Nat) : Int)]) (.agg #[.int .i64 (a'), .int .u16 ((x' : Nat) : Int)])).run Tryz.prog w = .ok (.bool (a == a' && x == x')) w := by
  have hu := Tryz.underlying3
  have ha := Tryz.isAgg3
  have hz := Tryz.sizeOf3
  have hu2 := Tryz.underlying54
  have ha2 := Tryz.isAgg54
  have hz2 := Tryz.sizeOf54
  rw [run_eql_struct, show (10000 : Nat) = 9999 + 1 from rfl, run_equalIn_agg w 9999 56 _ _ fieldsL heldL]
  simp only [Program.fieldsOf, Tryz.underlying56]
  go_simp
  have hx : ((x : Int) = (x' : Int)) ↔ x = x' := Int.ofNat_inj
  by_cases h1 : a = a' <;> by_cases h2 : x = x' <;> simp [h1, h2, hx]

end Go.Proofs.YtefnkoofgpmmmaaGreatDoor

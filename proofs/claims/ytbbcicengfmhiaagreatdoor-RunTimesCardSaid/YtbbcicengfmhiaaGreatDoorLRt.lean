/- Labels: which may be; when two are the same. No condition. -/
import Derived.Test.YtbbcicengfmhiaaGreatDoorRows
import Derived.Test.YtbbcicengfmhiaaGreatDoorBase
import Derived.WalkKit
import Derived.WalkSpells
import Derived.WalkLawsBesides
import Derived.Laws.StructEq
import Derived.Lib.Hide
namespace Go.Proofs.YtbbcicengfmhiaaGreatDoor
open Go.RowKit
def rightLv (a : Int) : Bool := decide (0 ≤ a) && decide (a ≤ 7)
set_option maxHeartbeats 400000 in
theorem labelRight (a : Int) (x : Nat) (w : World) :
    Calls Tryz.prog 140 #[(.agg #[.int .i64 (a), .int .u16 ((x : Nat) : Int)])] w fun e w' => e = .returned (.bool (rightLv a)) ∧ Below w.heap.size w w' := by
  unfold rightLv
  go_enter Tryz.func140, Tryz.ntmps140
  cases h1 : decide (0 ≤ a) <;> cases h2 : decide (a ≤ 7)
  all_goals
    go_wp2
    go_ret
    refine ⟨?_, below1 _ _⟩
    first | rfl | (simp_all; done) | trace_state

set_option maxHeartbeats 400000 in
theorem ref01Right (a : Int) (x : Nat) (w : World) :
    Calls Tryz.prog 97 #[(.agg #[.int .i64 (a), .int .u16 ((x : Nat) : Int)])] w fun e w' => e = .returned (.bool (rightLv a)) ∧ Below w.heap.size w w' := by
  unfold rightLv
  go_enter Tryz.func97, Tryz.ntmps97
  cases h1 : decide (0 ≤ a) <;> cases h2 : decide (a ≤ 7)
  all_goals
    go_wp2
    go_ret
    refine ⟨?_, below1 _ _⟩
    first | rfl | (simp_all; done) | trace_state

theorem eqGuardL : Tryz.prog.eqGuardType Tryz.prog.depth 80 = false := by kernel_rfl
theorem fieldsL : Tryz.prog.underlying 80 = some (.struct (Tryz.prog.fieldsOf 80)) := by kernel_rfl
theorem heldL : Tryz.prog.stoodInHeld 80 = false := by kernel_rfl
theorem run_eqL (a a' : Int) (x x' : Nat) (w : World) : (binOp .eql 80 (.agg #[.int .i64 (a), .int .u16 ((x : Nat) : Int)]) (.agg #[.int .i64 (a'), .int .u16 ((x' : Nat) : Int)])).run Tryz.prog w = .ok (.bool (a == a' && x == x')) w := by
  have hu := Tryz.underlying3
  have ha := Tryz.isAgg3
  have hz := Tryz.sizeOf3
  have hu2 := Tryz.underlying78
  have ha2 := Tryz.isAgg78
  have hz2 := Tryz.sizeOf78
  rw [run_eql_struct, show (10000 : Nat) = 9999 + 1 from rfl, run_equalIn_agg w 9999 80 _ _ fieldsL heldL]
  simp only [Program.fieldsOf, Tryz.underlying80]
  go_simp
  have hx : ((x : Int) = (x' : Int)) ↔ x = x' := Int.ofNat_inj
  by_cases h1 : a = a' <;> by_cases h2 : x = x' <;> simp [h1, h2, hx]

end Go.Proofs.YtbbcicengfmhiaaGreatDoor

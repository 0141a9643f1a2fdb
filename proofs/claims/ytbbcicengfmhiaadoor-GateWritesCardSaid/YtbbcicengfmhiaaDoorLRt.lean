/- Labels: which may be; when two are the same. No condition. -/
import Derived.Test.YtbbcicengfmhiaaDoorRows
import Derived.Test.YtbbcicengfmhiaaDoorBase
import Derived.WalkKit
import Derived.WalkSpells
import Derived.WalkLawsBesides
import Derived.Laws.StructEq
import Derived.Lib.Hide
namespace Go.Proofs.YtbbcicengfmhiaaDoor
open Go.RowKit
def rightLv (a : Int) : Bool := decide (0 ≤ a) && decide (a ≤ 7)
set_option maxHeartbeats 400000 in
theorem labelRight (a : Int) (x : Nat) (w : World) :
    Calls Tryd.prog 60 #[(.agg #[.int .i64 (a), .int .u16 ((x : Nat) : Int)])] w fun e w' => e = .returned (.bool (rightLv a)) ∧ Below w.heap.size w w' := by
  unfold rightLv
  go_enter Tryd.func60, Tryd.ntmps60
  cases h1 : decide (0 ≤ a) <;> cases h2 : decide (a ≤ 7)
  all_goals
    go_wp2
    go_ret
    refine ⟨?_, below1 _ _⟩
    first | rfl | (simp_all; done) | trace_state

set_option maxHeartbeats 400000 in
theorem ref01Right (a : Int) (x : Nat) (w : World) :
    Calls Tryd.prog 58 #[(.agg #[.int .i64 (a), .int .u16 ((x : Nat) : Int)])] w fun e w' => e = .returned (.bool (rightLv a)) ∧ Below w.heap.size w w' := by
  unfold rightLv
  go_enter Tryd.func58, Tryd.ntmps58
  cases h1 : decide (0 ≤ a) <;> cases h2 : decide (a ≤ 7)
  all_goals
    go_wp2
    go_ret
    refine ⟨?_, below1 _ _⟩
    first | rfl | (simp_all; done) | trace_state

theorem eqGuardL : Tryd.prog.eqGuardType Tryd.prog.depth 41 = false := by kernel_rfl
theorem fieldsL : Tryd.prog.underlying 41 = some (.struct (Tryd.prog.fieldsOf 41)) := by kernel_rfl
theorem heldL : Tryd.prog.stoodInHeld 41 = false := by kernel_rfl
theorem run_eqL (a a' : Int) (x x' : Nat) (w : World) : (binOp .eql 41 (.agg #[.int .i64 (a), .int .u16 ((x : Nat) : Int)]) (.agg #[.int .i64 (a'), .int .u16 ((x' : Nat) : Int)])).run Tryd.prog w = .ok (.bool (a == a' && x == x')) w := by
  have hu := Tryd.underlying3
  have ha := Tryd.isAgg3
  have hz := Tryd.sizeOf3
  have hu2 := Tryd.underlying39
  have ha2 := Tryd.isAgg39
  have hz2 := Tryd.sizeOf39
  rw [run_eql_struct, show (10000 : Nat) = 9999 + 1 from rfl, run_equalIn_agg w 9999 41 _ _ fieldsL heldL]
  simp only [Program.fieldsOf, Tryd.underlying41]
  go_simp
  have hx : ((x : Int) = (x' : Int)) ↔ x = x' := Int.ofNat_inj
  by_cases h1 : a = a' <;> by_cases h2 : x = x' <;> simp [h1, h2, hx]

end Go.Proofs.YtbbcicengfmhiaaDoor

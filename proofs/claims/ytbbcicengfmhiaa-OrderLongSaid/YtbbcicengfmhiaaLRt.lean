/- Labels: which may be; when two are the same. No condition. -/
import Derived.Test.YtbbcicengfmhiaaRows
import Derived.Test.YtbbcicengfmhiaaBase
import Derived.WalkKit
import Derived.WalkSpells
import Derived.WalkLawsBesides
import Derived.Laws.StructEq
import Derived.Lib.Hide
namespace Go.Proofs.Ytbbcicengfmhiaa
open Go.RowKit
def rightLv (a : Int) : Bool := decide (0 ≤ a) && decide (a ≤ 7)
set_option maxHeartbeats 400000 in
theorem labelRight (a : Int) (x : Nat) (w : World) :
    Calls Try.prog 31 #[(.agg #[.int .i64 (a), .int .u16 ((x : Nat) : Int)])] w fun e w' => e = .returned (.bool (rightLv a)) ∧ Below w.heap.size w w' := by
  unfold rightLv
  go_enter Try.func31, Try.ntmps31
  cases h1 : decide (0 ≤ a) <;> cases h2 : decide (a ≤ 7)
  all_goals
    go_wp2
    go_ret
    refine ⟨?_, below1 _ _⟩
    first | rfl | (simp_all; done) | trace_state

set_option maxHeartbeats 400000 in
theorem ref01Right (a : Int) (x : Nat) (w : World) :
    Calls Try.prog 15 #[(.agg #[.int .i64 (a), .int .u16 ((x : Nat) : Int)])] w fun e w' => e = .returned (.bool (rightLv a)) ∧ Below w.heap.size w w' := by
  unfold rightLv
  go_enter Try.func15, Try.ntmps15
  cases h1 : decide (0 ≤ a) <;> cases h2 : decide (a ≤ 7)
  all_goals
    go_wp2
    go_ret
    refine ⟨?_, below1 _ _⟩
    first | rfl | (simp_all; done) | trace_state

theorem eqGuardL : Try.prog.eqGuardType Try.prog.depth 32 = false := by kernel_rfl
theorem fieldsL : Try.prog.underlying 32 = some (.struct (Try.prog.fieldsOf 32)) := by kernel_rfl
theorem heldL : Try.prog.stoodInHeld 32 = false := by kernel_rfl
theorem run_eqL (a a' : Int) (x x' : Nat) (w : World) : (binOp .eql 32 (.agg #[.int .i64 (a), .int .u16 ((x : Nat) : Int)]) (.agg #[.int .i64 (a'), .int .u16 ((x' : Nat) : Int)])).run Try.prog w = .ok (.bool (a == a' && x == x')) w := by
  have hu := Try.underlying3
  have ha := Try.isAgg3
  have hz := Try.sizeOf3
  have hu2 := Try.underlying30
  have ha2 := Try.isAgg30
  have hz2 := Try.sizeOf30
  rw [run_eql_struct, show (10000 : Nat) = 9999 + 1 from rfl, run_equalIn_agg w 9999 32 _ _ fieldsL heldL]
  simp only [Program.fieldsOf, Try.underlying32]
  go_simp
  have hx : ((x : Int) = (x' : Int)) ↔ x = x' := Int.ofNat_inj
  by_cases h1 : a = a' <;> by_cases h2 : x = x' <;> simp [h1, h2, hx]

end Go.Proofs.Ytbbcicengfmhiaa

/- Two tries are held against each other number by number. -/
import Derived.Test.YtpkmgdpnimecfabDoorLea1
import Derived.Laws.StructEq
namespace Go.Proofs.YtpkmgdpnimecfabDoor
open Go.RowKit
theorem eqGuardT : Tryd.prog.eqGuardType Tryd.prog.depth 84 = false := by kernel_rfl
theorem fieldsT : Tryd.prog.underlying 84 = some (.struct (Tryd.prog.fieldsOf 84)) := by kernel_rfl
theorem heldT : Tryd.prog.stoodInHeld 84 = false := by kernel_rfl
theorem run_eqT (a b c d e f a' b' c' d' e' f' : Int) (w : World) : (binOp .eql 84 (.agg #[.int .i64 (a), .int .i64 (b), .int .i64 (c), .int .i64 (d), .int .i64 (e), .int .i64 (f)]) (.agg #[.int .i64 (a'), .int .i64 (b'), .int .i64 (c'), .int .i64 (d'), .int .i64 (e'), .int .i64 (f')])).run Tryd.prog w = .ok (.bool (a == a' && b == b' && c == c' && d == d' && e == e' && f == f')) w := by
  have hu := Tryd.underlying3
  have ha := Tryd.isAgg3
  have hz := Tryd.sizeOf3
  rw [run_eql_struct, show (10000 : Nat) = 9999 + 1 from rfl, run_equalIn_agg w 9999 84 _ _ fieldsT heldT]
  simp only [Program.fieldsOf, Tryd.underlying84]
  go_simp
  by_cases h1 : a = a' <;> by_cases h2 : b = b' <;> by_cases h3 : c = c' <;> by_cases h4 : d = d' <;> by_cases h5 : e = e' <;> by_cases h6 : f = f' <;> simp [h1, h2, h3, h4, h5, h6]

theorem run_neqT (a b c d e f a' b' c' d' e' f' : Int) (w : World) : (binOp .neq 84 (.agg #[.int .i64 (a), .int .i64 (b), .int .i64 (c), .int .i64 (d), .int .i64 (e), .int .i64 (f)]) (.agg #[.int .i64 (a'), .int .i64 (b'), .int .i64 (c'), .int .i64 (d'), .int .i64 (e'), .int .i64 (f')])).run Tryd.prog w = .ok (.bool (!(a == a' && b == b' && c == c' && d == d' && e == e' && f == f'))) w := by
  have hu := Tryd.underlying3
  have ha := Tryd.isAgg3
  have hz := Tryd.sizeOf3
  rw [run_neq_struct, show (10000 : Nat) = 9999 + 1 from rfl, run_equalIn_agg w 9999 84 _ _ fieldsT heldT]
  simp only [Program.fieldsOf, Tryd.underlying84]
  go_simp
  by_cases h1 : a = a' <;> by_cases h2 : b = b' <;> by_cases h3 : c = c' <;> by_cases h4 : d = d' <;> by_cases h5 : e = e' <;> by_cases h6 : f = f' <;> simp [h1, h2, h3, h4, h5, h6]
end Go.Proofs.YtpkmgdpnimecfabDoor

/- What Seen throws away. No condition. -/
import Derived.Test.YtbbcicengfmhiaaDoorIn3
namespace Go.Proofs.YtbbcicengfmhiaaDoor
set_option maxRecDepth 100000
open Go.RowKit

theorem eg94 : ∀ args w, (callFunc 94 args).run Tryd.prog w = .ok (.enter 94 args) w := enters_of Tryd.func94 (by kernel_rfl) rfl
theorem latePred (p : Nat) (now : Int) (w : World) (h1 : w.cell? ⟨p, 0, none⟩ = some (.int .i64 now)) : PredB Tryd.prog 94 #[.pointer (some ⟨p, 0, none⟩)] encR (fun r => decide (now ≤ r.1)) w := by
  intro W x hb
  obtain ⟨a, b, c, d, s⟩ := x
  have hx := below1 W (.cells #[.int .i64 a, .int .i64 b, .int .i64 c, .int .i64 d, .string s] 75)
  have hp := cellW_lt h1
  have d1 := (hx.cell (p := ⟨p, 0, none⟩) (Nat.lt_of_lt_of_le hp hb.size)).trans ((hb.cell (p := ⟨p, 0, none⟩) hp).trans h1)
  have HX := Lib.hid (hb.trans (hx.mono hb.size))
  clear hx h1 hp
  show Calls Tryd.prog 94 #[.agg #[.int .i64 a, .int .i64 b, .int .i64 c, .int .i64 d, .string s], .pointer (some ⟨p, 0, none⟩)] W fun e w' => e = .returned (.bool (decide (now ≤ a))) ∧ Below w.heap.size w w'
  go_enter Tryd.func94, Tryd.ntmps94
  by_cases e1 : now ≤ a
  · have HR := Lib.hid (show decide (now ≤ a) = true by simpa using e1)
    go_wp2
    go_ret
    exact ⟨by rw [HR.out]; rfl, HX.out⟩
  · have HR := Lib.hid (show decide (now ≤ a) = false by simpa using e1)
    go_wp2
    go_ret
    exact ⟨by rw [HR.out]; rfl, HX.out⟩
end Go.Proofs.YtbbcicengfmhiaaDoor

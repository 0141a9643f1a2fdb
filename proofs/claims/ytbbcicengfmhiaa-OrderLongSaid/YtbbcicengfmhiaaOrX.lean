/- OrderLong: an order is as long as its longest row; what is ready stays so. Every input. -/
import Derived.Test.YtbbcicengfmhiaaOrW
import Derived.Test.YtbbcicengfmhiaaOpP
namespace Go.Proofs.Ytbbcicengfmhiaa
set_option maxRecDepth 100000
open Go.ChangeShapes Go.WideShapes Go.ChangeAt Go.RowKit Go.Deep Go.Joins

theorem orderLong_lifted (os : Os) (started : os.Started) (H : Type) (enc : TypeId × Value → H) :
    ReturnsInHanded {} Try.checked os 3 .any (Rows.orderLongSpec.pre6 enc Try.prog Try.f3 Rows.orderLongRow.domain false) (Rows.orderLongSpec.post enc Try.prog Try.f3 false true false false) := by
  refine law_lift started Try.func3 (by kernel_rfl) (by kernel_rfl) rfl (by kernel_rfl) ?_
    (ChangeSpec.witness6 (enc := enc) (C := Try.checked) false ⟨#[], #[.agg #[.string ⟨#[]⟩, .slice none 0 0], .slice none 0 0, .int .i64 0], []⟩ 8 (by kernel_rfl) (by kernel_rfl) (by kernel_rfl) (by kernel_rfl)) ?_
  · intro ds hd
    rw [Try.params3] at hd
    match ds, hd with
    | [d0, d1, d2], _ => rfl
  · intro W base args ds ps hval hA
    rw [Try.params3] at hA hval
    obtain ⟨v0, vs0, d0, ds0, p0, q0, hargs, rfl, rfl, h0, r0⟩ := trodAll_cons hA
    obtain ⟨v1, vs1, d1, ds1, p1, q1, rfl, rfl, rfl, h1, r1⟩ := trodAll_cons r0
    obtain ⟨v2, vs2, d2, ds2, p2, q2, rfl, rfl, rfl, h2, r2⟩ := trodAll_cons r1
    obtain ⟨rfl, rfl, rfl⟩ := trodAll_nil r2
    obtain rfl : args = #[v0, v1, v2] := by cases args; simp_all
    obtain ⟨nm, vt, ts, rfl, hnm, hT, hok⟩ := open_pipe (hval 0 24 v0 rfl rfl) h0
    obtain ⟨s1, n1, k1, rfl⟩ := okWide_slice Try.underlying25 (hval 1 25 v1 rfl rfl)
    obtain ⟨done, hD, hml⟩ := open_bools rfl h1
    obtain ⟨a2, rfl, _, _, w2⟩ := open_int Try.underlying3 (hval 2 3 v2 rfl rfl) h2
    exact orderLong_walk nm vt ts _ done a2 W hT hok hnm hD hml (by simp [Lit.wf, IntKind.min, IntKind.max, IntKind.bits, IntKind.signed] at w2; omega)

theorem orderLong_holds : Rows.OrderLongSaid :=
  OpenClaim.holds_of_wide 3 Try.f3 rfl rfl rfl rfl rfl rfl rfl ⟨rfl, rfl, rfl, rfl, rfl⟩ rfl rfl rfl rfl rfl (by kernel_rfl) Try.func3 (by kernel_rfl)
    (of_decide_eq_true (by kernel_rfl)) (by unfold Func.isWrapper; first | (rw [if_pos (by decide +kernel)]; kernel_rfl) | (rw [if_neg (by decide +kernel)]; exact ⟨rfl, rfl⟩))
    (fun os started H enc _ => orderLong_lifted os started H enc)
end Go.Proofs.Ytbbcicengfmhiaa

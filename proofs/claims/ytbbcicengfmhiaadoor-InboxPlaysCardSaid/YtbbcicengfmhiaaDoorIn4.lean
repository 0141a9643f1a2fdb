/- The document's Add. Conditions: sizes. -/
import Derived.Test.YtbbcicengfmhiaaDoorIn3
namespace Go.Proofs.YtbbcicengfmhiaaDoor
set_option maxRecDepth 100000
open Go.RowKit

set_option maxHeartbeats 1000000 in
theorem ref15Add (v : Value) (xs : List Rel) (a b c d : Int) (s : ByteArray) (w : World) (hS : SlAt 5 encR w v xs) (hbig : xs.length ≤ 1000000) (hs : s.size ≤ maxLen) :
    Calls Tryd.prog 34 #[v, .agg #[.int .i64 a, .int .i64 b, .int .i64 c, .int .i64 d, .string s]] w fun e w' => e = .returned (.int .i64 (addR xs (a, b, c, d, s))) ∧ Below w.heap.size w w' := by
  have hx := below1 w (.cells #[.int .i64 a, .int .i64 b, .int .i64 c, .int .i64 d, .string s] 75)
  have HQ := Lib.hid (BlkIs.alloc w [.int .i64 a, .int .i64 b, .int .i64 c, .int .i64 d, .string s] 75)
  have HS := Lib.hid (hS.below hx)
  have HX := Lib.hid hx
  obtain ⟨p, cp, rfl, _, _⟩ := hS
  clear hx
  generalize hne : xs.length = n at hbig ⊢
  have HN := Lib.hid hne
  rw [hne] at HS
  clear hne
  go_enter Tryd.func34, Tryd.ntmps34
  go_wp2_with fail
  generalize w.alloc (.cells #[.int .i64 a, .int .i64 b, .int .i64 c, .int .i64 d, .string s] 75) = W1 at HQ HS HX ⊢
  refine (ref15Right a b c d s W1 hs).mono ?_
  rintro e w1 ⟨rfl, hb⟩
  have HQ := Lib.hid (HQ.out.below hb)
  have HS := Lib.hid (HS.out.below hb)
  have HX := Lib.hid (HX.out.trans (hb.mono HX.out.size))
  clear hb
  cases hr : rightR (a, b, c, d, s) with
  | false =>
    have HR := Lib.hid (show addR xs (a, b, c, d, s) = 1 by rw [addR, if_pos hr])
    go_wp2
    go_ret
    exact ⟨by rw [HR.out]; rfl, HX.out⟩
  | true =>
    have q2 := HQ.out.cell 2
    have q3 := HQ.out.cell 3
    simp only [List.getElem?_cons_zero, List.getElem?_cons_succ] at q2 q3
    go_wp2_with fail
    refine (ref15Has _ xs c d w1 HS.out (by have := HN.out; omega)).mono ?_
    rintro e w2 ⟨rfl, rfl⟩
    cases hh : hasR xs c d with
    | true =>
      have HR := Lib.hid (show addR xs (a, b, c, d, s) = 7 by rw [addR, if_neg (by rw [hr]; decide), if_pos hh])
      go_wp2
      go_ret
      exact ⟨by rw [HR.out]; rfl, HX.out⟩
    | false =>
      by_cases h12 : 12 ≤ n
      · have HR := Lib.hid (show addR xs (a, b, c, d, s) = 4 by rw [addR, if_neg (by rw [hr]; decide), if_neg (by rw [hh]; decide), if_pos (by have := HN.out; omega)])
        have hz : (12 : Int) ≤ (n : Int) := by omega
        go_wp2
        go_ret
        exact ⟨by rw [HR.out]; rfl, HX.out⟩
      · have HR := Lib.hid (show addR xs (a, b, c, d, s) = 0 by rw [addR, if_neg (by rw [hr]; decide), if_neg (by rw [hh]; decide), if_neg (by have := HN.out; omega)])
        have hz : ¬ ((12 : Int) ≤ (n : Int)) := by omega
        go_wp2
        go_ret
        exact ⟨by rw [HR.out]; rfl, HX.out⟩
end Go.Proofs.YtbbcicengfmhiaaDoor

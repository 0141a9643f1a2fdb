/- inbox.within, right, New, Len; the document's Right. No condition. -/
import Derived.Test.YtbbcicengfmhiaaDoorRel0
import Derived.Test.YtbbcicengfmhiaaDoorTk
import Derived.Test.YtbbcicengfmhiaaDoorBlk
import Derived.Test.YtbbcicengfmhiaaDoorAppN
import Derived.Test.YtbbcicengfmhiaaDoorFrameD
namespace Go.Proofs.YtbbcicengfmhiaaDoor
set_option maxRecDepth 100000
open Go.RowKit

theorem inbWithin (n up : Int) (w : World) : Calls Tryd.prog 132 #[.int .i64 n, .int .i64 up] w fun e w' => e = .returned (.bool (inU n up)) ∧ w = w' := by
  go_enter Tryd.func132, Tryd.ntmps132
  by_cases h0 : 0 ≤ n
  · by_cases h1 : n < up
    · go_wp2
      go_ret
      exact ⟨by simp [inU, h0, h1], rfl⟩
    · go_wp2
      go_ret
      exact ⟨by simp [inU, h0]; omega, rfl⟩
  · go_wp2
    go_ret
    exact ⟨by simp [inU]; omega, rfl⟩
set_option maxHeartbeats 1000000 in
theorem inbRight (a b c d : Int) (s : ByteArray) (w : World) (hs : s.size ≤ maxLen) : Calls Tryd.prog 88 #[.agg #[.int .i64 a, .int .i64 b, .int .i64 c, .int .i64 d, .string s]] w fun e w' => e = .returned (.bool (rightR (a, b, c, d, s))) ∧ Below w.heap.size w w' := by
  have hx := below1 w (.cells #[.int .i64 a, .int .i64 b, .int .i64 c, .int .i64 d, .string s] 75)
  unfold maxLen at hs
  have HX := Lib.hid hx
  clear hx
  go_enter Tryd.func88, Tryd.ntmps88
  go_wp2_with fail
  refine (inbWithin _ _ _).mono ?_
  rintro e w1 ⟨rfl, rfl⟩
  cases hA : inU a 1001 with
  | false =>
    go_wp2
    go_ret
    exact ⟨by simp [rightR, hA], HX.out⟩
  | true =>
    go_wp2_with fail
    refine (inbWithin _ _ _).mono ?_
    rintro e w1 ⟨rfl, rfl⟩
    cases hB : inU b 4 with
    | false =>
      go_wp2
      go_ret
      exact ⟨by simp [rightR, hB], HX.out⟩
    | true =>
      go_wp2_with fail
      refine (inbWithin _ _ _).mono ?_
      rintro e w1 ⟨rfl, rfl⟩
      cases hC : inU c 16 with
      | false =>
        go_wp2
        go_ret
        exact ⟨by simp [rightR, hC], HX.out⟩
      | true =>
        go_wp2_with fail
        refine (inbWithin _ _ _).mono ?_
        rintro e w1 ⟨rfl, rfl⟩
        cases hD : inU d 8 with
        | false =>
          go_wp2
          go_ret
          exact ⟨by simp [rightR, hD], HX.out⟩
        | true =>
          by_cases hz : s.size ≤ 32
          · have hzz : (s.size : Int) ≤ 32 := by omega
            go_wp2
            go_ret
            exact ⟨by simp [rightR, hA, hB, hC, hD, hz], HX.out⟩
          · have hzz : ¬ ((s.size : Int) ≤ 32) := by omega
            go_wp2
            go_ret
            exact ⟨by simp [rightR, hA, hB, hC, hD]; omega, HX.out⟩
set_option maxHeartbeats 4000000 in
theorem ref15Right (a b c d : Int) (s : ByteArray) (w : World) (hs : s.size ≤ maxLen) : Calls Tryd.prog 36 #[.agg #[.int .i64 a, .int .i64 b, .int .i64 c, .int .i64 d, .string s]] w fun e w' => e = .returned (.bool (rightR (a, b, c, d, s))) ∧ Below w.heap.size w w' := by
  have HX := Lib.hid (below1 w (.cells #[.int .i64 a, .int .i64 b, .int .i64 c, .int .i64 d, .string s] 75))
  unfold maxLen at hs
  go_enter Tryd.func36, Tryd.ntmps36
  by_cases h0 : 0 ≤ a
  rotate_left
  · have HR := Lib.hid (show rightR (a, b, c, d, s) = false by simp [rightR, inU]; omega)
    go_wp2
    go_ret
    exact ⟨by rw [HR.out]; rfl, HX.out⟩
  by_cases h1 : a ≤ 1000
  rotate_left
  · have HR := Lib.hid (show rightR (a, b, c, d, s) = false by simp [rightR, inU]; omega)
    go_wp2
    go_ret
    exact ⟨by rw [HR.out]; rfl, HX.out⟩
  by_cases h2 : 0 ≤ b
  rotate_left
  · have HR := Lib.hid (show rightR (a, b, c, d, s) = false by simp [rightR, inU]; omega)
    go_wp2
    go_ret
    exact ⟨by rw [HR.out]; rfl, HX.out⟩
  by_cases h3 : b < 4
  rotate_left
  · have HR := Lib.hid (show rightR (a, b, c, d, s) = false by simp [rightR, inU]; omega)
    go_wp2
    go_ret
    exact ⟨by rw [HR.out]; rfl, HX.out⟩
  by_cases h4 : 0 ≤ c
  rotate_left
  · have HR := Lib.hid (show rightR (a, b, c, d, s) = false by simp [rightR, inU]; omega)
    go_wp2
    go_ret
    exact ⟨by rw [HR.out]; rfl, HX.out⟩
  by_cases h5 : c < 16
  rotate_left
  · have HR := Lib.hid (show rightR (a, b, c, d, s) = false by simp [rightR, inU]; omega)
    go_wp2
    go_ret
    exact ⟨by rw [HR.out]; rfl, HX.out⟩
  by_cases h6 : 0 ≤ d
  rotate_left
  · have HR := Lib.hid (show rightR (a, b, c, d, s) = false by simp [rightR, inU]; omega)
    go_wp2
    go_ret
    exact ⟨by rw [HR.out]; rfl, HX.out⟩
  by_cases h7 : d < 8
  rotate_left
  · have HR := Lib.hid (show rightR (a, b, c, d, s) = false by simp [rightR, inU]; omega)
    go_wp2
    go_ret
    exact ⟨by rw [HR.out]; rfl, HX.out⟩
  by_cases h8 : (s.size : Int) ≤ 32
  rotate_left
  · have HR := Lib.hid (show rightR (a, b, c, d, s) = false by simp [rightR, inU]; omega)
    go_wp2
    go_ret
    exact ⟨by rw [HR.out]; rfl, HX.out⟩
  have HR := Lib.hid (show rightR (a, b, c, d, s) = true by simp [rightR, inU]; omega)
  go_wp2
  go_ret
  exact ⟨by rw [HR.out]; rfl, HX.out⟩
theorem row_slice {w : World} {base : Nat} {cv : Value} {n : Nat} {xs : List Value} {e : TypeId} {size : Nat} (h : w.ownsRow base e size cv n xs) : ∃ p c, cv = .slice p n c := by
  rcases h.2 with ⟨hv, h0⟩ | ⟨g, cap, cur, hv, _⟩
  · subst h0; exact ⟨_, _, hv⟩
  · exact ⟨_, _, hv⟩
/-- an inbox lies there -/
def IbAt (b : Nat) (cv : Value) (l : List Rel) (w : World) : Prop := BlkIs w b [cv] 140 ∧ w.ownsRow (b + 1) 75 5 cv l.length (l.flatMap encR)
theorem IbAt.below {b : Nat} {cv : Value} {l : List Rel} {w w' : World} (h : IbAt b cv l w) (hb : Below w.heap.size w w') : IbAt b cv l w' := ⟨h.1.below hb, owns_below h.2 hb⟩
theorem inbNew (w : World) : Calls Tryd.prog 33 #[] w fun e w' => e = .returned (.pointer (some ⟨w.heap.size, 0, none⟩)) ∧ IbAt w.heap.size (.slice none 0 0) [] w' ∧ Below w.heap.size w w' := by
  have HX := Lib.hid (below1 w (.cells #[.slice none 0 0] 140))
  have HQ := Lib.hid (show IbAt w.heap.size (.slice none 0 0) [] (w.alloc (.cells #[.slice none 0 0] 140)) from ⟨BlkIs.alloc w [.slice none 0 0] 140, rfl, .inl ⟨rfl, rfl⟩⟩)
  go_enter Tryd.func33, Tryd.ntmps33
  go_wp2
  go_ret
  exact ⟨rfl, HQ.out, HX.out⟩
theorem inbLen (b : Nat) (cv : Value) (l : List Rel) (w : World) (h : IbAt b cv l w) (hl : l.length ≤ 1000000) : Calls Tryd.prog 45 #[.pointer (some ⟨b, 0, none⟩)] w fun e w' => e = .returned (.int .i64 (l.length : Nat)) ∧ w = w' := by
  obtain ⟨cp, cc, rfl⟩ := row_slice h.2
  have c0 := h.1.cell 0
  simp only [List.getElem?_cons_zero] at c0
  clear h
  generalize l.length = n at *
  go_enter Tryd.func45, Tryd.ntmps45
  go_wp2
  go_ret
  exact ⟨rfl, rfl⟩
end Go.Proofs.YtbbcicengfmhiaaDoor

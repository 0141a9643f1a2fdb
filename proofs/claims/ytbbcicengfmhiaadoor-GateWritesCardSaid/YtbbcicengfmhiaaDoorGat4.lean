/- gate.Right, gate.Over, the statements' own awake of layer 12. No condition. -/
import Derived.Test.YtbbcicengfmhiaaDoorGat3
namespace Go.Proofs.YtbbcicengfmhiaaDoor
open Go.RowKit

theorem gateOver (a b c : Int) (w : World) (h : IntKind.i64.wrap (a + b) = a + b) : Calls Tryd.prog 81 #[.int .i64 a, .int .i64 b, .int .i64 c] w fun e w' => e = .returned (.bool (decide (a + b ≤ c))) ∧ w = w' := by
  go_enter Tryd.func81, Tryd.ntmps81
  go_wp2
  go_ret
  exact ⟨rfl, rfl⟩

def okFrom (last : Int) : List Int → Bool
  | [] => true
  | k :: r => !(decide (k ≤ last) || decide (12 ≤ k)) && okFrom k r
def rightG (xs : List Int) : Bool := okFrom (-1) xs && decide (xs.length ≤ 12)

set_option maxHeartbeats 1000000 in
theorem gateRight (v : Value) (no : Bool) (xs : List Int) (w : World) (hS : SlAt 1 encI w v xs) (hbig : xs.length ≤ 9223372036854775807) :
    Calls Tryd.prog 29 #[.agg #[v, .bool no]] w fun e w' => e = .returned (.bool (rightG xs)) ∧ Below w.heap.size w w' := by
  obtain ⟨p, c, rfl, _, _⟩ := id hS
  obtain ⟨n, hn⟩ : ∃ n, n = xs.length := ⟨_, rfl⟩
  rw [← hn] at hS hbig ⊢
  obtain ⟨W0, hW0⟩ : ∃ W0, W0 = w.alloc (.cells #[.slice p n c, .bool no] 54) := ⟨_, rfl⟩
  have HS := Lib.hid (hS.below (below1 w (.cells #[.slice p n c, .bool no] 54)))
  have HB := Lib.hid (below1 w (.cells #[.slice p n c, .bool no] 54))
  have he0 : W0.cell? ⟨w.heap.size, 0, none⟩ = some (.slice p n c) := by rw [hW0]; go_simp
  have hez : w.heap.size < W0.heap.size := by rw [hW0]; simp
  rw [← hW0] at HS HB
  have HW0 := Lib.hid hW0
  clear hS hW0
  obtain ⟨p', c', hv, _, hc⟩ := id HS.out
  simp only [Value.slice.injEq] at hv
  obtain ⟨rfl, hx, rfl⟩ := hv
  clear hx
  have HC := Lib.hid hc
  clear hc
  obtain ⟨R, hR⟩ : ∃ R, R = rightG xs := ⟨_, rfl⟩
  rw [← hR]
  have HR := Lib.hid hR
  have HN := Lib.hid hn
  clear hR hn
  go_enter Tryd.func29, Tryd.ntmps29
  go_upto_region 1 with fail
  rw [← HW0.out]
  go_wp2
  go_loopw [3, 9] (fun l i wr => ∃ (j : Nat) (last : Int), j ≤ n ∧ i = .int .i64 j ∧ l = .int .i64 last ∧ W0 = wr ∧ okFrom (-1) xs = okFrom last (xs.drop j)) (fun _ i _ => n - (intOf i).toNat)
  case atStart => exact ⟨0, -1, by omega, rfl, rfl, rfl, rfl⟩
  case round =>
    obtain ⟨j, last, hj, rfl, rfl, rfl, hok⟩ := hrel
    have HOK := Lib.hid hok
    clear hok
    by_cases hlt : j < n
    · have hltz : (j : Int) < (n : Int) := by omega
      obtain ⟨b, off, rfl, hb, hcell⟩ := HC.out (by have := HN.out; omega)
      have hc0 : W0.cell? ⟨b, off + j, none⟩ = some (.int .i64 xs[j]!) := by have := hcell j (by have := HN.out; omega) 0 _ rfl; simpa using this
      have HD := Lib.hid (show xs.drop j = xs[j]! :: xs.drop (j + 1) by
        have := HN.out
        rw [List.drop_eq_getElem_cons (by omega), getElem!_pos xs j (by omega)])
      clear hcell
      generalize xs[j]! = k at hc0 HD
      have hgood : okFrom (-1) xs = (!(decide (k ≤ last) || decide (12 ≤ k)) && okFrom k (xs.drop (j + 1))) := by rw [HOK.out, HD.out]; rfl
      have HG := Lib.hid hgood
      clear hgood
      cases t1 : decide (k ≤ last) with
      | true =>
        have hf : R = false := by rw [HR.out, rightG, HG.out, t1]; rfl
        subst hf
        go_wp2
        go_ret
        exact ⟨rfl, HB.out⟩
      | false =>
        cases t2 : decide ((12 : Int) ≤ k) with
        | true =>
          have hf : R = false := by rw [HR.out, rightG, HG.out, t1, t2]; rfl
          subst hf
          go_wp2
          go_ret
          exact ⟨rfl, HB.out⟩
        | false =>
          have hq : okFrom (-1) xs = okFrom k (xs.drop (j + 1)) := by rw [HG.out, t1, t2]; rfl
          have HQ := Lib.hid hq
          clear hq
          go_wp2
          go_roundw
          case rel => first | exact ⟨j + 1, k, by omega, by go_num, rfl, rfl, HQ.out⟩ | exact ⟨j + 1, k, by omega, by go_num, rfl, trivial, HQ.out⟩ | ((repeat apply Exists.intro); exact ⟨⟨j + 1, k, by omega, by go_num, rfl, rfl, HQ.out⟩, rfl⟩)
          case measure => simp [intOf] <;> omega
    · obtain rfl : j = n := by omega
      have hfin : okFrom (-1) xs = true := by rw [HOK.out, List.drop_of_length_le (by have := HN.out; omega)]; rfl
      have hf : R = decide (j ≤ 12) := by rw [HR.out, rightG, hfin, ← HN.out]; rfl
      subst hf
      clear hfin
      go_wp2
      go_ret
      exact ⟨by simp; omega, HB.out⟩

/-- votes that lie in a box -/
def Bx (b : Nat) (v : Value) (no : Bool) (xs : List Int) (wr : World) : Prop := b < wr.heap.size ∧ wr.cell? ⟨b, 0, none⟩ = some v ∧ wr.cell? ⟨b, 1, none⟩ = some (.bool no) ∧ SlAt 1 encI wr v xs
theorem Bx.below {b : Nat} {v : Value} {no : Bool} {xs : List Int} {w w' : World} (h : Bx b v no xs w) (hb : Below w.heap.size w w') : Bx b v no xs w' :=
  ⟨Nat.lt_of_lt_of_le h.1 hb.size, (hb.cell (p := ⟨b, 0, none⟩) h.1).trans h.2.1, (hb.cell (p := ⟨b, 1, none⟩) h.1).trans h.2.2.1, h.2.2.2.below hb⟩
theorem Bx.mk (w : World) {v : Value} {no : Bool} {xs : List Int} (h : SlAt 1 encI w v xs) : Bx w.heap.size v no xs (w.alloc (.cells #[v, .bool no] 54)) :=
  ⟨by simp, by go_simp, by go_simp, h.below (below1 _ _)⟩
theorem slInts (w : World) (xs : List Int) (h : 0 < xs.length) : SlAt 1 encI (w.alloc (.cells (xs.map fun x => Value.int .i64 x).toArray 3)) (.slice (some ⟨w.heap.size, 0, none⟩) xs.length xs.length) xs :=
  slI_of rfl (Nat.le_refl _) (by simp) (fun j hj => by
    rw [World.cell?_alloc_at _ _ w.heap.size j rfl]
    have := mapI_get hj
    simpa using this)
theorem vt1 : voteL [] 3 true = [3] := by decide
theorem vt2 : voteL [3] 1 true = [1, 3] := by decide
theorem vt3 : voteL [3] 2 false = [3] := by decide

set_option maxRecDepth 100000 in
set_option maxHeartbeats 4000000 in
theorem awake12 (w : World) : Calls Tryd.prog 22 #[] w fun e w' => e = .returned (.bool true) ∧ Below w.heap.size w w' := by
  go_enter Tryd.func22, Tryd.ntmps22
  have HB0 := Lib.hid (Below.refl w.heap.size w)
  go_wp2_with fail
  have q := gateVote (.slice none 0 0) false [] 3 true 2 w (SlAt.nil _ _ _) (by decide)
  unfold VotePost at q
  rw [vt1] at q
  refine q.mono ?_
  rintro e w1 ⟨v1, rfl, hS, hb, _⟩
  obtain ⟨p1, c1, rfl, _, _⟩ := id hS
  have hb2 := hb.trans ((below1 w1 (.cells #[.slice p1 1 c1, .bool false] 54)).mono hb.size)
  have hx : Bx w1.heap.size (.slice p1 1 c1) false [3] (w1.alloc (.cells #[.slice p1 1 c1, .bool false] 54)) := Bx.mk w1 hS
  have X1_1 := Lib.hid hx
  have HB1 := Lib.hid (HB0.out.trans (hb2.mono HB0.out.size))
  clear q hS hb hb2 hx
  go_upto_region 2 with fail
  generalize w1.alloc (.cells #[.slice p1 1 c1, .bool false] 54) = W1 at X1_1 HB1 ⊢
  generalize hbn1 : w1.heap.size = b1 at X1_1 ⊢
  clear hbn1
  obtain ⟨z1_1, f1_1, g1_1, _⟩ := X1_1.out
  go_wp2_with fail
  have q := gateVote _ false [3] 1 true 2 W1 X1_1.out.2.2.2 (by decide)
  unfold VotePost at q
  rw [vt2] at q
  refine q.mono ?_
  rintro e w2 ⟨v2, rfl, hS, hb, _⟩
  obtain ⟨p2, c2, rfl, _, _⟩ := id hS
  have hb2 := hb.trans ((below1 w2 (.cells #[.slice p2 2 c2, .bool false] 54)).mono hb.size)
  have hx : Bx w2.heap.size (.slice p2 2 c2) false [1, 3] (w2.alloc (.cells #[.slice p2 2 c2, .bool false] 54)) := Bx.mk w2 hS
  have X1_2 := Lib.hid (X1_1.out.below hb2)
  have X2_2 := Lib.hid hx
  have HB2 := Lib.hid (HB1.out.trans (hb2.mono HB1.out.size))
  clear q hS hb hb2 hx
  go_upto_region 3 with fail
  generalize w2.alloc (.cells #[.slice p2 2 c2, .bool false] 54) = W2 at X1_2 X2_2 HB2 ⊢
  generalize hbn2 : w2.heap.size = b2 at X2_2 ⊢
  clear hbn2
  obtain ⟨z1_2, f1_2, g1_2, _⟩ := X1_2.out
  go_wp2_with fail
  have q := gateVote _ false [3] 2 false 2 W2 X1_2.out.2.2.2 (by decide)
  unfold VotePost at q
  rw [vt3] at q
  refine q.mono ?_
  rintro e w3 ⟨v3, rfl, hS, hb, _⟩
  obtain ⟨p3, c3, rfl, _, _⟩ := id hS
  have hb2 := hb.trans ((below1 w3 (.cells #[.slice p3 1 c3, .bool true] 54)).mono hb.size)
  have hx : Bx w3.heap.size (.slice p3 1 c3) true [3] (w3.alloc (.cells #[.slice p3 1 c3, .bool true] 54)) := Bx.mk w3 hS
  have X1_3 := Lib.hid (X1_2.out.below hb2)
  have X2_3 := Lib.hid (X2_2.out.below hb2)
  have X3_3 := Lib.hid hx
  have HB3 := Lib.hid (HB2.out.trans (hb2.mono HB2.out.size))
  clear q hS hb hb2 hx
  go_upto_region 4 with fail
  generalize w3.alloc (.cells #[.slice p3 1 c3, .bool true] 54) = W3 at X1_3 X2_3 X3_3 HB3 ⊢
  generalize hbn3 : w3.heap.size = b3 at X3_3 ⊢
  clear hbn3
  obtain ⟨z3_3, f3_3, g3_3, _⟩ := X3_3.out
  go_wp2_with fail
  have q := gateVote _ true [3] 1 true 2 W3 X3_3.out.2.2.2 (by decide)
  unfold VotePost at q
  rw [vt2] at q
  refine q.mono ?_
  rintro e w4 ⟨v4, rfl, hS, hb, _⟩
  obtain ⟨p4, c4, rfl, _, _⟩ := id hS
  have hb2 := hb.trans ((below1 w4 (.cells #[.slice p4 2 c4, .bool true] 54)).mono hb.size)
  have hx : Bx w4.heap.size (.slice p4 2 c4) true [1, 3] (w4.alloc (.cells #[.slice p4 2 c4, .bool true] 54)) := Bx.mk w4 hS
  have X1_4 := Lib.hid (X1_3.out.below hb2)
  have X2_4 := Lib.hid (X2_3.out.below hb2)
  have X3_4 := Lib.hid (X3_3.out.below hb2)
  have X4_4 := Lib.hid hx
  have HB4 := Lib.hid (HB3.out.trans (hb2.mono HB3.out.size))
  clear q hS hb hb2 hx
  go_upto_region 5 with fail
  generalize w4.alloc (.cells #[.slice p4 2 c4, .bool true] 54) = W4 at X1_4 X2_4 X3_4 X4_4 HB4 ⊢
  generalize hbn4 : w4.heap.size = b4 at X4_4 ⊢
  clear hbn4
  clear z1_1 f1_1 g1_1 z1_2 f1_2 g1_2 z3_3 f3_3 g3_3
  obtain ⟨z1_4, f1_4, g1_4, _⟩ := X1_4.out
  obtain ⟨z2_4, f2_4, g2_4, _⟩ := X2_4.out
  go_wp2_with fail
  refine (same02 _ _ [1, 3] [1, 3] _ (X2_4.out.2.2.2.below (below1 _ _)) (slInts _ [1, 3] (by decide)) (by decide) (by decide)).mono ?_
  rintro e w5 ⟨rfl, hb⟩
  have hb2 := (below1 W4 (.cells #[.int .i64 1, .int .i64 3] 3)).trans (hb.mono (below1 W4 (.cells #[.int .i64 1, .int .i64 3] 3)).size)
  have X1_5 := Lib.hid (X1_4.out.below hb2)
  have X2_5 := Lib.hid (X2_4.out.below hb2)
  have HB5 := Lib.hid (HB4.out.trans (hb2.mono HB4.out.size))
  clear hb hb2 z1_4 f1_4 g1_4 z2_4 f2_4 g2_4
  obtain ⟨z1_5, f1_5, g1_5, _⟩ := X1_5.out
  rw [show (decide (([1, 3] : List Int) = [1, 3])) = true from rfl]
  go_wp2_with fail
  refine (same02 _ _ [3] [3] _ (X1_5.out.2.2.2.below (below1 _ _)) (slInts _ [3] (by decide)) (by decide) (by decide)).mono ?_
  rintro e w6 ⟨rfl, hb⟩
  have hb2 := (below1 w5 (.cells #[.int .i64 3] 3)).trans (hb.mono (below1 w5 (.cells #[.int .i64 3] 3)).size)
  have X1_6 := Lib.hid (X1_5.out.below hb2)
  have X2_6 := Lib.hid (X2_5.out.below hb2)
  have HB6 := Lib.hid (HB5.out.trans (hb2.mono HB5.out.size))
  clear hb hb2 z1_5 f1_5 g1_5
  obtain ⟨z2_6, f2_6, g2_6, _⟩ := X2_6.out
  rw [show (decide (([3] : List Int) = [3])) = true from rfl]
  go_wp2_with fail
  refine (gateHas 1 _ false [1, 3] w6 X2_6.out.2.2.2 (by decide)).mono ?_
  rintro e w7 ⟨rfl, hb⟩
  have X1_7 := Lib.hid (X1_6.out.below hb)
  have X2_7 := Lib.hid (X2_6.out.below hb)
  have HB7 := Lib.hid (HB6.out.trans (hb.mono HB6.out.size))
  clear hb z2_6 f2_6 g2_6
  obtain ⟨z1_7, f1_7, g1_7, _⟩ := X1_7.out
  rw [show (([1, 3] : List Int).any fun y => (1 : Int) == y) = true from rfl]
  go_wp2_with fail
  refine (gateHas 1 _ false [3] w7 X1_7.out.2.2.2 (by decide)).mono ?_
  rintro e w8 ⟨rfl, hb⟩
  have X2_8 := Lib.hid (X2_7.out.below hb)
  have HB8 := Lib.hid (HB7.out.trans (hb.mono HB7.out.size))
  clear hb z1_7 f1_7 g1_7
  rw [show (([3] : List Int).any fun y => (1 : Int) == y) = false from rfl]
  go_wp2_with fail
  refine (gateOver 3 5 8 _ (by decide)).mono ?_
  rintro e w' ⟨rfl, rfl⟩
  rw [show (decide ((3 : Int) + 5 ≤ 8)) = true from rfl]
  go_wp2_with fail
  refine (gateOver 3 5 7 _ (by decide)).mono ?_
  rintro e w' ⟨rfl, rfl⟩
  rw [show (decide ((3 : Int) + 5 ≤ 7)) = false from rfl]
  obtain ⟨z2_8, f2_8, g2_8, _⟩ := X2_8.out
  go_wp2_with fail
  refine (gateRight _ false [1, 3] w8 X2_8.out.2.2.2 (by decide)).mono ?_
  rintro e w9 ⟨rfl, hb⟩
  have HB9 := Lib.hid (HB8.out.trans (hb.mono HB8.out.size))
  clear hb z2_8 f2_8 g2_8
  rw [show rightG [1, 3] = true from rfl]
  go_wp2_with fail
  refine (gateRight _ false [3, 1] _ (slInts w9 [3, 1] (by decide)) (by decide)).mono ?_
  rintro e w10 ⟨rfl, hb⟩
  have HB10 := Lib.hid (HB9.out.trans (((below1 w9 (.cells #[.int .i64 3, .int .i64 1] 3)).trans (hb.mono (below1 w9 (.cells #[.int .i64 3, .int .i64 1] 3)).size)).mono HB9.out.size))
  rw [show rightG [3, 1] = false from rfl]
  clear hb
  go_wp2
  go_ret
  exact ⟨rfl, HB10.out⟩
end Go.Proofs.YtbbcicengfmhiaaDoor

/- inbox.Print. Conditions: sizes. -/
import Derived.Test.YtbbcicengfmhiaaDoorIn1
import Derived.Test.YtbbcicengfmhiaaDoorRel1
import Derived.Test.YtbbcicengfmhiaaDoorCod2
namespace Go.Proofs.YtbbcicengfmhiaaDoor
set_option maxRecDepth 100000
open Go.RowKit

theorem four_cells (w : World) (x y z t : Int) : ∀ j, j < [x, y, z, t].length → (w.alloc (.cells #[.int .i64 x, .int .i64 y, .int .i64 z, .int .i64 t] 3)).cell? ⟨w.heap.size, 0 + j, none⟩ = some (.int .i64 [x, y, z, t][j]!) := by
  intro j hj
  match j, hj with
  | 0, _ => go_simp
  | 1, _ => go_simp
  | 2, _ => go_simp
  | 3, _ => go_simp
set_option maxHeartbeats 4000000 in
theorem inbPrint (x y z t : Int) (s : ByteArray) (w : World) (hs : s.size ≤ maxLen) (hM : Met w) : Calls Tryd.prog 38 #[.agg #[.int .i64 x, .int .i64 y, .int .i64 z, .int .i64 t, .string s]] w fun e w' => e = .returned (.string ⟨(printL (x, y, z, t, s)).toArray⟩) ∧ Below w.heap.size w w' := by
  have hx := below1 w (.cells #[.int .i64 x, .int .i64 y, .int .i64 z, .int .i64 t, .string s] 75)
  have HQ := Lib.hid (BlkIs.alloc w [.int .i64 x, .int .i64 y, .int .i64 z, .int .i64 t, .string s] 75)
  have HM := Lib.hid (hM.below hx)
  have HX := Lib.hid hx
  have h9 := hM.size
  clear hx hM
  go_enter Tryd.func38, Tryd.ntmps38
  go_wp2_with fail
  generalize w.alloc (.cells #[.int .i64 x, .int .i64 y, .int .i64 z, .int .i64 t, .string s] 75) = W0 at HQ HM HX ⊢
  refine (inbRight x y z t s W0 hs).mono ?_
  rintro e w1 ⟨rfl, hb⟩
  have HQ := Lib.hid (HQ.out.below hb)
  have HM := Lib.hid (HM.out.below hb)
  have HX := Lib.hid (HX.out.trans (hb.mono HX.out.size))
  clear hb
  cases hr : rightR (x, y, z, t, s) with
  | false =>
    have HR := Lib.hid (show printL (x, y, z, t, s) = [] by rw [printL, if_neg (by rw [hr]; decide)])
    go_wp2
    go_ret
    exact ⟨by rw [HR.out]; rfl, HX.out⟩
  | true =>
    have HR := Lib.hid (printL_of hr)
    have hri := rightR_iff.1 hr
    dsimp only at hri
    obtain ⟨⟨x0, x1⟩, ⟨y0, y1⟩, ⟨z0, z1⟩, ⟨t0, t1⟩, s1⟩ := hri
    have HOK := Lib.hid (show ∀ j, j < [x, y, z, t].length → okI [x, y, z, t][j]! from fun j hj => by
      match j, hj with
      | 0, _ => exact ⟨by show -9223372036854775808 ≤ x; omega, by show x ≤ 9223372036854775807; omega⟩
      | 1, _ => exact ⟨by show -9223372036854775808 ≤ y; omega, by show y ≤ 9223372036854775807; omega⟩
      | 2, _ => exact ⟨by show -9223372036854775808 ≤ z; omega, by show z ≤ 9223372036854775807; omega⟩
      | 3, _ => exact ⟨by show -9223372036854775808 ≤ t; omega, by show t ≤ 9223372036854775807; omega⟩)
    clear x0 x1 y0 y1 z0 z1 t0 t1
    have hg1 := HQ.out.lt
    have hb2 := below1 w1 (.cells #[.pointer none, .slice none 0 0] 60)
    have hz2 : (w1.alloc (.cells #[.pointer none, .slice none 0 0] 60)).heap.size = w1.heap.size + 1 := Array.size_push _
    have hb3 := below1 (w1.alloc (.cells #[.pointer none, .slice none 0 0] 60)) (.cells #[.int .i64 x, .int .i64 y, .int .i64 z, .int .i64 t] 3)
    have hW := ((BlkIs.alloc w1 [.pointer none, .slice none 0 0] 60).below hb3)
    have hf := four_cells (w1.alloc (.cells #[.pointer none, .slice none 0 0] 60)) x y z t
    have HB3 := Lib.hid (hb2.trans (hb3.mono hb2.size))
    have HQ2 := Lib.hid (HQ.out.below hb2)
    have HQ3 := Lib.hid (HQ2.out.below hb3)
    have HM3 := Lib.hid (HM.out.below HB3.out)
    have hsz3 := hb3.size
    have hz3 : ((w1.alloc (.cells #[.pointer none, .slice none 0 0] 60)).alloc (.cells #[.int .i64 x, .int .i64 y, .int .i64 z, .int .i64 t] 3)).heap.size = w1.heap.size + 1 + 1 := by rw [← hz2]; exact Array.size_push _
    rw [hz2] at hf
    have h91 : 9 ≤ w1.heap.size := by have := HX.out.size; omega
    have K1 := Lib.hid (writerInt (w1.heap.size + 2) (w1.heap.size + 2) w1.heap.size (w1.heap.size + 1) 0 4 [] [x, y, z, t] _ (WrAt.fresh _ (by omega) (by omega) hW) HM3.out h91 HOK.out (by simp) (by omega) (.inl (by omega)) hf)
    obtain ⟨d0, d1, d2, d3, d4⟩ : ((w1.alloc (.cells #[.pointer none, .slice none 0 0] 60)).cell? ⟨w.heap.size, 0, none⟩ = some (.int .i64 x)) ∧ ((w1.alloc (.cells #[.pointer none, .slice none 0 0] 60)).cell? ⟨w.heap.size, 1, none⟩ = some (.int .i64 y)) ∧ ((w1.alloc (.cells #[.pointer none, .slice none 0 0] 60)).cell? ⟨w.heap.size, 2, none⟩ = some (.int .i64 z)) ∧ ((w1.alloc (.cells #[.pointer none, .slice none 0 0] 60)).cell? ⟨w.heap.size, 3, none⟩ = some (.int .i64 t)) ∧ ((w1.alloc (.cells #[.pointer none, .slice none 0 0] 60)).cell? ⟨w.heap.size, 4, none⟩ = some (.string s)) := ⟨HQ2.out.cell 0, HQ2.out.cell 1, HQ2.out.cell 2, HQ2.out.cell 3, HQ2.out.cell 4⟩
    clear hb2 hb3 hW hf hsz3 HQ2
    go_wp2_with fail
    refine K1.out.mono ?_
    rintro e w4 ⟨rfl, ⟨T4, hW4⟩, hk4⟩
    have e4 : w4.cell? ⟨w.heap.size, 4, none⟩ = some (.string s) := by rw [hk4.cell (by omega) (by omega)]; exact HQ3.out.cell 4
    have HM4 := Lib.hid (HM3.out.belowB (hk4.1 9 h91) (Nat.le_refl _))
    have HB4 := Lib.hid (HB3.out.trans (hk4.1 w1.heap.size (Nat.le_refl _)))
    have hx5 := below1 w4 (.cells #[.string s] 9)
    have K2 := Lib.hid (writerText (w1.heap.size + 2) T4 w1.heap.size w4.heap.size 0 1 _ s _ (hW4.below hx5) (HM4.out.below hx5) h91 (by have := numsL4_len (HOK.out 0 (by simp)) (HOK.out 1 (by simp)) (HOK.out 2 (by simp)) (HOK.out 3 (by simp)); simp only [List.nil_append]; change (numsL [x, y, z, t]).length ≤ 88 at this; omega) (by have := hW4.1.1; have := hW4.1.2.1; omega) ((BlkIs.alloc w4 [.string s] 9).cell 0))
    have HX5 := Lib.hid (HB4.out.trans (hx5.mono HB4.out.size))
    clear hW4 hk4 hx5 d0 d1 d2 d3 d4 K1
    go_wp2_with fail
    refine K2.out.mono ?_
    rintro e w6 ⟨rfl, ⟨T6, hW6⟩, hk6⟩
    have HB6 := Lib.hid (HX5.out.trans (hk6.1 w1.heap.size (Nat.le_refl _)))
    have hnn : ([] ++ numsL [x, y, z, t]) ++ textL s.data.toList ≠ [] := fun e => by simp [numsL, numL] at e
    have K3 := Lib.hid (writerString (w1.heap.size + 2) T6 w1.heap.size _ w6 hW6 hnn)
    clear hW6 hk6 hnn e4 K2
    go_wp2_with fail
    refine K3.out.mono ?_
    rintro e w7 ⟨rfl, hk7⟩
    have HB7 := Lib.hid (HX.out.trans ((HB6.out.trans (hk7.1.mono (by omega))).mono HX.out.size))
    clear hk7
    go_wp2
    go_ret
    exact ⟨by rw [HR.out]; rfl, HB7.out⟩
end Go.Proofs.YtbbcicengfmhiaaDoor

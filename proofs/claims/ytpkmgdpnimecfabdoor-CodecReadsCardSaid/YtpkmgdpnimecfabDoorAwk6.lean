/- The statements' own awake of layer 6 answers true. No condition but what the listed variables hold. -/
import Derived.Test.YtpkmgdpnimecfabDoorCod4
import Derived.Deep.DeepCutAuto
namespace Go.Proofs.YtpkmgdpnimecfabDoor
open Go.RowKit

theorem itoa5 : Lib.itoa 5 = [53] := by rw [show (5 : Int) = ((5 : Nat) : Int) from rfl, Lib.itoa_nonneg, Lib.decDigits_one (by decide)]; rfl
theorem itoa2 : Lib.itoa 2 = [50] := by rw [show (2 : Int) = ((2 : Nat) : Int) from rfl, Lib.itoa_nonneg, Lib.decDigits_one (by decide)]; rfl
theorem itoaM1 : Lib.itoa (-1) = [45, 49] := by rw [show (-1 : Int) = -((1 : Nat) : Int) from rfl, Lib.itoa_neg 1 (by decide), Lib.decDigits_one (by decide)]; rfl
theorem text6 : ([] ++ numsL [5, -1]) ++ textL [97, 98] = [53, 44, 45, 49, 44, 50, 44, 97, 98] := by
  simp only [numsL, List.flatMap_cons, List.flatMap_nil, numL, textL, itoa5, itoaM1, List.length_cons, List.length_nil]
  rw [show (((0 + 1 + 1 : Nat) : Int)) = 2 from rfl, itoa2]
  rfl
theorem rd1 : rdStep [53, 44, 45, 49, 44, 50, 44, 97, 98] false 0 9 = (5, [45, 49, 44, 50, 44, 97, 98], false) := by
  refine rdStep_some ?_
  have := rdInt_num (n := 5) (lo := 0) (hi := 9) [45, 49, 44, 50, 44, 97, 98] (by decide) (by decide)
  rw [itoa5] at this
  exact this
theorem rd2 : rdStep [45, 49, 44, 50, 44, 97, 98] false (-1) 0 = (-1, [50, 44, 97, 98], false) := by
  refine rdStep_some ?_
  have := rdInt_num (n := -1) (lo := -1) (hi := 0) [50, 44, 97, 98] (by decide) (by decide)
  rw [itoaM1] at this
  exact this
theorem rd3 : rdText [50, 44, 97, 98] false 2 = ([97, 98], [], false) := by
  have h : rdStep [50, 44, 97, 98] false 0 2 = (2, [97, 98], false) := by
    refine rdStep_some ?_
    have := rdInt_num (n := 2) (lo := 0) (hi := 2) [97, 98] (by decide) (by decide)
    rw [itoa2] at this
    exact this
  unfold rdText
  rw [h]
  rfl
theorem rd4 : rdStep [48, 53, 44] false 0 9 = (0, [48, 53, 44], true) := by
  refine rdStep_none ?_
  unfold rdInt
  have := cut_hit [48, 53] [] (by decide)
  rw [show ([48, 53] ++ 44 :: [] : List UInt8) = [48, 53, 44] from rfl] at this
  rw [this]
  have h2 : Lib.atoiAll [48, 53] = .ok 5 := by decide
  simp only [if_true, h2, itoa5]
  rw [if_neg (by decide)]

theorem alloc_at (w : World) (A : Obj) : (w.alloc A).heap[w.heap.size]? = some A := (MapKept.heap_alloc w _).1
theorem alloc_at2 (w : World) (A S : Obj) : ((w.alloc A).alloc S).heap[w.heap.size]? = some A := ((below1 (w.alloc A) S).block _ (by simp)).trans (alloc_at w A)
set_option maxRecDepth 100000 in
set_option maxHeartbeats 4000000 in
theorem awake06 (w : World) (hM : Met w) : Calls Tryd.prog 41 #[] w fun e w' => e = .returned (.bool true) ∧ Below w.heap.size w w' := by
  have h5 := hM.size
  have HM := Lib.hid hM
  go_enter Tryd.func41, Tryd.ntmps41
  go_upto_region 2 with fail
  have hb0 := below2 w (.cells #[.pointer none, .slice none 0 0] 59) (.cells #[.int .i64 5, .int .i64 (-1)] 3)
  have hW : WrAt (w.heap.size + 2) (w.heap.size + 2) w.heap.size [] ((w.alloc (.cells #[.pointer none, .slice none 0 0] 59)).alloc (.cells #[.int .i64 5, .int .i64 (-1)] 3)) :=
    WrAt.fresh _ (by omega) (by simp) (alloc_at2 _ _ _)
  have hc : ∀ j, j < [(5 : Int), -1].length → ((w.alloc (.cells #[.pointer none, .slice none 0 0] 59)).alloc (.cells #[.int .i64 5, .int .i64 (-1)] 3)).cell? ⟨w.heap.size + 1, 0 + j, none⟩ = some (.int .i64 [(5 : Int), -1][j]!) := by
    intro j hj
    match j, hj with
    | 0, _ => go_simp
    | 1, _ => go_simp
  have H0 := Lib.hid (And.intro hb0 (And.intro hW hc))
  clear hb0 hW hc
  go_wp2_with fail
  generalize ((w.alloc (.cells #[.pointer none, .slice none 0 0] 59)).alloc (.cells #[.int .i64 5, .int .i64 (-1)] 3)) = W1 at H0 ⊢
  refine (writerInt (w.heap.size + 2) (w.heap.size + 2) w.heap.size (w.heap.size + 1) 0 2 [] [5, -1] W1 H0.out.2.1 (HM.out.below H0.out.1) h5 (by
    intro j hj
    match j, hj with
    | 0, _ => exact ⟨by decide, by decide⟩
    | 1, _ => exact ⟨by decide, by decide⟩) (by decide) (by omega) (.inl (by omega)) H0.out.2.2).mono ?_
  rintro e w2 ⟨rfl, ⟨T2, hW2⟩, hk2⟩
  have HB := Lib.hid (H0.out.1.trans (hk2.1 _ (Nat.le_refl _)))
  have HW := Lib.hid hW2
  clear hW2 hk2
  go_wp2_with fail
  have H3 := Lib.hid (show (w2.alloc (.cells #[.string ⟨#[97, 98]⟩] 9)).cell? ⟨w2.heap.size, 0, none⟩ = some (.string ⟨#[97, 98]⟩) by go_simp)
  refine (writerText (w.heap.size + 2) T2 w.heap.size w2.heap.size 0 1 ([] ++ numsL [5, -1]) ⟨#[97, 98]⟩ (w2.alloc (.cells #[.string ⟨#[97, 98]⟩] 9)) (HW.out.below (below1 _ _)) ((HM.out.below HB.out).below (below1 _ _)) h5 (by
    have h1 := numL_len (n := 5) ⟨by decide, by decide⟩
    have h2 := numL_len (n := -1) ⟨by decide, by decide⟩
    simp only [numsL, List.flatMap_cons, List.flatMap_nil, List.append_nil, List.nil_append, List.length_append]
    have h3 : (⟨#[97, 98]⟩ : ByteArray).size = 2 := rfl
    omega) (by have := HW.out.1; omega) H3.out).mono ?_
  rintro e w3 ⟨rfl, ⟨T3, hW3⟩, hk3⟩
  have HB3 := Lib.hid ((HB.out.trans ((below1 w2 (.cells #[.string ⟨#[97, 98]⟩] 9)).mono HB.out.size)).trans (hk3.1 _ (Nat.le_refl _)))
  have HW3 := Lib.hid hW3
  rw [text6] at HW3
  clear hW3 hk3
  go_wp2_with fail
  refine (writerString (w.heap.size + 2) T3 w.heap.size _ w3 HW3.out (by simp)).mono ?_
  rintro e w4 ⟨rfl, hk4⟩
  have HB4 := Lib.hid (HB3.out.trans (hk4.1.mono (by omega)))
  clear hk4
  go_wp2_with fail
  refine (readerNew _ _).mono ?_
  rintro e w5 ⟨rfl, hr5, hb5⟩
  have HB5 := Lib.hid (HB4.out.trans (hb5.mono HB4.out.size))
  have HR5 := Lib.hid hr5
  have hb45 := HB4.out.size
  clear hr5 hb5
  go_wp2_with fail
  have q1 := readerInt w4.heap.size [53, 44, 45, 49, 44, 50, 44, 97, 98] false 0 9 w5 HR5.out (HM.out.below HB5.out) (by omega) (by decide)
  unfold IntPost at q1
  rw [rd1] at q1
  refine q1.mono ?_
  rintro e w6 ⟨rfl, hr6, hk6⟩
  have HR6 := Lib.hid hr6
  have HB6 := Lib.hid (HB5.out.trans (hk6.1 _ (by omega)))
  clear q1 hr6 hk6
  go_wp2_with fail
  have q1 := readerInt w4.heap.size [45, 49, 44, 50, 44, 97, 98] false (-1) 0 w6 HR6.out (HM.out.below HB6.out) (by omega) (by decide)
  unfold IntPost at q1
  rw [rd2] at q1
  refine q1.mono ?_
  rintro e w7 ⟨rfl, hr7, hk7⟩
  have HR7 := Lib.hid hr7
  have HB7 := Lib.hid (HB6.out.trans (hk7.1 _ (by omega)))
  clear q1 hr7 hk7
  go_wp2_with fail
  have q1 := readerText w4.heap.size [50, 44, 97, 98] false 2 w7 HR7.out (HM.out.below HB7.out) (by omega) (by decide)
  unfold TextPost at q1
  rw [rd3] at q1
  refine q1.mono ?_
  rintro e w8 ⟨rfl, hr8, hk8⟩
  have HR8 := Lib.hid hr8
  have HB8 := Lib.hid (HB7.out.trans (hk8.1 _ (by omega)))
  clear q1 hr8 hk8
  go_wp2_with fail
  refine (readerDone w4.heap.size [] false w8 HR8.out).mono ?_
  rintro e w' ⟨rfl, rfl⟩
  go_wp2_with fail
  refine (readerNew _ _).mono ?_
  rintro e w9 ⟨rfl, hr9, hb9⟩
  have HR9 := Lib.hid hr9
  have HB9 := Lib.hid (HB8.out.trans (hb9.mono HB8.out.size))
  have hb89 := HB8.out.size
  clear hr9 hb9
  go_wp2_with fail
  have q1 := readerInt w8.heap.size [48, 53, 44] false 0 9 w9 HR9.out (HM.out.below HB9.out) (by omega) (by decide)
  unfold IntPost at q1
  rw [rd4] at q1
  refine q1.mono ?_
  rintro e w10 ⟨rfl, hr10, hk10⟩
  have HR10 := Lib.hid hr10
  have HB10 := Lib.hid (HB9.out.trans (hk10.1 _ (by omega)))
  clear q1 hr10 hk10
  go_wp2_with fail
  refine (readerOk w8.heap.size _ true w10 HR10.out).mono ?_
  rintro e w' ⟨rfl, rfl⟩
  go_wp2_with fail
  refine (readerNew _ _).mono ?_
  rintro e w11 ⟨rfl, hr11, hb11⟩
  have HR11 := Lib.hid hr11
  have HB11 := Lib.hid (HB10.out.trans (hb11.mono HB10.out.size))
  clear hr11 hb11
  go_wp2_with fail
  refine (readerDone w10.heap.size [97] false w11 HR11.out).mono ?_
  rintro e w' ⟨rfl, rfl⟩
  go_wp2
  go_ret
  exact ⟨rfl, HB11.out⟩
end Go.Proofs.YtpkmgdpnimecfabDoor

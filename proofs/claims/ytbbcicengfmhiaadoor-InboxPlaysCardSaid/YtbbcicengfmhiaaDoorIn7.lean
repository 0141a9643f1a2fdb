/- inbox.Read. Conditions: sizes. -/
import Derived.Test.YtbbcicengfmhiaaDoorIn1
import Derived.Test.YtbbcicengfmhiaaDoorRel1
import Derived.Test.YtbbcicengfmhiaaDoorCod4
namespace Go.Proofs.YtbbcicengfmhiaaDoor
set_option maxRecDepth 100000
open Go.RowKit

theorem rdR_le (s : List UInt8) (bad : Bool) (lo hi : Int) : (rdStep s bad lo hi).2.1.length ≤ s.length := by
  cases hb : (rdStep s bad lo hi).2.2 with
  | false => exact (rdStep_bounds hb).2.2
  | true =>
    unfold rdStep at hb ⊢
    split
    · simp
    · rename_i h
      split
      · rename_i n r hr
        rw [if_neg h] at hb
        simp [hr] at hb
      · simp
set_option maxHeartbeats 4000000 in
theorem inbRead (s : ByteArray) (w : World) (hs : s.size ≤ 1000000) (hM : Met w) : Calls Tryd.prog 37 #[.string s] w fun e w' => e = .returned (.tuple #[.agg (encR (readR s.data.toList).1).toArray, .bool (readR s.data.toList).2]) ∧ Below w.heap.size w w' := by
  have hx := below1 w (.cells #[.int .i64 0, .int .i64 0, .int .i64 0, .int .i64 0, .string ⟨#[]⟩] 75)
  have HQ := Lib.hid (BlkIs.alloc w [.int .i64 0, .int .i64 0, .int .i64 0, .int .i64 0, .string ⟨#[]⟩] 75)
  have HM := Lib.hid (hM.below hx)
  have HX := Lib.hid hx
  have h9 := hM.size
  have hl0 : s.data.toList.length ≤ 1000000 := by rw [size_toList]; exact hs
  clear hx hM
  go_enter Tryd.func37, Tryd.ntmps37
  go_wp2_with fail
  generalize w.alloc (.cells #[.int .i64 0, .int .i64 0, .int .i64 0, .int .i64 0, .string ⟨#[]⟩] 75) = W0 at HQ HM HX ⊢
  generalize hge : w.heap.size = g at *
  have HGE := Lib.hid hge
  clear hge
  refine (readerNew s W0).mono ?_
  rintro e w1 ⟨rfl, hr, hb⟩
  have hgb := HQ.out.lt
  have HR := Lib.hid hr
  have HQ := Lib.hid (HQ.out.below hb)
  have HX := Lib.hid (HX.out.trans (hb.mono (by omega)))
  have HM := Lib.hid (HM.out.below hb)
  clear hr hb
  generalize hde : s.data.toList = dt at *
  have HSD := Lib.hid hde
  clear hde
  generalize W0.heap.size = b at *
  have h9b : 9 ≤ b := by omega
  obtain ⟨R1, hR1⟩ : ∃ R, R = rdStep dt false 0 1000 := ⟨_, rfl⟩
  have HE1 := Lib.hid hR1
  have hl1 : R1.2.1.length ≤ 1000000 := by rw [hR1]; exact Nat.le_trans (rdR_le _ _ _ _) hl0
  have KR := Lib.hid (readerInt b dt false 0 1000 w1 HR.out HM.out h9b (by omega))
  clear hR1
  go_wp2_with fail
  refine KR.out.mono ?_
  rintro e w2 hp
  unfold IntPost at hp
  rw [← HE1.out] at hp
  obtain ⟨rfl, hr, hk⟩ := hp
  have HR := Lib.hid hr
  have HQ := Lib.hid (BlkIs.of HQ.out (hk.2.1 g HQ.out.lt (by omega)))
  have HX := Lib.hid (HX.out.trans (hk.1 g (by omega)))
  have HM := Lib.hid (hk.met HM.out h9b)
  clear hr hk KR
  obtain ⟨R2, hR2⟩ : ∃ R, R = rdStep R1.2.1 R1.2.2 0 3 := ⟨_, rfl⟩
  have HE2 := Lib.hid hR2
  have hl2 : R2.2.1.length ≤ 1000000 := by rw [hR2]; exact Nat.le_trans (rdR_le _ _ _ _) hl1
  have KR := Lib.hid (readerInt b R1.2.1 R1.2.2 0 3 w2 HR.out HM.out h9b (by omega))
  clear hR2
  go_wp2_with fail
  refine KR.out.mono ?_
  rintro e w3 hp
  unfold IntPost at hp
  rw [← HE2.out] at hp
  obtain ⟨rfl, hr, hk⟩ := hp
  have HR := Lib.hid hr
  have HQ := Lib.hid (BlkIs.of HQ.out (hk.2.1 g HQ.out.lt (by omega)))
  have HX := Lib.hid (HX.out.trans (hk.1 g (by omega)))
  have HM := Lib.hid (hk.met HM.out h9b)
  clear hr hk KR
  obtain ⟨R3, hR3⟩ : ∃ R, R = rdStep R2.2.1 R2.2.2 0 15 := ⟨_, rfl⟩
  have HE3 := Lib.hid hR3
  have hl3 : R3.2.1.length ≤ 1000000 := by rw [hR3]; exact Nat.le_trans (rdR_le _ _ _ _) hl2
  have KR := Lib.hid (readerInt b R2.2.1 R2.2.2 0 15 w3 HR.out HM.out h9b (by omega))
  clear hR3
  go_wp2_with fail
  refine KR.out.mono ?_
  rintro e w4 hp
  unfold IntPost at hp
  rw [← HE3.out] at hp
  obtain ⟨rfl, hr, hk⟩ := hp
  have HR := Lib.hid hr
  have HQ := Lib.hid (BlkIs.of HQ.out (hk.2.1 g HQ.out.lt (by omega)))
  have HX := Lib.hid (HX.out.trans (hk.1 g (by omega)))
  have HM := Lib.hid (hk.met HM.out h9b)
  clear hr hk KR
  obtain ⟨R4, hR4⟩ : ∃ R, R = rdStep R3.2.1 R3.2.2 0 7 := ⟨_, rfl⟩
  have HE4 := Lib.hid hR4
  have hl4 : R4.2.1.length ≤ 1000000 := by rw [hR4]; exact Nat.le_trans (rdR_le _ _ _ _) hl3
  have KR := Lib.hid (readerInt b R3.2.1 R3.2.2 0 7 w4 HR.out HM.out h9b (by omega))
  clear hR4
  go_wp2_with fail
  refine KR.out.mono ?_
  rintro e w5 hp
  unfold IntPost at hp
  rw [← HE4.out] at hp
  obtain ⟨rfl, hr, hk⟩ := hp
  have HR := Lib.hid hr
  have HQ := Lib.hid (BlkIs.of HQ.out (hk.2.1 g HQ.out.lt (by omega)))
  have HX := Lib.hid (HX.out.trans (hk.1 g (by omega)))
  have HM := Lib.hid (hk.met HM.out h9b)
  clear hr hk KR
  obtain ⟨X, hX⟩ : ∃ X, X = rdText R4.2.1 R4.2.2 32 := ⟨_, rfl⟩
  have HE5 := Lib.hid hX
  have KR := Lib.hid (readerText b R4.2.1 R4.2.2 32 w5 HR.out HM.out h9b (by omega))
  clear hX
  go_wp2_with fail
  refine KR.out.mono ?_
  rintro e w6 hp
  unfold TextPost at hp
  rw [← HE5.out] at hp
  obtain ⟨rfl, hr, hk⟩ := hp
  have HR := Lib.hid hr
  have HQ := Lib.hid (BlkIs.of HQ.out (hk.2.1 g HQ.out.lt (by omega)))
  have HX := Lib.hid (HX.out.trans (hk.1 g (by omega)))
  have HF := Lib.hid (show readR dt = if (!X.2.2 && X.2.1.isEmpty) = true then ((R1.1, R2.1, R3.1, R4.1, ⟨X.1.toArray⟩), true) else (noR, false) by rw [HE5.out, HE4.out, HE3.out, HE2.out, HE1.out]; rfl)
  clear hr hk KR HM
  generalize R1.1 = a1 at HF ⊢
  generalize R2.1 = a2 at HF ⊢
  generalize R3.1 = a3 at HF ⊢
  generalize R4.1 = a4 at HF ⊢
  obtain ⟨tx, rest, bad⟩ := X
  dsimp only at HF HR ⊢
  have hgw6 := HQ.out.lt
  have hb7 := below1 w6 (.cells #[.int .i64 a1, .int .i64 a2, .int .i64 a3, .int .i64 a4, .string ⟨tx.toArray⟩] 75)
  have HN := Lib.hid (BlkIs.alloc w6 [.int .i64 a1, .int .i64 a2, .int .i64 a3, .int .i64 a4, .string ⟨tx.toArray⟩] 75)
  have HQ := Lib.hid (HQ.out.below hb7)
  have HR := Lib.hid (HR.out.below hb7)
  have HX := Lib.hid (HX.out.trans (hb7.mono (by have := hgw6; omega)))
  clear hb7
  go_wp2_with fail
  generalize w6.alloc (.cells #[.int .i64 a1, .int .i64 a2, .int .i64 a3, .int .i64 a4, .string ⟨tx.toArray⟩] 75) = W7 at HN HQ HR HX ⊢
  generalize w6.heap.size = q at HN ⊢
  refine (readerDone b rest bad W7 HR.out).mono ?_
  rintro e w8 ⟨rfl, rfl⟩
  have q0 := HQ.out.cell 0
  have q1 := HQ.out.cell 1
  have q2 := HQ.out.cell 2
  have q3 := HQ.out.cell 3
  have q4 := HQ.out.cell 4
  have n0 := HN.out.cell 0
  have n1 := HN.out.cell 1
  have n2 := HN.out.cell 2
  have n3 := HN.out.cell 3
  have n4 := HN.out.cell 4
  have f0 := HQ.out.frozen 0
  have f1 := HQ.out.frozen 1
  have f2 := HQ.out.frozen 2
  have f3 := HQ.out.frozen 3
  have f4 := HQ.out.frozen 4
  simp only [List.getElem?_cons_zero, List.getElem?_cons_succ] at q0 q1 q2 q3 q4 n0 n1 n2 n3 n4
  cases hd : (!bad && rest.isEmpty) with
  | true =>
    have HF2 := Lib.hid (HF.out.trans (if_pos hd))
    go_wp2
    refine bodyPost_ret (v := .tuple #[.agg #[.int .i64 a1, .int .i64 a2, .int .i64 a3, .int .i64 a4, .string ⟨tx.toArray⟩], .bool true]) (by rw [results_cell_tmp rfl]; go_simp) rfl ⟨?_, ?_⟩
    · rw [HSD.out, HF2.out]; rfl
    · rw [HGE.out]; exact HX.out.trans ((((((KeptG.set g 0 W7 _).trans (KeptG.set g 1 _ _)).trans (KeptG.set g 2 _ _)).trans (KeptG.set g 3 _ _)).trans (KeptG.set g 4 _ _)).1 g (Nat.le_refl _))
  | false =>
    have HF2 := Lib.hid (HF.out.trans (if_neg (by rw [hd]; decide)))
    go_wp2
    refine bodyPost_ret (v := .tuple #[.agg #[.int .i64 0, .int .i64 0, .int .i64 0, .int .i64 0, .string ⟨#[]⟩], .bool false]) (by rw [results_cell_tmp rfl]; go_simp) rfl ⟨?_, ?_⟩
    · rw [HSD.out, HF2.out]; rfl
    · rw [HGE.out]; exact HX.out.trans ((((((KeptG.set g 0 W7 _).trans (KeptG.set g 1 _ _)).trans (KeptG.set g 2 _ _)).trans (KeptG.set g 3 _ _)).trans (KeptG.set g 4 _ _)).1 g (Nat.le_refl _))
end Go.Proofs.YtbbcicengfmhiaaDoor

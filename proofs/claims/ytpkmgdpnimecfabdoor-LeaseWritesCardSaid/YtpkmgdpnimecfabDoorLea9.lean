/- LeaseWrites: a try is written as its numbers, and read as it was; numbers that are none stop the reader. Every input. -/
import Derived.Test.YtpkmgdpnimecfabDoorLea8
namespace Go.Proofs.YtpkmgdpnimecfabDoor
open Go.ChangeShapes Go.WideShapes Go.ChangeAt Go.RowKit

set_option maxRecDepth 100000 in
set_option maxHeartbeats 16000000 in
theorem leaseWrites_walk (s si m k l u : Int) (t : ByteArray) (w : World) (o1 : okI s) (o2 : okI si) (o3 : okI m) (o4 : okI k) (o5 : okI l) (o6 : okI u) (hM : Met w) :
    Calls Tryd.prog 14 #[(.agg #[.int .i64 (s), .int .i64 (si), .int .i64 (m), .int .i64 (k), .int .i64 (l), .int .i64 (u)]), .string t] w fun e w' => e = .returned (.bool true) ∧ Below w.heap.size w w' := by
  have HM := Lib.hid hM
  have hL : ∀ n, okI n → (numL n).length ≤ 22 := fun n h => numL_len h
  have hW6 := six_want o1 o2 o3 o4 o5 o6
  have hWn := want_nums s si m k l u
  have hWl : (wantL s si m k l u).length ≤ 132 := by
    have := hL s o1; have := hL si o2; have := hL m o3; have := hL k o4; have := hL l o5; have := hL u o6
    unfold wantL
    simp only [List.length_append, List.length_nil]
    omega
  have hWne : wantL s si m k l u ≠ [] := by unfold wantL; simp [numL_ne]
  have a1 : ∀ W, (Op.stringOp .add ⟨(numL s).toArray⟩ ⟨(numL si).toArray⟩).run Tryd.prog W = .ok (.string ⟨(numL s ++ numL si).toArray⟩) W := fun W => run_string_add_lists W _ _ (by have := hL s o1; omega) (by have := hL si o2; omega)
  have a2 : ∀ W, (Op.stringOp .add ⟨(numL s ++ numL si).toArray⟩ ⟨(numL m).toArray⟩).run Tryd.prog W = .ok (.string ⟨(numL s ++ numL si ++ numL m).toArray⟩) W := fun W => run_string_add_lists W _ _ (by have := hL s o1; have := hL si o2; simp only [List.length_append]; omega) (by have := hL m o3; omega)
  have a3 : ∀ W, (Op.stringOp .add ⟨(numL s ++ numL si ++ numL m).toArray⟩ ⟨(numL k).toArray⟩).run Tryd.prog W = .ok (.string ⟨(numL s ++ numL si ++ numL m ++ numL k).toArray⟩) W := fun W => run_string_add_lists W _ _ (by have := hL s o1; have := hL si o2; have := hL m o3; simp only [List.length_append]; omega) (by have := hL k o4; omega)
  have a4 : ∀ W, (Op.stringOp .add ⟨(numL s ++ numL si ++ numL m ++ numL k).toArray⟩ ⟨(numL l).toArray⟩).run Tryd.prog W = .ok (.string ⟨(numL s ++ numL si ++ numL m ++ numL k ++ numL l).toArray⟩) W := fun W => run_string_add_lists W _ _ (by have := hL s o1; have := hL si o2; have := hL m o3; have := hL k o4; simp only [List.length_append]; omega) (by have := hL l o5; omega)
  have a5 : ∀ W, (Op.stringOp .add ⟨(numL s ++ numL si ++ numL m ++ numL k ++ numL l).toArray⟩ ⟨(numL u).toArray⟩).run Tryd.prog W = .ok (.string ⟨(wantL s si m k l u).toArray⟩) W := fun W => by
    have := run_string_add_lists (P := Tryd.prog) W (numL s ++ numL si ++ numL m ++ numL k ++ numL l) (numL u) (by have := hL s o1; have := hL si o2; have := hL m o3; have := hL k o4; have := hL l o5; simp only [List.length_append]; omega) (by have := hL u o6; omega)
    rw [this]
    unfold wantL
    simp
  have K1 := Lib.hid (ref06Int s o1)
  have K2 := Lib.hid (ref06Int si o2)
  have K3 := Lib.hid (ref06Int m o3)
  have K4 := Lib.hid (ref06Int k o4)
  have K5 := Lib.hid (ref06Int l o5)
  have K6 := Lib.hid (ref06Int u o6)
  generalize (⟨(numL s).toArray⟩ : ByteArray) = S1 at a1 K1
  generalize (⟨(numL si).toArray⟩ : ByteArray) = S2 at a1 K2
  generalize (⟨(numL m).toArray⟩ : ByteArray) = S3 at a2 K3
  generalize (⟨(numL k).toArray⟩ : ByteArray) = S4 at a3 K4
  generalize (⟨(numL l).toArray⟩ : ByteArray) = S5 at a4 K5
  generalize (⟨(numL u).toArray⟩ : ByteArray) = S6 at a5 K6
  generalize (⟨(numL s ++ numL si).toArray⟩ : ByteArray) = A2 at a1 a2
  generalize (⟨(numL s ++ numL si ++ numL m).toArray⟩ : ByteArray) = A3 at a2 a3
  generalize (⟨(numL s ++ numL si ++ numL m ++ numL k).toArray⟩ : ByteArray) = A4 at a3 a4
  generalize (⟨(numL s ++ numL si ++ numL m ++ numL k ++ numL l).toArray⟩ : ByteArray) = A5 at a4 a5
  have q43 := fun W => readerNew ⟨(wantL s si m k l u).toArray⟩ W
  rw [show (⟨(wantL s si m k l u).toArray⟩ : ByteArray).data.toList = wantL s si m k l u from rfl] at q43
  have q40 := fun (R T b : Nat) (W : World) (h : WrAt R T b (wantL s si m k l u) W) => writerString R T b _ W h hWne
  have q57 := fun (c : Nat) (W : World) (h : RdAt c (wantL s si m k l u) false W) (hm : Met W) (h5 : 7 ≤ c) => leaseRead c (wantL s si m k l u) false W h hm h5 (by omega)
  have q56 := fun (R T b : Nat) (W : World) (h : WrAt R T b [] W) (hm : Met W) (h5 : 7 ≤ b) => leaseWrite R T b [] s si m k l u W h hm h5 o1 o2 o3 o4 o5 o6 (by simp)
  rw [hWn] at q56
  generalize (⟨(wantL s si m k l u).toArray⟩ : ByteArray) = TW at a5 q43 q40
  have HW6 := Lib.hid hW6
  have Q43 := Lib.hid q43
  have Q40 := Lib.hid q40
  have Q57 := Lib.hid q57
  have Q56 := Lib.hid q56
  have hgu := eqGuardT
  have hE : ∀ (a b c d e f : Int) W, (binOp .eql 84 (.agg #[.int .i64 (a), .int .i64 (b), .int .i64 (c), .int .i64 (d), .int .i64 (e), .int .i64 (f)]) (.agg #[.int .i64 (a), .int .i64 (b), .int .i64 (c), .int .i64 (d), .int .i64 (e), .int .i64 (f)])).run Tryd.prog W = .ok (.bool true) W := fun a b c d e f W => by rw [run_eqT]; simp
  clear hM hL hW6 hWn hWl hWne q43 q40 q57 q56
  have HB := Lib.hid (below1 w (.cells #[.int .i64 (s), .int .i64 (si), .int .i64 (m), .int .i64 (k), .int .i64 (l), .int .i64 (u)] 84))
  have HX := Lib.hid (TxAt.mk w s si m k l u)
  by_cases ht : 300 < t.size
  · go_enter Tryd.func14, Tryd.ntmps14
    go_wp2_with fail
    refine (awake11 _).mono ?_
    rintro e w1 ⟨rfl, hb⟩
    have HB := Lib.hid (HB.out.trans (hb.mono HB.out.size))
    clear hb
    go_wp2_with fail
    refine (awake11 _).mono ?_
    rintro e w2 ⟨rfl, hb⟩
    have HB := Lib.hid (HB.out.trans (hb.mono HB.out.size))
    clear hb
    go_wp2
    go_ret
    exact ⟨rfl, HB.out⟩
  · go_enter Tryd.func14, Tryd.ntmps14
    go_wp2_with fail
    refine (awake11 _).mono ?_
    rintro e w1 ⟨rfl, hb⟩
    have HB := Lib.hid (HB.out.trans (hb.mono HB.out.size))
    have HX := Lib.hid (HX.out.below hb)
    clear hb
    go_upto_region 4 with fail
    have hb7 : 7 ≤ w1.heap.size := Nat.le_trans HM.out.size HB.out.size
    have hbw : w.heap.size < w1.heap.size := HX.out.lt
    have hh := (MapKept.heap_alloc w1 (.cells #[.pointer none, .slice none 0 0] 59)).1
    have hba := below1 w1 (.cells #[.pointer none, .slice none 0 0] 59)
    have HWr := Lib.hid (WrAt.fresh (b := w1.heap.size) (w1.heap.size + 1) (by omega) (by simp) hh)
    have HB := Lib.hid (HB.out.trans (hba.mono HB.out.size))
    have HX := Lib.hid (HX.out.below hba)
    clear hh hba
    generalize w1.alloc (.cells #[.pointer none, .slice none 0 0] 59) = W0 at HWr HB HX ⊢
    generalize w1.heap.size = b at hb7 hbw HWr ⊢
    obtain ⟨c0, c1, c2, c3, c4, c5⟩ := HX.out.cells
    go_wp2_with fail
    refine (Q56.out (b + 1) (b + 1) b _ HWr.out (HM.out.below HB.out) hb7).mono ?_
    rintro e w2 ⟨rfl, ⟨T2, hT2⟩, hk⟩
    have HB := Lib.hid (HB.out.trans (hk.1 _ (by omega)))
    have HX : Hid (TxAt w.heap.size s si m k l u w2) := Lib.hid (((hk.1 b (Nat.le_refl _)).block _ hbw).trans HX.out)
    have HWr := Lib.hid (show WrAt (b + 1) T2 b (wantL s si m k l u) w2 by simpa using hT2)
    clear hT2 hk c0 c1 c2 c3 c4 c5
    obtain ⟨c0, c1, c2, c3, c4, c5⟩ := HX.out.cells
    have hxz := HX.out.lt
    generalize hbx : w.heap.size = bx at c0 c1 c2 c3 c4 c5 hxz HX hbw ⊢
    have HBX := Lib.hid hbx
    clear hbx
    go_upto_region 5 with fail
    go_region_held3 (fun w' => (∀ b o, b < (w2).heap.size → w'.cell? ⟨b, o, none⟩ = (w2).cell? ⟨b, o, none⟩) ∧ Below (w2).heap.size (w2) w') (first | exact stay0 _ | exact stay ‹_› ‹_› | exact ‹_›)
      (first
        | (go_at_call 52; (with_reducible refine (K1.out _).mono ?_); rintro e w' ⟨rfl, hb⟩)
        | (go_at_call 52; (with_reducible refine (K2.out _).mono ?_); rintro e w' ⟨rfl, hb⟩)
        | (go_at_call 52; (with_reducible refine (K3.out _).mono ?_); rintro e w' ⟨rfl, hb⟩)
        | (go_at_call 52; (with_reducible refine (K4.out _).mono ?_); rintro e w' ⟨rfl, hb⟩)
        | (go_at_call 52; (with_reducible refine (K5.out _).mono ?_); rintro e w' ⟨rfl, hb⟩)
        | (go_at_call 52; (with_reducible refine (K6.out _).mono ?_); rintro e w' ⟨rfl, hb⟩))
    have hfin := (show (fun w' => (∀ b o, b < (w2).heap.size → w'.cell? ⟨b, o, none⟩ = (w2).cell? ⟨b, o, none⟩) ∧ Below (w2).heap.size (w2) w') w' from ‹_›)
    have HB := Lib.hid (HB.out.trans (hfin.2.mono HB.out.size))
    have HX := Lib.hid (HX.out.below hfin.2)
    have HWr := Lib.hid (HWr.out.below hfin.2)
    clear hfin c0 c1 c2 c3 c4 c5
    go_wp2_with fail
    refine (Q43.out _).mono ?_
    rintro e w3 ⟨rfl, hr, hb⟩
    have hTc : T2 ≤ w'.heap.size := HWr.out.1.2.2
    have hbc : b + 1 ≤ w'.heap.size := HWr.out.1.2.1
    have HB := Lib.hid (HB.out.trans (hb.mono HB.out.size))
    have HX := Lib.hid (HX.out.below hb)
    have HWr := Lib.hid (HWr.out.below hb)
    generalize w'.heap.size = c at hr hTc hbc ⊢
    have HC := Lib.hid hr
    clear hr hb
    have hbxc : bx ≠ c := by omega
    have hbcn : b ≠ c := by omega
    have hbxw : w.heap.size = bx := HBX.out
    go_wp2_with fail
    refine (Q57.out c _ HC.out (HM.out.below HB.out) (by omega)).mono ?_
    rintro e w4 hp
    rcases hp with ⟨h1, rfl, hr4, hk⟩ | ⟨h1, rfl, hr4, hk⟩
    · have hok : rightT s si m k l u = true := by rw [← HW6.out.1]; exact h1
      have e6 := HW6.out.2 hok
      rw [e6] at hr4 ⊢
      simp only at hr4 ⊢
      have HB := Lib.hid (HB.out.trans (hk.1 _ (by omega)))
      have HX := Lib.hid (HX.out.kept hk hbxc)
      have HWr := Lib.hid (HWr.out.keptB hk hTc hbcn)
      have HC := Lib.hid hr4
      clear hr4 hk h1
      have hOK := Lib.hid hok
      clear hok
      have hcz := HC.out.1
      go_upto_region 8 with fail
      have hba := below1 w4 (.cells #[.int .i64 (s), .int .i64 (si), .int .i64 (m), .int .i64 (k), .int .i64 (l), .int .i64 (u)] 84)
      have HXX := Lib.hid (TxAt.mk w4 s si m k l u)
      have HB := Lib.hid (HB.out.trans (hba.mono HB.out.size))
      have HX := Lib.hid (HX.out.below hba)
      have HWr := Lib.hid (HWr.out.below hba)
      have HC := Lib.hid (HC.out.below hba)
      generalize w4.alloc (.cells #[.int .i64 (s), .int .i64 (si), .int .i64 (m), .int .i64 (k), .int .i64 (l), .int .i64 (u)] 84) = W4 at HXX HB HX HWr HC ⊢
      generalize hpp : w4.heap.size = p at HXX hcz ⊢
      clear hba hpp
      obtain ⟨c0, c1, c2, c3, c4, c5⟩ := HX.out.cells
      go_wp2_with fail
      refine (like_any s si m k l u _).mono ?_
      rintro e w5 ⟨rfl, hb⟩
      have HB := Lib.hid (HB.out.trans (hb.mono HB.out.size))
      have HX := Lib.hid (HX.out.below hb)
      have HXX := Lib.hid (HXX.out.below hb)
      have HWr := Lib.hid (HWr.out.below hb)
      have HC := Lib.hid (HC.out.below hb)
      clear hb c0 c1 c2 c3 c4 c5
      go_wp2_with fail
      have qr := fun W => refRight s si m k l u W
      rw [hOK.out] at qr
      refine (qr _).mono ?_
      rintro e w6 ⟨rfl, hb⟩
      have HB := Lib.hid (HB.out.trans (hb.mono HB.out.size))
      have HX := Lib.hid (HX.out.below hb)
      have HXX := Lib.hid (HXX.out.below hb)
      have HWr := Lib.hid (HWr.out.below hb)
      have HC := Lib.hid (HC.out.below hb)
      clear hb qr
      go_wp2_with fail
      refine (readerNew t _).mono ?_
      rintro e w7 ⟨rfl, hr7, hb⟩
      have hd1 : c < w6.heap.size := HC.out.1
      have hd2 : p < w6.heap.size := HXX.out.lt
      have hd3 : T2 ≤ w6.heap.size := HWr.out.1.2.2
      have hd4 : b + 1 ≤ w6.heap.size := HWr.out.1.2.1
      have HB := Lib.hid (HB.out.trans (hb.mono HB.out.size))
      have HX := Lib.hid (HX.out.below hb)
      have HXX := Lib.hid (HXX.out.below hb)
      have HWr := Lib.hid (HWr.out.below hb)
      have HC := Lib.hid (HC.out.below hb)
      have HD := Lib.hid hr7
      clear hb hr7
      generalize w6.heap.size = d at HD hd1 hd2 hd3 hd4 ⊢
      go_wp2_with fail
      have htl : t.data.toList.length < 4294967281 := by
        have : t.data.toList.length = t.size := by rw [Array.length_toList]; rfl
        omega
      refine (leaseRead d t.data.toList false _ HD.out (HM.out.below HB.out) (by omega) htl).mono ?_
      rintro e w8 hp
      obtain ⟨y1, y2, y3, y4, y5, y6, ry, bdy, rfl, hr8, hk, hcase⟩ := hp.cases
      have HB := Lib.hid (HB.out.trans (hk.1 _ (by omega)))
      have HX := Lib.hid (HX.out.kept hk (by omega))
      have HXX := Lib.hid (HXX.out.kept hk (by omega))
      have HWr := Lib.hid (HWr.out.keptB hk hd3 (by omega))
      have HC := Lib.hid (HC.out.kept hk (by omega))
      have HD := Lib.hid hr8
      clear hr8 hk hp
      have hdz := HD.out.1
      have hdz2 := HWr.out.1.2.2
      go_upto_region 11 with fail
      have hba := below1 w8 (.cells #[.int .i64 (y1), .int .i64 (y2), .int .i64 (y3), .int .i64 (y4), .int .i64 (y5), .int .i64 (y6)] 84)
      have HZ := Lib.hid (TxAt.mk w8 y1 y2 y3 y4 y5 y6)
      have HB := Lib.hid (HB.out.trans (hba.mono HB.out.size))
      have HX := Lib.hid (HX.out.below hba)
      have HXX := Lib.hid (HXX.out.below hba)
      have HWr := Lib.hid (HWr.out.below hba)
      have HC := Lib.hid (HC.out.below hba)
      have HD := Lib.hid (HD.out.below hba)
      generalize w8.alloc (.cells #[.int .i64 (y1), .int .i64 (y2), .int .i64 (y3), .int .i64 (y4), .int .i64 (y5), .int .i64 (y6)] 84) = W8 at HZ HB HX HXX HWr HC HD ⊢
      generalize hzz : w8.heap.size = z at HZ hdz hdz2 ⊢
      clear hba hzz
      go_wp2_with fail
      refine (Q40.out (b + 1) T2 b _ HWr.out).mono ?_
      rintro e w9 ⟨rfl, hks⟩
      have HB := Lib.hid (HB.out.trans (hks.1.mono (by omega)))
      have HX := Lib.hid (show TxAt bx s si m k l u w9 from (hks.2 bx (.inl (by omega))).trans HX.out)
      have HXX := Lib.hid (show TxAt p s si m k l u w9 from (hks.2 p (.inr (by omega))).trans HXX.out)
      have HZ := Lib.hid (show TxAt z y1 y2 y3 y4 y5 y6 w9 from (hks.2 z (.inr (by omega))).trans HZ.out)
      have HC := Lib.hid (HC.out.of_block (hks.2 c (.inr (by omega))) (Nat.lt_of_lt_of_le HC.out.1 hks.1.size))
      have HD := Lib.hid (HD.out.of_block (hks.2 d (.inr (by omega))) (Nat.lt_of_lt_of_le HD.out.1 hks.1.size))
      clear hks HWr
      obtain ⟨c0, c1, c2, c3, c4, c5⟩ := HX.out.cells
      obtain ⟨d0, d1, d2, d3, d4, d5⟩ := HXX.out.cells
      obtain ⟨e0, e1, e2, e3, e4, e5⟩ := HZ.out.cells
      go_wp2_with fail
      refine (readerDone c [] false _ HC.out).mono ?_
      rintro e wx ⟨rfl, rfl⟩
      rcases hcase with ⟨rfl, hry⟩ | ⟨rfl, rfl, rfl, rfl, rfl, rfl, rfl⟩
      · go_wp2_with fail
        refine (readerOk d ry false _ HD.out).mono ?_
        rintro e wx ⟨rfl, rfl⟩
        go_wp2_with fail
        refine (like_any y1 y2 y3 y4 y5 y6 _).mono ?_
        rintro e w10 ⟨rfl, hb⟩
        have HB := Lib.hid (HB.out.trans (hb.mono HB.out.size))
        clear hb c0 c1 c2 c3 c4 c5 d0 d1 d2 d3 d4 d5 e0 e1 e2 e3 e4 e5
        go_wp2_with fail
        have qr := fun W => refRight y1 y2 y3 y4 y5 y6 W
        rw [hry] at qr
        refine (qr _).mono ?_
        rintro e w11 ⟨rfl, hb⟩
        have HB := Lib.hid (HB.out.trans (hb.mono HB.out.size))
        clear hb qr
        go_wp2
        go_ret
        exact ⟨rfl, HB.out⟩
      · go_wp2_with fail
        refine (readerOk d ry true _ HD.out).mono ?_
        rintro e wx ⟨rfl, rfl⟩
        go_wp2_with fail
        refine (readerOk d ry true _ HD.out).mono ?_
        rintro e wx ⟨rfl, rfl⟩
        go_wp2
        go_ret
        exact ⟨rfl, HB.out⟩
    · have hok : rightT s si m k l u = false := by rw [← HW6.out.1]; exact h1
      generalize (six (wantL s si m k l u, false)).st.1 = rr at hr4
      have HB := Lib.hid (HB.out.trans (hk.1 _ (by omega)))
      have HX := Lib.hid (HX.out.kept hk hbxc)
      have HWr := Lib.hid (HWr.out.keptB hk hTc hbcn)
      have HC := Lib.hid hr4
      clear hr4 hk h1
      have hOK := Lib.hid hok
      clear hok
      have hcz := HC.out.1
      go_upto_region 8 with fail
      have hba := below1 w4 (.cells #[.int .i64 (0), .int .i64 (0), .int .i64 (0), .int .i64 (0), .int .i64 (0), .int .i64 (0)] 84)
      have HXX := Lib.hid (TxAt.mk w4 0 0 0 0 0 0)
      have HB := Lib.hid (HB.out.trans (hba.mono HB.out.size))
      have HX := Lib.hid (HX.out.below hba)
      have HWr := Lib.hid (HWr.out.below hba)
      have HC := Lib.hid (HC.out.below hba)
      generalize w4.alloc (.cells #[.int .i64 (0), .int .i64 (0), .int .i64 (0), .int .i64 (0), .int .i64 (0), .int .i64 (0)] 84) = W4 at HXX HB HX HWr HC ⊢
      generalize hpp : w4.heap.size = p at HXX hcz ⊢
      clear hba hpp
      obtain ⟨c0, c1, c2, c3, c4, c5⟩ := HX.out.cells
      go_wp2_with fail
      refine (like_any s si m k l u _).mono ?_
      rintro e w5 ⟨rfl, hb⟩
      have HB := Lib.hid (HB.out.trans (hb.mono HB.out.size))
      have HX := Lib.hid (HX.out.below hb)
      have HXX := Lib.hid (HXX.out.below hb)
      have HWr := Lib.hid (HWr.out.below hb)
      have HC := Lib.hid (HC.out.below hb)
      clear hb c0 c1 c2 c3 c4 c5
      go_wp2_with fail
      have qr := fun W => refRight s si m k l u W
      rw [hOK.out] at qr
      refine (qr _).mono ?_
      rintro e w6 ⟨rfl, hb⟩
      have HB := Lib.hid (HB.out.trans (hb.mono HB.out.size))
      have HX := Lib.hid (HX.out.below hb)
      have HXX := Lib.hid (HXX.out.below hb)
      have HWr := Lib.hid (HWr.out.below hb)
      have HC := Lib.hid (HC.out.below hb)
      clear hb qr
      go_wp2_with fail
      refine (readerNew t _).mono ?_
      rintro e w7 ⟨rfl, hr7, hb⟩
      have hd1 : c < w6.heap.size := HC.out.1
      have hd2 : p < w6.heap.size := HXX.out.lt
      have hd3 : T2 ≤ w6.heap.size := HWr.out.1.2.2
      have hd4 : b + 1 ≤ w6.heap.size := HWr.out.1.2.1
      have HB := Lib.hid (HB.out.trans (hb.mono HB.out.size))
      have HX := Lib.hid (HX.out.below hb)
      have HXX := Lib.hid (HXX.out.below hb)
      have HWr := Lib.hid (HWr.out.below hb)
      have HC := Lib.hid (HC.out.below hb)
      have HD := Lib.hid hr7
      clear hb hr7
      generalize w6.heap.size = d at HD hd1 hd2 hd3 hd4 ⊢
      go_wp2_with fail
      have htl : t.data.toList.length < 4294967281 := by
        have : t.data.toList.length = t.size := by rw [Array.length_toList]; rfl
        omega
      refine (leaseRead d t.data.toList false _ HD.out (HM.out.below HB.out) (by omega) htl).mono ?_
      rintro e w8 hp
      obtain ⟨y1, y2, y3, y4, y5, y6, ry, bdy, rfl, hr8, hk, hcase⟩ := hp.cases
      have HB := Lib.hid (HB.out.trans (hk.1 _ (by omega)))
      have HX := Lib.hid (HX.out.kept hk (by omega))
      have HXX := Lib.hid (HXX.out.kept hk (by omega))
      have HWr := Lib.hid (HWr.out.keptB hk hd3 (by omega))
      have HC := Lib.hid (HC.out.kept hk (by omega))
      have HD := Lib.hid hr8
      clear hr8 hk hp
      have hdz := HD.out.1
      have hdz2 := HWr.out.1.2.2
      go_upto_region 11 with fail
      have hba := below1 w8 (.cells #[.int .i64 (y1), .int .i64 (y2), .int .i64 (y3), .int .i64 (y4), .int .i64 (y5), .int .i64 (y6)] 84)
      have HZ := Lib.hid (TxAt.mk w8 y1 y2 y3 y4 y5 y6)
      have HB := Lib.hid (HB.out.trans (hba.mono HB.out.size))
      have HX := Lib.hid (HX.out.below hba)
      have HXX := Lib.hid (HXX.out.below hba)
      have HWr := Lib.hid (HWr.out.below hba)
      have HC := Lib.hid (HC.out.below hba)
      have HD := Lib.hid (HD.out.below hba)
      generalize w8.alloc (.cells #[.int .i64 (y1), .int .i64 (y2), .int .i64 (y3), .int .i64 (y4), .int .i64 (y5), .int .i64 (y6)] 84) = W8 at HZ HB HX HXX HWr HC HD ⊢
      generalize hzz : w8.heap.size = z at HZ hdz hdz2 ⊢
      clear hba hzz
      go_wp2_with fail
      refine (Q40.out (b + 1) T2 b _ HWr.out).mono ?_
      rintro e w9 ⟨rfl, hks⟩
      have HB := Lib.hid (HB.out.trans (hks.1.mono (by omega)))
      have HX := Lib.hid (show TxAt bx s si m k l u w9 from (hks.2 bx (.inl (by omega))).trans HX.out)
      have HXX := Lib.hid (show TxAt p 0 0 0 0 0 0 w9 from (hks.2 p (.inr (by omega))).trans HXX.out)
      have HZ := Lib.hid (show TxAt z y1 y2 y3 y4 y5 y6 w9 from (hks.2 z (.inr (by omega))).trans HZ.out)
      have HC := Lib.hid (HC.out.of_block (hks.2 c (.inr (by omega))) (Nat.lt_of_lt_of_le HC.out.1 hks.1.size))
      have HD := Lib.hid (HD.out.of_block (hks.2 d (.inr (by omega))) (Nat.lt_of_lt_of_le HD.out.1 hks.1.size))
      clear hks HWr
      obtain ⟨c0, c1, c2, c3, c4, c5⟩ := HX.out.cells
      obtain ⟨d0, d1, d2, d3, d4, d5⟩ := HXX.out.cells
      obtain ⟨e0, e1, e2, e3, e4, e5⟩ := HZ.out.cells
      go_wp2_with fail
      refine (readerDone c rr true _ HC.out).mono ?_
      rintro e wx ⟨rfl, rfl⟩
      rcases hcase with ⟨rfl, hry⟩ | ⟨rfl, rfl, rfl, rfl, rfl, rfl, rfl⟩
      · go_wp2_with fail
        refine (readerOk d ry false _ HD.out).mono ?_
        rintro e wx ⟨rfl, rfl⟩
        go_wp2_with fail
        refine (like_any y1 y2 y3 y4 y5 y6 _).mono ?_
        rintro e w10 ⟨rfl, hb⟩
        have HB := Lib.hid (HB.out.trans (hb.mono HB.out.size))
        clear hb c0 c1 c2 c3 c4 c5 d0 d1 d2 d3 d4 d5 e0 e1 e2 e3 e4 e5
        go_wp2_with fail
        have qr := fun W => refRight y1 y2 y3 y4 y5 y6 W
        rw [hry] at qr
        refine (qr _).mono ?_
        rintro e w11 ⟨rfl, hb⟩
        have HB := Lib.hid (HB.out.trans (hb.mono HB.out.size))
        clear hb qr
        go_wp2
        go_ret
        exact ⟨rfl, HB.out⟩
      · go_wp2_with fail
        refine (readerOk d ry true _ HD.out).mono ?_
        rintro e wx ⟨rfl, rfl⟩
        go_wp2_with fail
        refine (readerOk d ry true _ HD.out).mono ?_
        rintro e wx ⟨rfl, rfl⟩
        go_wp2
        go_ret
        exact ⟨rfl, HB.out⟩
end Go.Proofs.YtpkmgdpnimecfabDoor

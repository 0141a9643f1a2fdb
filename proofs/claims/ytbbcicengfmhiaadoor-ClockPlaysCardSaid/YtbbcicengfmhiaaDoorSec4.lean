/- sector.Read. Conditions: sizes. -/
import Derived.Test.YtbbcicengfmhiaaDoorSec3
import Derived.Laws.ResultCell
import Derived.Deep.RegionHeld3
namespace Go.Proofs.YtbbcicengfmhiaaDoor
set_option maxRecDepth 100000
open Go.RowKit

theorem calls_flip {P : Program} {f : FuncId} {args : Array Value} {w : World} {v : Value} (h : Calls P f args w fun e w' => e = .returned v ∧ w = w') : Calls P f args w fun e w' => e = .returned v ∧ w' = w := h.mono fun _ _ ⟨a, b⟩ => ⟨a, b.symm⟩
def ReadPost (l : List UInt8) (w : World) (e : Ending) (w' : World) : Prop :=
  ((∃ p, readP l = some p ∧ e = .returned (.tuple #[(.agg #[.int .u64 ((p.stamp : Nat) : Int), .int .i64 (p.gen), .int .i64 (p.no), .int .i64 (p.index), .int .i64 (p.total), .string ⟨((p.data : List UInt8)).toArray⟩]), .int .i64 0])) ∨ (readP l = none ∧ e = .returned (.tuple #[(.agg #[.int .u64 0, .int .i64 0, .int .i64 0, .int .i64 0, .int .i64 0, .string ⟨#[]⟩]), .int .i64 3]))) ∧ Below w.heap.size w w'
theorem ReadPost.no {l : List UInt8} {w w' : World} (h : readP l = none) (hb : Below w.heap.size w w') : ReadPost l w (.returned (.tuple #[(.agg #[.int .u64 0, .int .i64 0, .int .i64 0, .int .i64 0, .int .i64 0, .string ⟨#[]⟩]), .int .i64 3])) w' := ⟨.inr ⟨h, rfl⟩, hb⟩
theorem ReadPost.yes {l : List UInt8} {w w' : World} {p : Pc} (h : readP l = some p) (hb : Below w.heap.size w w') : ReadPost l w (.returned (.tuple #[(.agg #[.int .u64 ((p.stamp : Nat) : Int), .int .i64 (p.gen), .int .i64 (p.no), .int .i64 (p.index), .int .i64 (p.total), .string ⟨((p.data : List UInt8)).toArray⟩]), .int .i64 0])) w' := ⟨.inl ⟨p, h, rfl⟩, hb⟩
theorem readP_unfit {l : List UInt8} (h : fitP l = false) : readP l = none := by unfold readP; rw [if_neg (by simp [h])]
set_option maxHeartbeats 4000000 in
theorem secRead (l : List UInt8) (w : World) (hl : l.length ≤ 1000000) : Calls Tryd.prog 137 #[.string ⟨l.toArray⟩] w (ReadPost l w) := by
  obtain ⟨s, hs⟩ : ∃ s : ByteArray, s = ⟨l.toArray⟩ := ⟨_, rfl⟩
  have hsz : s.size = l.length := by rw [hs]; rfl
  rw [← hs]
  have HS := Lib.hid hs
  have HB0 := Lib.hid (below1 w (.cells #[.int .u64 0, .int .i64 0, .int .i64 0, .int .i64 0, .int .i64 0, .string ⟨#[]⟩] 196))
  by_cases h64 : l.length = 64
  · rw [h64] at hsz
    clear hl
    by_cases hht : l.take 8 = l.drop 56
    · have e1 : s.extract 0 8 = ⟨(l.take 8).toArray⟩ := by rw [HS.out, exL]; rfl
      have e2 : s.extract 56 s.size = ⟨(l.take 8).toArray⟩ := by rw [hsz, HS.out, exL, List.take_of_length_le (by omega), hht]
      rw [hsz] at e2
      have h18 : (s[18]'(by omega)).toNat = lenP l := by
        have := getL l 18 (by rw [szL]; omega)
        subst hs
        exact congrArg UInt8.toNat this
      by_cases hn : lenP l ≤ 37
      · have hfit : fitP l = true := by unfold fitP; simp [h64, hht, hn]
        have e3 : s.extract 8 12 = ⟨((l.drop 8).take 4).toArray⟩ := by rw [HS.out, exL, List.drop_take]
        have e4 : s.extract 12 14 = ⟨((l.drop 12).take 2).toArray⟩ := by rw [HS.out, exL, List.drop_take]
        have e5 : s.extract 14 16 = ⟨((l.drop 14).take 2).toArray⟩ := by rw [HS.out, exL, List.drop_take]
        have e6 : s.extract 16 18 = ⟨((l.drop 16).take 2).toArray⟩ := by rw [HS.out, exL, List.drop_take]
        have e7 : s.extract 19 (19 + lenP l) = ⟨((l.drop 19).take (lenP l)).toArray⟩ := by rw [HS.out, exL, List.drop_take, Nat.add_sub_cancel_left]
        have e8 : s.extract (19 + lenP l) 56 = ⟨(padP l).toArray⟩ := by rw [HS.out, exL, List.drop_take]; unfold padP; rw [show 56 - (19 + lenP l) = 37 - lenP l by omega]
        have hpl : (padP l).length = 37 - lenP l := by unfold padP; simp; omega
        have HX := Lib.hid (show readP l = if rightP (pieceP l) = true ∧ padP l = zeros (37 - lenP l) then some (pieceP l) else none by unfold readP; rw [if_pos hfit])
        have HP := Lib.hid (show pieceP l = ⟨val (l.take 8), val ((l.drop 8).take 4), val ((l.drop 12).take 2), val ((l.drop 14).take 2), val ((l.drop 16).take 2), (l.drop 19).take (lenP l)⟩ from rfl)
        have HZ := Lib.hid (show zeroB (padP l) = true ↔ padP l = zeros (37 - lenP l) by rw [zeroB_iff, hpl]; rfl)
        have g1 := fun W => secGet (l.take 8) W (by simp; omega)
        have g3 := fun W => secGet ((l.drop 8).take 4) W (by simp; omega)
        have g4 := fun W => secGet ((l.drop 12).take 2) W (by simp; omega)
        have g5 := fun W => secGet ((l.drop 14).take 2) W (by simp; omega)
        have g6 := fun W => secGet ((l.drop 16).take 2) W (by simp; omega)
        have v3 := val_lt ((l.drop 8).take 4)
        have v4 := val_lt ((l.drop 12).take 2)
        have v5 := val_lt ((l.drop 14).take 2)
        have v6 := val_lt ((l.drop 16).take 2)
        rw [show ((l.drop 8).take 4).length = 4 by simp; omega] at v3
        rw [show ((l.drop 12).take 2).length = 2 by simp; omega] at v4
        rw [show ((l.drop 14).take 2).length = 2 by simp; omega] at v5
        rw [show ((l.drop 16).take 2).length = 2 by simp; omega] at v6
        have gr := secRight (val (l.take 8)) (val ((l.drop 8).take 4)) (val ((l.drop 12).take 2)) (val ((l.drop 14).take 2)) (val ((l.drop 16).take 2)) ((l.drop 19).take (lenP l))
        have hdl : ((l.drop 19).take (lenP l)).length ≤ 37 := by simp; omega
        have gt := trimZ (padP l)
        have hgt := trZ_nil (padP l)
        rw [← HP.out] at gr
        generalize zeroB (padP l) = zb at HZ hgt
        generalize trZ (padP l) = zr at gt hgt
        generalize val (l.take 8) = x1 at g1 HP gr
        generalize val ((l.drop 8).take 4) = x3 at g3 HP gr v3
        generalize val ((l.drop 12).take 2) = x4 at g4 HP gr v4
        generalize val ((l.drop 14).take 2) = x5 at g5 HP gr v5
        generalize val ((l.drop 16).take 2) = x6 at g6 HP gr v6
        generalize rightP (pieceP l) = rb at gr HX
        have HR := Lib.hid (fun W => gr W (by omega))
        have HT := Lib.hid (fun W => gt W (by omega))
        generalize (l.drop 19).take (lenP l) = d at e7 HP HR
        generalize (⟨(padP l).toArray⟩ : ByteArray) = s8 at e8 HT
        generalize lenP l = n at h18 hn e7 e8 HZ HX
        generalize (⟨(l.take 8).toArray⟩ : ByteArray) = s1 at e1 e2 g1
        generalize (⟨((l.drop 8).take 4).toArray⟩ : ByteArray) = s3 at e3 g3
        generalize (⟨((l.drop 12).take 2).toArray⟩ : ByteArray) = s4 at e4 g4
        generalize (⟨((l.drop 14).take 2).toArray⟩ : ByteArray) = s5 at e5 g5
        generalize (⟨((l.drop 16).take 2).toArray⟩ : ByteArray) = s6 at e6 g6
        have G1 := Lib.hid (fun W => calls_flip (g1 W))
        have G3 := Lib.hid (fun W => calls_flip (g3 W))
        have G4 := Lib.hid (fun W => calls_flip (g4 W))
        have G5 := Lib.hid (fun W => calls_flip (g5 W))
        have G6 := Lib.hid (fun W => calls_flip (g6 W))
        have w3 : IntKind.i64.wrap (x3 : Int) = (x3 : Int) := by simp [IntKind.wrap, IntKind.signed, IntKind.bits]; omega
        have w4 : IntKind.i64.wrap (x4 : Int) = (x4 : Int) := by simp [IntKind.wrap, IntKind.signed, IntKind.bits]; omega
        have w5 : IntKind.i64.wrap (x5 : Int) = (x5 : Int) := by simp [IntKind.wrap, IntKind.signed, IntKind.bits]; omega
        have w6 : IntKind.i64.wrap (x6 : Int) = (x6 : Int) := by simp [IntKind.wrap, IntKind.signed, IntKind.bits]; omega
        have hle : (n : Int) ≤ 37 := by omega
        clear g1 g3 g4 g5 g6 gr gt hfit hht h64 hs v3 v4 v5 v6 hpl hdl
        go_enter Tryd.func137, Tryd.ntmps137
        go_wp2
        go_quiet (fail)
        go_wp2
        have z1 : 0 ≤ 19 + (n : Int) := by omega
        have z2 : 19 + (n : Int) ≤ 64 := by omega
        have z3 : (19 : Int) ≤ 19 + (n : Int) := by omega
        have z4 : (19 + (n : Int)).toNat = 19 + n := by omega
        have z5 : 19 + (n : Int) ≤ 56 := by omega
        go_region_held3 (fun _ => True) (exact trivial)
          (first
            | (go_at_call 158; (with_reducible refine (G1.out _).mono ?_); rintro e w' ⟨rfl, rfl⟩)
            | (go_at_call 158; (with_reducible refine (G3.out _).mono ?_); rintro e w' ⟨rfl, rfl⟩)
            | (go_at_call 158; (with_reducible refine (G4.out _).mono ?_); rintro e w' ⟨rfl, rfl⟩)
            | (go_at_call 158; (with_reducible refine (G5.out _).mono ?_); rintro e w' ⟨rfl, rfl⟩)
            | (go_at_call 158; (with_reducible refine (G6.out _).mono ?_); rintro e w' ⟨rfl, rfl⟩))
        all_goals
          obtain ⟨W0, hW0⟩ : ∃ W0, W0 = ((w.alloc (.cells #[.int .u64 0, .int .i64 0, .int .i64 0, .int .i64 0, .int .i64 0, .string ⟨#[]⟩] 196)).drewN (nq + 1)).alloc (.cells #[.int .u64 ((x1 : Nat) : Int), .int .i64 ((x3 : Int)), .int .i64 ((x4 : Int)), .int .i64 ((x5 : Int)), .int .i64 ((x6 : Int)), .string ⟨((d : List UInt8)).toArray⟩] 196) := ⟨_, rfl⟩
          rw [← hW0]
          have hA0 := BlkIs.alloc w [.int .u64 0, .int .i64 0, .int .i64 0, .int .i64 0, .int .i64 0, .string ⟨#[]⟩] 196
          have hA1 : BlkIs ((w.alloc (.cells #[.int .u64 0, .int .i64 0, .int .i64 0, .int .i64 0, .int .i64 0, .string ⟨#[]⟩] 196)).drewN (nq + 1)) w.heap.size [.int .u64 0, .int .i64 0, .int .i64 0, .int .i64 0, .int .i64 0, .string ⟨#[]⟩] 196 := hA0.below (belowN (Below.refl _ _) _)
          have HA := Lib.hid (show BlkIs W0 w.heap.size [.int .u64 0, .int .i64 0, .int .i64 0, .int .i64 0, .int .i64 0, .string ⟨#[]⟩] 196 by rw [hW0]; exact hA1.below (below1 _ _))
          have HC := Lib.hid (show BlkIs W0 (w.heap.size + 1) [.int .u64 (x1 : Int), .int .i64 (x3 : Int), .int .i64 (x4 : Int), .int .i64 (x5 : Int), .int .i64 (x6 : Int), .string ⟨d.toArray⟩] 196 by
            rw [hW0]
            have := BlkIs.alloc ((w.alloc (.cells #[.int .u64 0, .int .i64 0, .int .i64 0, .int .i64 0, .int .i64 0, .string ⟨#[]⟩] 196)).drewN (nq + 1)) [.int .u64 (x1 : Int), .int .i64 (x3 : Int), .int .i64 (x4 : Int), .int .i64 (x5 : Int), .int .i64 (x6 : Int), .string ⟨d.toArray⟩] 196
            simpa using this)
          have HB := Lib.hid (show Below w.heap.size w W0 by
            rw [hW0]
            exact (belowN HB0.out _).alloc (by simp) _)
          clear hA0 hA1 hW0 w3 w4 w5 w6 z1 z2 z3 z5 h18 e1 e2 e3 e4 e5 e6 e7 G1 G3 G4 G5 G6 HB0 hn hle
          have hz : w.heap.size + 1 < W0.heap.size := HC.out.lt
          generalize hBe : w.heap.size = B at HA HC HB hz ⊢
          have HBE := Lib.hid hBe
          clear hBe
          have c0 := HC.out.cell 0
          have c1 := HC.out.cell 1
          have c2 := HC.out.cell 2
          have c3 := HC.out.cell 3
          have c4 := HC.out.cell 4
          have c5 := HC.out.cell 5
          simp only [List.getElem?_cons_zero, List.getElem?_cons_succ] at c0 c1 c2 c3 c4 c5
          go_wp2_with fail
          refine (HR.out _).mono ?_
          rintro e w1 ⟨rfl, hb⟩
          have HA := Lib.hid (HA.out.below hb)
          have HC := Lib.hid (HC.out.below hb)
          have HB := Lib.hid (HB.out.trans (hb.mono (show B ≤ W0.heap.size by omega)))
          clear hb c0 c1 c2 c3 c4 c5
          have c0 := HA.out.cell 0
          have c1 := HA.out.cell 1
          have c2 := HA.out.cell 2
          have c3 := HA.out.cell 3
          have c4 := HA.out.cell 4
          have c5 := HA.out.cell 5
          simp only [List.getElem?_cons_zero, List.getElem?_cons_succ] at c0 c1 c2 c3 c4 c5
          have f0 := HA.out.frozen 0
          have f1 := HA.out.frozen 1
          have f2 := HA.out.frozen 2
          have f3 := HA.out.frozen 3
          have f4 := HA.out.frozen 4
          have f5 := HA.out.frozen 5
          cases rb with
          | false =>
            have HN := Lib.hid (show readP l = none by rw [HX.out]; simp)
            go_wp2
            refine bodyPost_ret (v := .tuple #[(.agg #[.int .u64 0, .int .i64 0, .int .i64 0, .int .i64 0, .int .i64 0, .string ⟨#[]⟩]), .int .i64 3]) (by rw [results_cell_tmp rfl]; go_simp) rfl (ReadPost.no HN.out ?_)
            rw [HBE.out]
            exact below_set6 HB.out (Nat.le_refl _) _ _ _ _ _ _
          | true =>
            go_wp2_with fail
            refine (HT.out _).mono ?_
            rintro e w2 ⟨rfl, q, rfl⟩
            cases zb with
            | false =>
              have HN := Lib.hid (show readP l = none by
                rw [HX.out, if_neg]
                rintro ⟨_, h⟩
                exact absurd (HZ.out.2 h) (by simp))
              obtain ⟨c, r, rfl⟩ : ∃ c r, zr = c :: r := by
                cases zr with
                | nil => cases hgt
                | cons c r => exact ⟨c, r, rfl⟩
              clear hgt
              go_wp2
              refine bodyPost_ret (v := .tuple #[(.agg #[.int .u64 0, .int .i64 0, .int .i64 0, .int .i64 0, .int .i64 0, .string ⟨#[]⟩]), .int .i64 3]) (by rw [results_cell_tmp rfl]; go_simp) rfl (ReadPost.no HN.out ?_)
              rw [HBE.out]
              exact below_set6 (belowN HB.out _) (Nat.le_refl _) _ _ _ _ _ _
            | true =>
              have HN := Lib.hid (show readP l = some ⟨x1, x3, x4, x5, x6, d⟩ by
                rw [HX.out, if_pos ⟨by simp, HZ.out.1 rfl⟩, HP.out])
              obtain rfl : zr = [] := List.isEmpty_iff.1 hgt
              clear hgt
              have g0 := HC.out.cell 0
              have g1 := HC.out.cell 1
              have g2 := HC.out.cell 2
              have g3 := HC.out.cell 3
              have g4 := HC.out.cell 4
              have g5 := HC.out.cell 5
              simp only [List.getElem?_cons_zero, List.getElem?_cons_succ] at g0 g1 g2 g3 g4 g5
              go_wp2
              refine bodyPost_ret (v := .tuple #[(.agg #[.int .u64 ((x1 : Nat) : Int), .int .i64 ((x3 : Int)), .int .i64 ((x4 : Int)), .int .i64 ((x5 : Int)), .int .i64 ((x6 : Int)), .string ⟨((d : List UInt8)).toArray⟩]), .int .i64 0]) (by rw [results_cell_tmp rfl]; go_simp) rfl (ReadPost.yes HN.out ?_)
              rw [HBE.out]
              exact below_set6 (belowN HB.out _) (Nat.le_refl _) _ _ _ _ _ _
      · have HU := Lib.hid (show readP l = none from readP_unfit (by unfold fitP; simp [hn]))
        generalize lenP l = n at h18 hn
        have hgt : (37 : Int) < (n : Int) := by omega
        generalize (⟨(l.take 8).toArray⟩ : ByteArray) = s1 at e1 e2
        clear hht h64 hs
        go_enter Tryd.func137, Tryd.ntmps137
        go_wp2
        go_quiet (fail)
        go_wp2
        refine bodyPost_ret (v := .tuple #[(.agg #[.int .u64 0, .int .i64 0, .int .i64 0, .int .i64 0, .int .i64 0, .string ⟨#[]⟩]), .int .i64 3]) (by rw [results_cell_tmp rfl]; go_simp) rfl (ReadPost.no HU.out ?_)
        exact below_set6 (belowN HB0.out _) (Nat.le_refl _) _ _ _ _ _ _
    · have HU := Lib.hid (show readP l = none from readP_unfit (by unfold fitP; simp [hht]))
      have e1 : s.extract 0 8 = ⟨(l.take 8).toArray⟩ := by rw [HS.out, exL]; rfl
      have e2 : s.extract 56 s.size = ⟨(l.drop 56).toArray⟩ := by rw [hsz, HS.out, exL, List.take_of_length_le (by omega)]
      have hne : ¬ ((⟨(l.take 8).toArray⟩ : ByteArray).toList = (⟨(l.drop 56).toArray⟩ : ByteArray).toList) := by
        rw [ByteArray.toList_eq, ByteArray.toList_eq]
        simpa using hht
      generalize (⟨(l.take 8).toArray⟩ : ByteArray) = s1 at e1 hne
      generalize (⟨(l.drop 56).toArray⟩ : ByteArray) = s2 at e2 hne
      have hz : ((s.size : Int) == 64) = true := by rw [hsz]; rfl
      have hz2 : (s.size : Int) = 64 := by rw [hsz]; rfl
      rw [hsz] at e2
      clear hht h64 hs
      go_enter Tryd.func137, Tryd.ntmps137
      go_wp2
      go_quiet (fail)
      go_wp2
      refine bodyPost_ret (v := .tuple #[(.agg #[.int .u64 0, .int .i64 0, .int .i64 0, .int .i64 0, .int .i64 0, .string ⟨#[]⟩]), .int .i64 3]) (by rw [results_cell_tmp rfl]; go_simp) rfl (ReadPost.no HU.out ?_)
      exact below_set6 (belowN HB0.out _) (Nat.le_refl _) _ _ _ _ _ _
  · have HU := Lib.hid (show readP l = none from readP_unfit (by unfold fitP; simp [h64]))
    have hz : ((s.size : Int) != 64) = true := by simp; omega
    clear hs hl h64 hsz
    go_enter Tryd.func137, Tryd.ntmps137
    go_wp2
    go_quiet (fail)
    go_wp2
    refine bodyPost_ret (v := .tuple #[(.agg #[.int .u64 0, .int .i64 0, .int .i64 0, .int .i64 0, .int .i64 0, .string ⟨#[]⟩]), .int .i64 3]) (by rw [results_cell_tmp rfl]; go_simp) rfl (ReadPost.no HU.out ?_)
    exact below_set6 (belowN HB0.out _) (Nat.le_refl _) _ _ _ _ _ _
end Go.Proofs.YtbbcicengfmhiaaDoor

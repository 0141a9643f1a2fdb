/- lockagelaw07.awake. lockagelaw07.awake: it answers true. -/
import Derived.Test.YtefnkoofgpmmmaaGreatDoorLxD
import Derived.Test.YtefnkoofgpmmmaaGreatDoorLxF
import Derived.Test.YtefnkoofgpmmmaaGreatDoorErr
namespace Go.Proofs.YtefnkoofgpmmmaaGreatDoor
set_option maxRecDepth 100000
open Go.RowKit Go.Shelf

def s1 : ByteArray := ⟨#[112, 105, 112, 101, 32, 112, 10, 10, 32, 116, 97, 115, 107, 32, 32, 97, 32]⟩
theorem a1 : lexErr s1 = none ∧ lexLn s1 = [[(⟨#[112, 105, 112, 101]⟩, 0), (⟨#[112]⟩, 5)], [(⟨#[116, 97, 115, 107]⟩, 9), (⟨#[97]⟩, 15)]] := ⟨by kernel_rfl, by kernel_rfl⟩
theorem a2 : lexErr ⟨#[97, 9, 98]⟩ = some (1, 3) := by kernel_rfl
theorem a3 : numM ⟨#[55]⟩ 0 9 = some 7 := by kernel_rfl
theorem a4 : numM ⟨#[48, 55]⟩ 0 9 = none := by kernel_rfl
theorem a5 : namesErr 2 ⟨#[97, 44, 98, 99]⟩ = none ∧ namesL 2 ⟨#[97, 44, 98, 99]⟩ = [(⟨#[97]⟩, 2), (⟨#[98, 99]⟩, 4)] := ⟨by kernel_rfl, by kernel_rfl⟩
theorem a6 : namesErr 2 ⟨#[97, 44, 44, 98]⟩ = some (4, 15) := by kernel_rfl
theorem a7 : parseL [49, 58, 48, 48, 48, 102] = some (1, 15) := by kernel_rfl
theorem a8 : nameB ⟨#[65]⟩ = false := by kernel_rfl
/-- what awake looks at of the lines -/
structure LK (g c b off c' : Nat) (W : World) : Prop where
  z1 : g < W.heap.size
  z2 : b < W.heap.size
  x0 : W.cell? ⟨g, 1, none⟩ = some (.slice (some ⟨b, off, none⟩) 2 c')
  x1 : W.cell? ⟨b, off, none⟩ = some (.string ⟨#[116, 97, 115, 107]⟩)
  x2 : W.cell? ⟨b, off + 1, none⟩ = some (.int .i64 9)
  x3 : W.cell? ⟨b, off + 2 + 1, none⟩ = some (.int .i64 15)
  cc : 2 ≤ c ∧ 2 ≤ c'
theorem LK.below {g c b off c' : Nat} {W W' : World} (h : LK g c b off c' W) (hb : Below W.heap.size W W') : LK g c b off c' W' :=
  ⟨Nat.lt_of_lt_of_le h.z1 hb.size, Nat.lt_of_lt_of_le h.z2 hb.size, (hb.cell (p := ⟨g, 1, none⟩) h.z1).trans h.x0, (hb.cell (p := ⟨b, off, none⟩) h.z2).trans h.x1, (hb.cell (p := ⟨b, off + 1, none⟩) h.z2).trans h.x2, (hb.cell (p := ⟨b, off + 2 + 1, none⟩) h.z2).trans h.x3, h.cc⟩
theorem k1 (W : World) : Calls Tryz.prog 13 #[.string s1] W fun e w' => Below W.heap.size W w' ∧ ∃ g c b off c', e = .returned (.tuple #[.slice (some ⟨g, 0, none⟩) 2 c, .nilIface]) ∧ LK g c b off c' w' := by
  refine (lexLines s1 W (by unfold maxLen; decide +kernel)).mono ?_
  rintro e w' ⟨hb, v, err, svs, base, rfl, hE, hL⟩
  rw [a1.1] at hE
  rw [a1.2] at hL
  obtain rfl : err = .nilIface := hE
  refine ⟨hb, ?_⟩
  obtain ⟨z, hl, own, inn⟩ := hL
  match svs, hl with
  | [u0, u1], _ =>
    obtain ⟨hS, _⟩ := inn 1 (by decide)
    obtain ⟨p, c', hv, hc1, hc2⟩ := hS
    obtain ⟨b, off, rfl, hlt, hcell⟩ := hc2 (by decide)
    have hown := own
    rcases own.2 with ⟨_, h0⟩ | ⟨g, cap, cur, rfl, hbg, hg, hnc, _⟩
    · cases h0
    · have h1 := World.ownsRow.cells (g := g) hown rfl 1 u1 rfl
      rw [Go.WideShapes.add_plain, Nat.zero_add] at h1
      have hv' : u1 = .slice (some ⟨b, off, none⟩) 2 c' := hv
      rw [hv'] at h1
      exact ⟨g, cap, b, off, c', rfl, (Array.getElem?_eq_some_iff.1 hg).1, hlt, h1, hcell 0 (by decide) 0 _ rfl, hcell 0 (by decide) 1 _ rfl, hcell 1 (by decide) 1 _ rfl, hnc, hc1.1⟩
theorem k2 (W : World) : Calls Tryz.prog 13 #[.string ⟨#[97, 9, 98]⟩] W fun e w' => Below W.heap.size W w' ∧ ∃ v err, e = .returned (.tuple #[v, err]) ∧ ErrAt err (some (1, 3)) w' := by
  refine (lexLines ⟨#[97, 9, 98]⟩ W (by unfold maxLen; decide +kernel)).mono ?_
  rintro e w' ⟨hb, v, err, svs, base, rfl, hE, _⟩
  rw [a2] at hE
  exact ⟨hb, v, err, rfl, hE⟩
theorem k3 (W : World) (h : Met W) : Calls Tryz.prog 38 #[.agg #[.string ⟨#[55]⟩, .int .i64 3], .int .i64 0, .int .i64 9] W fun e w' => Below W.heap.size W w' ∧ e = .returned (.tuple #[.int .i64 7, .nilIface]) := by
  refine (lexNumber ⟨#[55]⟩ 3 0 9 W h (by decide +kernel)).mono ?_
  rintro e w' ⟨hb, err, rfl, hE⟩
  unfold numErr at hE
  rw [a3] at hE ⊢
  obtain rfl : err = .nilIface := hE
  exact ⟨hb, rfl⟩
theorem k4 (W : World) (h : Met W) : Calls Tryz.prog 38 #[.agg #[.string ⟨#[48, 55]⟩, .int .i64 3], .int .i64 0, .int .i64 9] W fun e w' => Below W.heap.size W w' ∧ ∃ err, e = .returned (.tuple #[.int .i64 0, err]) ∧ ErrAt err (some (3, 16)) w' := by
  refine (lexNumber ⟨#[48, 55]⟩ 3 0 9 W h (by decide +kernel)).mono ?_
  rintro e w' ⟨hb, err, rfl, hE⟩
  unfold numErr at hE
  rw [a4] at hE ⊢
  exact ⟨hb, err, rfl, hE⟩
structure LM (b off c : Nat) (W : World) : Prop where
  z : b < W.heap.size
  x : W.cell? ⟨b, off + 2 + 1, none⟩ = some (.int .i64 4)
  cc : 2 ≤ c
theorem LM.below {b off c : Nat} {W W' : World} (h : LM b off c W) (hb : Below W.heap.size W W') : LM b off c W' := ⟨Nat.lt_of_lt_of_le h.z hb.size, (hb.cell (p := ⟨b, off + 2 + 1, none⟩) h.z).trans h.x, h.cc⟩
theorem k5 (W : World) : Calls Tryz.prog 39 #[.agg #[.string ⟨#[97, 44, 98, 99]⟩, .int .i64 2]] W fun e w' => Below W.heap.size W w' ∧ ∃ b off c, e = .returned (.tuple #[.slice (some ⟨b, off, none⟩) 2 c, .nilIface]) ∧ LM b off c w' := by
  refine (lexNames ⟨#[97, 44, 98, 99]⟩ 2 W (by decide +kernel) (by decide)).mono ?_
  rintro e w' ⟨hb, v, err, rfl, hE, hS, _⟩
  rw [a5.1] at hE
  rw [a5.2] at hS
  obtain rfl : err = .nilIface := hE
  obtain ⟨p, c', rfl, hc1, hc2⟩ := hS
  obtain ⟨b, off, rfl, hlt, hcell⟩ := hc2 (by decide)
  exact ⟨hb, b, off, c', rfl, hlt, hcell 1 (by decide) 1 _ rfl, hc1.1⟩
theorem k6 (W : World) : Calls Tryz.prog 39 #[.agg #[.string ⟨#[97, 44, 44, 98]⟩, .int .i64 2]] W fun e w' => Below W.heap.size W w' ∧ ∃ v err, e = .returned (.tuple #[v, err]) ∧ ErrAt err (some (4, 15)) w' := by
  refine (lexNames ⟨#[97, 44, 44, 98]⟩ 2 W (by decide +kernel) (by decide)).mono ?_
  rintro e w' ⟨hb, v, err, rfl, hE, hS, _⟩
  rw [a6] at hE
  exact ⟨hb, v, err, rfl, hE⟩
theorem k7 (W : World) (h : Met W) : Calls Tryz.prog 40 #[.agg #[.string ⟨#[49, 58, 48, 48, 48, 102]⟩, .int .i64 0]] W fun e w' => Below W.heap.size W w' ∧ e = .returned (.tuple #[(.agg #[.int .i64 (1), .int .u16 ((15 : Nat) : Int)]), .nilIface]) := by
  refine (lexLabel ⟨#[49, 58, 48, 48, 48, 102]⟩ 0 W h).mono ?_
  rintro e w' ⟨hb, hE⟩
  rw [show parseL (⟨#[49, 58, 48, 48, 48, 102]⟩ : ByteArray).data.toList = some (1, 15) from a7] at hE
  exact ⟨hb, hE⟩
theorem k8 (W : World) : Calls Tryz.prog 41 #[.agg #[.string ⟨#[65]⟩, .int .i64 8]] W fun e w' => Below W.heap.size W w' ∧ ∃ err, e = .returned (.tuple #[.string ⟨#[]⟩, err]) ∧ ErrAt err (some (8, 15)) w' := by
  refine (lexName ⟨#[65]⟩ 8 W (by unfold maxLen; decide +kernel)).mono ?_
  rintro e w' (⟨h, _⟩ | ⟨_, v, rfl, hE, hb⟩)
  · rw [a8] at h; cases h
  · exact ⟨hb, v, rfl, hE⟩
end Go.Proofs.YtefnkoofgpmmmaaGreatDoor

namespace Go.Proofs.YtefnkoofgpmmmaaGreatDoor
set_option maxRecDepth 100000
open Go.RowKit Go.Shelf

theorem kw (v : Value) (i e : Int) (W : World) (h : ErrAt v (some (i, e)) W) (hg : MetE W) : Calls Tryz.prog 15 #[v, .int .i64 e, .int .i64 i] W fun en w' => en = .returned (.bool true) ∧ Below W.heap.size W w' := by
  refine (wrongC v (some (i, e)) e i W h hg).mono ?_
  rintro en w' ⟨rfl, hb⟩
  exact ⟨by simp [isB, atE], hb⟩
theorem ka (W : World) (hg : MetE W) : Calls Tryz.prog 42 #[.nilIface] W fun en w' => en = .returned (.int .i64 (-1)) ∧ Below W.heap.size W w' := lexAt .nilIface none W rfl hg
theorem nil_eq : (Value.nilIface) = .nilIface := rfl
set_option maxHeartbeats 16000000 in
theorem awake07 (w : World) (hM : Met w) (hg : MetE w) : Calls Tryz.prog 12 #[] w fun e w' => e = .returned (.bool true) ∧ Below w.heap.size w w' := by
  have HM0 := Lib.hid hM
  have HG0 := Lib.hid hg
  have HB0 := Lib.hid (Below.refl w.heap.size w)
  clear hM hg
  go_enter Tryz.func12, Tryz.ntmps12
  go_wp2_with fail
  refine (k1 _).mono ?_
  rintro e w1 ⟨hb, g, c, b, off, c', rfl, hlk⟩
  have HB1 := Lib.hid (HB0.out.trans (hb.mono HB0.out.size))
  have HM1 := Lib.hid (HM0.out.below hb)
  have HG1 := Lib.hid (HG0.out.below hb)
  have FLx1 := Lib.hid hlk
  clear hb hlk
  go_wp2_with fail
  refine (k2 _).mono ?_
  rintro e w2 ⟨hb, v2, f2, rfl, he2⟩
  have HB2 := Lib.hid (HB1.out.trans (hb.mono HB1.out.size))
  have HM2 := Lib.hid (HM1.out.below hb)
  have HG2 := Lib.hid (HG1.out.below hb)
  have FLx2 := Lib.hid (FLx1.out.below hb)
  have F2x2 := Lib.hid he2
  clear hb he2
  go_wp2_with fail
  refine (k3 _ HM2.out).mono ?_
  rintro e w3 ⟨hb, rfl⟩
  have HB3 := Lib.hid (HB2.out.trans (hb.mono HB2.out.size))
  have HM3 := Lib.hid (HM2.out.below hb)
  have HG3 := Lib.hid (HG2.out.below hb)
  have FLx3 := Lib.hid (FLx2.out.below hb)
  have F2x3 := Lib.hid (F2x2.out.below hb)
  clear hb
  go_wp2_with fail
  refine (k4 _ HM3.out).mono ?_
  rintro e w4 ⟨hb, h4, rfl, he4⟩
  have HB4 := Lib.hid (HB3.out.trans (hb.mono HB3.out.size))
  have HM4 := Lib.hid (HM3.out.below hb)
  have HG4 := Lib.hid (HG3.out.below hb)
  have FLx4 := Lib.hid (FLx3.out.below hb)
  have F2x4 := Lib.hid (F2x3.out.below hb)
  have F4x4 := Lib.hid he4
  clear hb he4
  go_wp2_with fail
  refine (k5 _).mono ?_
  rintro e w5 ⟨hb, mb, moff, mc, rfl, hlm⟩
  have HB5 := Lib.hid (HB4.out.trans (hb.mono HB4.out.size))
  have HM5 := Lib.hid (HM4.out.below hb)
  have HG5 := Lib.hid (HG4.out.below hb)
  have FLx5 := Lib.hid (FLx4.out.below hb)
  have F2x5 := Lib.hid (F2x4.out.below hb)
  have F4x5 := Lib.hid (F4x4.out.below hb)
  have FMx5 := Lib.hid hlm
  clear hb hlm
  go_wp2_with fail
  refine (k6 _).mono ?_
  rintro e w6 ⟨hb, v6, j6, rfl, he6⟩
  have HB6 := Lib.hid (HB5.out.trans (hb.mono HB5.out.size))
  have HM6 := Lib.hid (HM5.out.below hb)
  have HG6 := Lib.hid (HG5.out.below hb)
  have FLx6 := Lib.hid (FLx5.out.below hb)
  have F2x6 := Lib.hid (F2x5.out.below hb)
  have F4x6 := Lib.hid (F4x5.out.below hb)
  have FMx6 := Lib.hid (FMx5.out.below hb)
  have F6x6 := Lib.hid he6
  clear hb he6
  go_wp2_with fail
  refine (k7 _ HM6.out).mono ?_
  rintro e w7 ⟨hb, rfl⟩
  have HB7 := Lib.hid (HB6.out.trans (hb.mono HB6.out.size))
  have HM7 := Lib.hid (HM6.out.below hb)
  have HG7 := Lib.hid (HG6.out.below hb)
  have FLx7 := Lib.hid (FLx6.out.below hb)
  have F2x7 := Lib.hid (F2x6.out.below hb)
  have F4x7 := Lib.hid (F4x6.out.below hb)
  have FMx7 := Lib.hid (FMx6.out.below hb)
  have F6x7 := Lib.hid (F6x6.out.below hb)
  clear hb
  go_wp2_with fail
  have hbx := BlkIs.alloc w7 [.int .i64 1, .int .u16 (15 : Nat)] 56
  have bb := below1 w7 (.cells #[.int .i64 1, .int .u16 (15 : Nat)] 56)
  obtain ⟨w8, hw8⟩ : ∃ w8, w8 = w7.alloc (.cells #[.int .i64 1, .int .u16 (15 : Nat)] 56) := ⟨_, rfl⟩
  obtain ⟨bx, hbxe⟩ : ∃ bx, bx = w7.heap.size := ⟨_, rfl⟩
  rw [← hw8] at hbx bb
  rw [← hbxe] at hbx
  have HBX8 := Lib.hid hbx
  have HB8 := Lib.hid (HB7.out.trans (bb.mono HB7.out.size))
  have HM8 := Lib.hid (HM7.out.below bb)
  have HG8 := Lib.hid (HG7.out.below bb)
  have FLx8 := Lib.hid (FLx7.out.below bb)
  have F2x8 := Lib.hid (F2x7.out.below bb)
  have F4x8 := Lib.hid (F4x7.out.below bb)
  have FMx8 := Lib.hid (FMx7.out.below bb)
  have F6x8 := Lib.hid (F6x7.out.below bb)
  rw [show w7.alloc (.cells #[.int .i64 1, .int .u16 15] 56) = w8 from hw8.symm]
  rw [show w7.heap.size = bx from hbxe.symm]
  clear hbx bb hw8 hbxe
  refine (k8 _).mono ?_
  rintro e w9 ⟨hb, o8, rfl, he8⟩
  have HBX9 := Lib.hid (HBX8.out.below hb)
  have F8x9 := Lib.hid he8
  have HB9 := Lib.hid (HB8.out.trans (hb.mono HB8.out.size))
  have HM9 := Lib.hid (HM8.out.below hb)
  have HG9 := Lib.hid (HG8.out.below hb)
  have FLx9 := Lib.hid (FLx8.out.below hb)
  have F2x9 := Lib.hid (F2x8.out.below hb)
  have F4x9 := Lib.hid (F4x8.out.below hb)
  have FMx9 := Lib.hid (FMx8.out.below hb)
  have F6x9 := Lib.hid (F6x8.out.below hb)
  clear hb he8
  have y0 := FLx9.out.x0
  have y1 := FLx9.out.x1
  have y2 := FLx9.out.x2
  have y3 := FLx9.out.x3
  have hq : ∀ W : World, (binOp .eql 35 (.agg #[.string ⟨#[116, 97, 115, 107]⟩, .int .i64 9]) (.agg #[.string ⟨#[116, 97, 115, 107]⟩, .int .i64 9])).run Tryz.prog W = .ok (.bool true) W := fun W => by kernel_rfl
  have hql : ∀ W : World, (binOp .eql 56 (.agg #[.int .i64 1, .int .u16 15]) (.agg #[.int .i64 1, .int .u16 15])).run Tryz.prog W = .ok (.bool true) W := fun W => by kernel_rfl
  go_wp2_with fail
  refine (kw _ _ _ _ F2x9.out HG9.out).mono ?_
  rintro e w10 ⟨rfl, hb⟩
  have HB10 := Lib.hid (HB9.out.trans (hb.mono HB9.out.size))
  have HG10 := Lib.hid (HG9.out.below hb)
  have F4x10 := Lib.hid (F4x9.out.below hb)
  have FMx10 := Lib.hid (FMx9.out.below hb)
  have F6x10 := Lib.hid (F6x9.out.below hb)
  have F8x10 := Lib.hid (F8x9.out.below hb)
  have HBX10 := Lib.hid (HBX9.out.below hb)
  clear hb
  clear y0 y1 y2 y3
  go_wp2_with fail
  refine (kw _ _ _ _ F4x10.out HG10.out).mono ?_
  rintro e w11 ⟨rfl, hb⟩
  have HB11 := Lib.hid (HB10.out.trans (hb.mono HB10.out.size))
  have HG11 := Lib.hid (HG10.out.below hb)
  have FMx11 := Lib.hid (FMx10.out.below hb)
  have F6x11 := Lib.hid (F6x10.out.below hb)
  have F8x11 := Lib.hid (F8x10.out.below hb)
  have HBX11 := Lib.hid (HBX10.out.below hb)
  clear hb
  have y4 := FMx11.out.x
  go_wp2_with fail
  refine (kw _ _ _ _ F6x11.out HG11.out).mono ?_
  rintro e w12 ⟨rfl, hb⟩
  have HB12 := Lib.hid (HB11.out.trans (hb.mono HB11.out.size))
  have HG12 := Lib.hid (HG11.out.below hb)
  have F8x12 := Lib.hid (F8x11.out.below hb)
  have HBX12 := Lib.hid (HBX11.out.below hb)
  clear hb
  clear y4
  have y5 := HBX12.out.cell 0
  have y6 := HBX12.out.cell 1
  simp only [List.getElem?_cons_zero, List.getElem?_cons_succ] at y5 y6
  go_wp2_with fail
  refine (kw _ _ _ _ F8x12.out HG12.out).mono ?_
  rintro e w13 ⟨rfl, hb⟩
  have HB13 := Lib.hid (HB12.out.trans (hb.mono HB12.out.size))
  have HG13 := Lib.hid (HG12.out.below hb)
  clear hb
  clear y5 y6
  go_wp2_with fail
  refine (ka _ HG13.out).mono ?_
  rintro e w14 ⟨rfl, hb⟩
  have HB14 := Lib.hid (HB13.out.trans (hb.mono HB13.out.size))
  clear hb
  go_wp2_with fail
  go_ret
  exact ⟨rfl, HB14.out⟩
end Go.Proofs.YtefnkoofgpmmmaaGreatDoor

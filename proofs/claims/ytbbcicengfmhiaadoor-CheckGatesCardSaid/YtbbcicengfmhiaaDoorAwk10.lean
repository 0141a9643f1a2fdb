/- The statements' own awake of layer 10. Conditions: the library's variable errors.errorType holds the type error. -/
import Derived.Test.YtbbcicengfmhiaaDoorChk5
import Derived.Test.YtbbcicengfmhiaaDoorErr
namespace Go.Proofs.YtbbcicengfmhiaaDoor
set_option maxRecDepth 100000
open Go.RowKit

def lsA : List Lbl := [(0, 0), (3, 1)]
def psA : List Psn := [(1, 3, 1)]
def tsA (B : Nat) : List TaskV := [⟨⟨#[97]⟩, .slice none 0 0, [], 0, 1, 0, 0, 0⟩, ⟨⟨#[103]⟩, .slice (some ⟨B, 0, none⟩) 1 1, [0], 0, 1, 1, 0, 0⟩]
def nmA : ByteArray := ⟨#[112]⟩
theorem newA : newC lsA psA = 0 := by decide +kernel
theorem chkA1 (B : Nat) : chkE nmA (tsA B) lsA psA 1 = none := by kernel_rfl
theorem chkA0 (B : Nat) : chkE nmA (tsA B) lsA psA 0 = some (1, 9) := by kernel_rfl
theorem chkA2 (B : Nat) : chkE nmA (tsA B) lsA psA 2 = some (-1, 1) := by kernel_rfl
theorem votA : votL lsA psA 1 0 0 psA.length = [0] := by decide +kernel
theorem tarA (B : Nat) : targetsL nmA (tsA B) lsA = [-1, 0] := by kernel_rfl

theorem okA (B : Nat) : okTs (tsA B) := by
  refine ⟨by simp [tsA, maxLen], fun j hj => ?_⟩
  match j, hj with
  | 0, _ => exact ⟨show (0 : Nat) < 65536 by decide, by simp [tsA, maxLen, ByteArray.size], by simp [tsA, maxLen], fun k hk => by simp [tsA] at hk⟩
  | 1, _ =>
    refine ⟨show (0 : Nat) < 65536 by decide, by simp [tsA, maxLen, ByteArray.size], by simp [tsA, maxLen], fun k hk => ?_⟩
    match k, hk with
    | 0, _ => exact (show (-9223372036854775808 : Int) ≤ 0 ∧ (0 : Int) ≤ 9223372036854775807 by decide)
theorem okLA : okL lsA := by
  intro j hj
  match j, hj with
  | 0, _ => decide
  | 1, _ => decide
theorem okPA : okP psA := by
  intro j hj
  match j, hj with
  | 0, _ => decide
/-- what lies about there -/
def AAt (w : World) (r P b B : Nat) (W : World) : Prop := Below w.heap.size w W ∧ MetE W ∧ Ros W (.pointer (some ⟨r, 0, none⟩)) lsA psA ∧ TasksAt W (.slice (some ⟨b, 0, none⟩) 2 2) (tsA B) ∧
  (w.heap.size < W.heap.size ∧ P < W.heap.size) ∧ (W.cell? ⟨w.heap.size, 0, none⟩ = some (.int .i64 0) ∧ W.cell? ⟨w.heap.size, 1, none⟩ = some (.int .u16 0)) ∧
  (W.cell? ⟨P, 0, none⟩ = some (.string ⟨#[112]⟩) ∧ W.cell? ⟨P, 1, none⟩ = some (.slice (some ⟨b, 0, none⟩) 2 2))
theorem AAt.next {w W W' : World} {r P b B : Nat} (h : AAt w r P b B W) (hb : Below W.heap.size W W') : AAt w r P b B W' := by
  obtain ⟨h1, h2, h3, h4, ⟨z1, z2⟩, ⟨l0, l1⟩, p0, p1⟩ := h
  have hs := hb.size
  exact ⟨h1.trans (hb.mono h1.size), h2.below hb, h3.below hb, h4.below hb, ⟨by omega, by omega⟩, ⟨(hb.cell (p := ⟨w.heap.size, 0, none⟩) z1).trans l0, (hb.cell (p := ⟨w.heap.size, 1, none⟩) z1).trans l1⟩, (hb.cell (p := ⟨P, 0, none⟩) z2).trans p0, (hb.cell (p := ⟨P, 1, none⟩) z2).trans p1⟩
theorem ErrAt.some_form {v : Value} {i e : Int} {w : World} (h : ErrAt v (some (i, e)) w) : ∃ b, v = .iface 175 (.pointer (some ⟨b, 0, none⟩)) := by
  obtain ⟨b, h1, _⟩ := h
  exact ⟨b, h1⟩
set_option maxHeartbeats 8000000 in
theorem awake10 (w : World) (hM : MetE w) : Calls Tryd.prog 10 #[] w fun e w' => e = .returned (.bool true) ∧ Below w.heap.size w w' := by
  have HM := Lib.hid hM
  clear hM
  go_enter Tryd.func10, Tryd.ntmps10
  go_wp2_with fail
  refine (rosterNew _ _ lsA psA _ (slAt_of (enc := encL) (fun _ => rfl) rfl (by decide) (by simp) ?c1) (slAt_of (enc := encP) (fun _ => rfl) rfl (by decide) (by simp) ?c2) (by decide) (by decide)).mono ?_
  case c1 =>
    rintro j u hj
    match j, hj with
    | 0, hj => simp [flat, lsA, encL] at hj; subst hj; go_simp
    | 1, hj => simp [flat, lsA, encL] at hj; subst hj; go_simp
    | 2, hj => simp [flat, lsA, encL] at hj; subst hj; go_simp
    | 3, hj => simp [flat, lsA, encL] at hj; subst hj; go_simp
  case c2 =>
    rintro j u hj
    match j, hj with
    | 0, hj => simp [flat, psA, encP] at hj; subst hj; go_simp
    | 1, hj => simp [flat, psA, encP] at hj; subst hj; go_simp
    | 2, hj => simp [flat, psA, encP] at hj; subst hj; go_simp
  rintro e w1 ⟨pv, rfl, hb1, _, hr1⟩
  rw [newA] at hr1 ⊢
  obtain ⟨r, rfl, hrA⟩ := hr1 rfl
  have HR1 := Lib.hid (show Ros w1 (.pointer (some ⟨r, 0, none⟩)) lsA psA from .inr ⟨r, rfl, hrA⟩)
  have HB1 := Lib.hid ((below4 w _ _ _ _).trans (hb1.mono (by simp; omega)))
  have l0 : w1.cell? ⟨w.heap.size, 0, none⟩ = some (.int .i64 0) := by rw [hb1.cell (by simp <;> omega)]; go_simp
  have l1 : w1.cell? ⟨w.heap.size, 1, none⟩ = some (.int .u16 0) := by rw [hb1.cell (by simp <;> omega)]; go_simp
  have hz1 : w.heap.size < w1.heap.size := by have := hb1.size; simp at this; omega
  clear hb1 hr1 hrA
  go_wp2_with fail
  have hb2 := below3 w1 (.cells #[.int .i64 0] 3) (.cells #[.string ⟨#[97]⟩, .slice none 0 0, .int .i64 0, .int .i64 1, .int .i64 0, .int .i64 0, .int .u16 0, .string ⟨#[103]⟩, .slice (some ⟨w1.heap.size, 0, none⟩) 1 1, .int .i64 0, .int .i64 1, .int .i64 1, .int .i64 0, .int .u16 0] 43) (.cells #[.string ⟨#[112]⟩, .slice (some ⟨w1.heap.size + 1, 0, none⟩) 2 2] 24)
  have hT : TasksAt (((w1.alloc (.cells #[.int .i64 0] 3)).alloc (.cells #[.string ⟨#[97]⟩, .slice none 0 0, .int .i64 0, .int .i64 1, .int .i64 0, .int .i64 0, .int .u16 0, .string ⟨#[103]⟩, .slice (some ⟨w1.heap.size, 0, none⟩) 1 1, .int .i64 0, .int .i64 1, .int .i64 1, .int .i64 0, .int .u16 0] 43)).alloc (.cells #[.string ⟨#[112]⟩, .slice (some ⟨w1.heap.size + 1, 0, none⟩) 2 2] 24)) (.slice (some ⟨w1.heap.size + 1, 0, none⟩) 2 2) (tsA w1.heap.size) := by
    refine ⟨slAt_of (k := 7) (enc := encT) (fun _ => rfl) rfl (by decide) (by simp) ?_, ?_⟩
    · rintro j u hj
      match j, hj with
      | 0, hj => simp [flat, tsA, encT] at hj; subst hj; go_simp
      | 1, hj => simp [flat, tsA, encT] at hj; subst hj; go_simp
      | 2, hj => simp [flat, tsA, encT] at hj; subst hj; go_simp
      | 3, hj => simp [flat, tsA, encT] at hj; subst hj; go_simp
      | 4, hj => simp [flat, tsA, encT] at hj; subst hj; go_simp
      | 5, hj => simp [flat, tsA, encT] at hj; subst hj; go_simp
      | 6, hj => simp [flat, tsA, encT] at hj; subst hj; go_simp
      | 7, hj => simp [flat, tsA, encT] at hj; subst hj; go_simp
      | 8, hj => simp [flat, tsA, encT] at hj; subst hj; go_simp
      | 9, hj => simp [flat, tsA, encT] at hj; subst hj; go_simp
      | 10, hj => simp [flat, tsA, encT] at hj; subst hj; go_simp
      | 11, hj => simp [flat, tsA, encT] at hj; subst hj; go_simp
      | 12, hj => simp [flat, tsA, encT] at hj; subst hj; go_simp
      | 13, hj => simp [flat, tsA, encT] at hj; subst hj; go_simp
    · rintro j hj
      match j, hj with
      | 0, _ => exact SlAt.nil _ _ _
      | 1, _ =>
        refine slAt_of (k := 1) (enc := encI) (fun _ => rfl) rfl (by decide) (by simp; omega) ?_
        rintro j u hj
        match j, hj with
        | 0, hj => simp [flat, tsA, encI] at hj; subst hj; go_simp
  have HT := Lib.hid hT
  have HR2 := Lib.hid (HR1.out.below hb2)
  have HB2 := Lib.hid (HB1.out.trans (hb2.mono HB1.out.size))
  have HM2 := Lib.hid (HM.out.below HB2.out)
  have l0' := (hb2.cell (p := ⟨w.heap.size, 0, none⟩) hz1).trans l0
  have l1' := (hb2.cell (p := ⟨w.heap.size, 1, none⟩) hz1).trans l1
  have p0 : (((w1.alloc (.cells #[.int .i64 0] 3)).alloc (.cells #[.string ⟨#[97]⟩, .slice none 0 0, .int .i64 0, .int .i64 1, .int .i64 0, .int .i64 0, .int .u16 0, .string ⟨#[103]⟩, .slice (some ⟨w1.heap.size, 0, none⟩) 1 1, .int .i64 0, .int .i64 1, .int .i64 1, .int .i64 0, .int .u16 0] 43)).alloc (.cells #[.string ⟨#[112]⟩, .slice (some ⟨w1.heap.size + 1, 0, none⟩) 2 2] 24)).cell? ⟨w1.heap.size + 1 + 1, 0, none⟩ = some (.string ⟨#[112]⟩) := by go_simp
  have p1 : (((w1.alloc (.cells #[.int .i64 0] 3)).alloc (.cells #[.string ⟨#[97]⟩, .slice none 0 0, .int .i64 0, .int .i64 1, .int .i64 0, .int .i64 0, .int .u16 0, .string ⟨#[103]⟩, .slice (some ⟨w1.heap.size, 0, none⟩) 1 1, .int .i64 0, .int .i64 1, .int .i64 1, .int .i64 0, .int .u16 0] 43)).alloc (.cells #[.string ⟨#[112]⟩, .slice (some ⟨w1.heap.size + 1, 0, none⟩) 2 2] 24)).cell? ⟨w1.heap.size + 1 + 1, 1, none⟩ = some (.slice (some ⟨w1.heap.size + 1, 0, none⟩) 2 2) := by go_simp
  have hz2 : w.heap.size < (((w1.alloc (.cells #[.int .i64 0] 3)).alloc (.cells #[.string ⟨#[97]⟩, .slice none 0 0, .int .i64 0, .int .i64 1, .int .i64 0, .int .i64 0, .int .u16 0, .string ⟨#[103]⟩, .slice (some ⟨w1.heap.size, 0, none⟩) 1 1, .int .i64 0, .int .i64 1, .int .i64 1, .int .i64 0, .int .u16 0] 43)).alloc (.cells #[.string ⟨#[112]⟩, .slice (some ⟨w1.heap.size + 1, 0, none⟩) 2 2] 24)).heap.size ∧ w1.heap.size + 1 + 1 < (((w1.alloc (.cells #[.int .i64 0] 3)).alloc (.cells #[.string ⟨#[97]⟩, .slice none 0 0, .int .i64 0, .int .i64 1, .int .i64 0, .int .i64 0, .int .u16 0, .string ⟨#[103]⟩, .slice (some ⟨w1.heap.size, 0, none⟩) 1 1, .int .i64 0, .int .i64 1, .int .i64 1, .int .i64 0, .int .u16 0] 43)).alloc (.cells #[.string ⟨#[112]⟩, .slice (some ⟨w1.heap.size + 1, 0, none⟩) 2 2] 24)).heap.size := by simp; omega
  clear hb2 hT l0 l1 HR1 HB1 HM
  generalize (((w1.alloc (.cells #[.int .i64 0] 3)).alloc (.cells #[.string ⟨#[97]⟩, .slice none 0 0, .int .i64 0, .int .i64 1, .int .i64 0, .int .i64 0, .int .u16 0, .string ⟨#[103]⟩, .slice (some ⟨w1.heap.size, 0, none⟩) 1 1, .int .i64 0, .int .i64 1, .int .i64 1, .int .i64 0, .int .u16 0] 43)).alloc (.cells #[.string ⟨#[112]⟩, .slice (some ⟨w1.heap.size + 1, 0, none⟩) 2 2] 24)) = W2 at HT HR2 HB2 HM2 l0' l1' p0 p1 hz2 ⊢
  have HA := Lib.hid (show AAt w r (w1.heap.size + 1 + 1) (w1.heap.size + 1) w1.heap.size W2 from ⟨HB2.out, HM2.out, HR2.out, HT.out, hz2, ⟨l0', l1'⟩, p0, p1⟩)
  generalize w1.heap.size = n1 at HA ⊢
  clear HT HR2 HB2 HM2 l0' l1' p0 p1 hz2 hz1
  obtain ⟨_, _, hr, ht, _⟩ := HA.out
  refine (checkCheck _ lsA psA 1 nmA _ (tsA n1) W2 hr ht (okA n1) (by decide) (by decide) (by decide) okLA okPA).mono ?_
  rintro e w3 ⟨va, rfl, he, hb3⟩
  rw [chkA1] at he
  obtain rfl : va = .nilIface := he
  have HA3 := Lib.hid (HA.out.next hb3)
  clear hr ht hb3 HA
  obtain ⟨_, _, hr, ht, hzz, ⟨l0, l1⟩, p0, p1⟩ := HA3.out
  have HR := Lib.hid hr
  have HT := Lib.hid ht
  clear hr ht
  go_wp2_with fail
  refine (checkCheck _ lsA psA 0 nmA _ (tsA n1) w3 HR.out HT.out (okA n1) (by decide) (by decide) (by decide) okLA okPA).mono ?_
  rintro e w4 ⟨vb, rfl, he, hb4⟩
  rw [chkA0] at he
  have HEB := Lib.hid he
  have HA4 := Lib.hid (HA3.out.next hb4)
  clear he hb4 HA3 l0 l1 p0 p1 hzz HR HT
  obtain ⟨_, _, hr, ht, hzz, ⟨l0, l1⟩, p0, p1⟩ := HA4.out
  have HR := Lib.hid hr
  have HT := Lib.hid ht
  clear hr ht
  go_wp2_with fail
  refine (checkCheck _ lsA psA 2 nmA _ (tsA n1) w4 HR.out HT.out (okA n1) (by decide) (by decide) (by decide) okLA okPA).mono ?_
  rintro e w5 ⟨vc, rfl, he, hb5⟩
  rw [chkA2] at he
  have HEC := Lib.hid he
  have HEB := Lib.hid (HEB.out.below hb5)
  have HA5 := Lib.hid (HA4.out.next hb5)
  clear he hb5 HA4 l0 l1 p0 p1 hzz HR HT
  obtain ⟨_, _, hr, ht, hzz, ⟨l0, l1⟩, p0, p1⟩ := HA5.out
  have HR := Lib.hid hr
  clear hr ht
  go_wp2_with fail
  refine (checkVoters _ lsA psA 1 0 0 w5 HR.out (by decide) (by decide) okLA okPA (by decide)).mono ?_
  rintro e w6 ⟨vv, rfl, hv, hb6⟩
  rw [votA] at hv
  have HV := Lib.hid hv
  have HEB := Lib.hid (HEB.out.below hb6)
  have HEC := Lib.hid (HEC.out.below hb6)
  have HA6 := Lib.hid (HA5.out.next hb6)
  clear hv hb6 HA5 l0 l1 p0 p1 hzz HR
  obtain ⟨_, _, hr, ht, hzz, ⟨l0, l1⟩, p0, p1⟩ := HA6.out
  have HR := Lib.hid hr
  have HT := Lib.hid ht
  clear hr ht
  go_wp2_with fail
  refine (checkTargets _ lsA psA nmA _ (tsA n1) w6 HR.out HT.out (okA n1) (by decide) (by decide)).mono ?_
  rintro e w7 ⟨vt, rfl, hv, hb7⟩
  rw [tarA] at hv
  have HTG := Lib.hid hv
  have HV := Lib.hid (HV.out.below hb7)
  have HEB := Lib.hid (HEB.out.below hb7)
  have HEC := Lib.hid (HEC.out.below hb7)
  have HA7 := Lib.hid (HA6.out.next hb7)
  clear hv hb7 HA6 l0 l1 p0 p1 hzz HR HT
  have HB7 := Lib.hid HA7.out.1
  have HM7 := Lib.hid HA7.out.2.1
  clear HA7
  go_wp2_with fail
  refine (wrongC vb _ 9 1 w7 HEB.out HM7.out).mono ?_
  rintro e w8 ⟨rfl, hb8⟩
  rw [show (isB (some ((1 : Int), (9 : Int))) 9 && atE (some ((1 : Int), (9 : Int))) == 1) = true by decide]
  have HV := Lib.hid (HV.out.below hb8)
  have HTG := Lib.hid (HTG.out.below hb8)
  have HEC := Lib.hid (HEC.out.below hb8)
  have HM8 := Lib.hid (HM7.out.below hb8)
  have HB8 := Lib.hid (HB7.out.trans (hb8.mono HB7.out.size))
  clear hb8 HEB HM7 HB7
  go_wp2_with fail
  refine (wrongC vc _ 1 (-1) w8 HEC.out HM8.out).mono ?_
  rintro e w9 ⟨rfl, hb9⟩
  rw [show (isB (some ((-1 : Int), (1 : Int))) 1 && atE (some ((-1 : Int), (1 : Int))) == -1) = true by decide]
  have HV := Lib.hid (HV.out.below hb9)
  have HTG := Lib.hid (HTG.out.below hb9)
  have HB9 := Lib.hid (HB8.out.trans (hb9.mono HB8.out.size))
  clear hb9 HEC HM8 HB8
  go_wp2_with fail
  have hx := below1 w9 (.cells #[.int .i64 0] 3)
  refine (same02 _ _ [0] [0] _ (HV.out.below hx) (slAt_of (enc := encI) (fun _ => rfl) rfl (by decide) (by simp) ?d1) (by decide) (by decide)).mono ?_
  case d1 =>
    rintro j u hj
    match j, hj with
    | 0, hj => simp [flat, encI] at hj; subst hj; go_simp
  rintro e w10 ⟨rfl, hb10⟩
  rw [show decide (([0] : List Int) = [0]) = true by decide]
  have HTG := Lib.hid ((HTG.out.below hx).below hb10)
  have HB10 := Lib.hid ((HB9.out.trans (hx.mono HB9.out.size)).trans (hb10.mono (HB9.out.trans (hx.mono HB9.out.size)).size))
  clear hx hb10 HB9 HV
  go_wp2_with fail
  have hx := below1 w10 (.cells #[.int .i64 (-1), .int .i64 0] 3)
  refine (same02 _ _ [-1, 0] [-1, 0] _ (HTG.out.below hx) (slAt_of (enc := encI) (fun _ => rfl) rfl (by decide) (by simp) ?d2) (by decide) (by decide)).mono ?_
  case d2 =>
    rintro j u hj
    match j, hj with
    | 0, hj => simp [flat, encI] at hj; subst hj; go_simp
    | 1, hj => simp [flat, encI] at hj; subst hj; go_simp
  rintro e w11 ⟨rfl, hb11⟩
  rw [show decide (([-1, 0] : List Int) = [-1, 0]) = true by decide]
  have HB11 := Lib.hid ((HB10.out.trans (hx.mono HB10.out.size)).trans (hb11.mono (HB10.out.trans (hx.mono HB10.out.size)).size))
  clear hx hb11 HB10 HTG
  go_wp2
  go_ret
  exact ⟨rfl, HB11.out⟩
end Go.Proofs.YtbbcicengfmhiaaDoor

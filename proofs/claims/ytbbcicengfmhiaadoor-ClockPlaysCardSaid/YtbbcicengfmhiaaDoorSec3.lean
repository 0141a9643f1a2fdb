/- sector.Right, sector.Print. Conditions: sizes. -/
import Derived.Test.YtbbcicengfmhiaaDoorSec2
import Derived.StillTailTactics
import Derived.OwnWalk
namespace Go.Proofs.YtbbcicengfmhiaaDoor
set_option maxRecDepth 100000
open Go.RowKit

set_option maxHeartbeats 1000000 in
theorem secRight (st : Nat) (ge no ix to : Int) (d : List UInt8) (w : World) (hd : d.length ≤ 9223372036854775807) :
    Calls Tryd.prog 159 #[(.agg #[.int .u64 ((st : Nat) : Int), .int .i64 (ge), .int .i64 (no), .int .i64 (ix), .int .i64 (to), .string ⟨((d : List UInt8)).toArray⟩])] w fun e w' => e = .returned (.bool (rightP ⟨st, ge, no, ix, to, d⟩)) ∧ Below w.heap.size w w' := by
  have HR := Lib.hid (show rightP ⟨st, ge, no, ix, to, d⟩ = (inP ge 2147483648 && (inP no 65536 && (inP to 65536 && (inP ix to && decide (d.length ≤ 37))))) from rfl)
  have k1 := Lib.hid (fun W => secWithin ge 2147483648 W)
  have k2 := Lib.hid (fun W => secWithin no 65536 W)
  have k3 := Lib.hid (fun W => secWithin to 65536 W)
  have k4 := Lib.hid (fun W => secWithin ix to W)
  have HB := Lib.hid (below1 w (.cells #[.int .u64 ((st : Nat) : Int), .int .i64 (ge), .int .i64 (no), .int .i64 (ix), .int .i64 (to), .string ⟨((d : List UInt8)).toArray⟩] 196))
  have hsz := szL d
  generalize (⟨d.toArray⟩ : ByteArray) = s at hsz HB ⊢
  generalize rightP ⟨st, ge, no, ix, to, d⟩ = R at HR ⊢
  generalize inP ge 2147483648 = q1 at HR k1
  generalize inP no 65536 = q2 at HR k2
  generalize inP to 65536 = q3 at HR k3
  generalize inP ix to = q4 at HR k4
  generalize d.length = n at hd HR hsz
  go_enter Tryd.func159, Tryd.ntmps159
  go_wp2_with fail
  refine (k1.out _).mono ?_
  rintro e w1 ⟨rfl, rfl⟩
  cases q1 with
  | false =>
    go_wp2
    go_ret
    exact ⟨by rw [HR.out]; rfl, HB.out⟩
  | true =>
  go_wp2_with fail
  refine (k2.out _).mono ?_
  rintro e w1 ⟨rfl, rfl⟩
  cases q2 with
  | false =>
    go_wp2
    go_ret
    exact ⟨by rw [HR.out]; rfl, HB.out⟩
  | true =>
  go_wp2_with fail
  refine (k3.out _).mono ?_
  rintro e w1 ⟨rfl, rfl⟩
  cases q3 with
  | false =>
    go_wp2
    go_ret
    exact ⟨by rw [HR.out]; rfl, HB.out⟩
  | true =>
  go_wp2_with fail
  refine (k4.out _).mono ?_
  rintro e w1 ⟨rfl, rfl⟩
  cases q4 with
  | false =>
    go_wp2
    go_ret
    exact ⟨by rw [HR.out]; rfl, HB.out⟩
  | true =>
  go_wp2
  go_ret
  exact ⟨by rw [HR.out]; simp; omega, HB.out⟩

theorem splice_at {α : Type} (A R c : List α) {o : Nat} (hA : A.length = o) : splice (A ++ R) o c = A ++ (c ++ R.drop c.length) := by
  subst hA
  unfold splice
  rw [List.take_left, List.drop_length_add_append]
theorem zeros_drop (k j : Nat) : (zeros k).drop j = zeros (k - j) := by simp [zeros]
/-- the piece's box, the sector's bytes under way -/
def PrAt (w : World) (q g : Nat) (cs : List Value) (l : List UInt8) (W : World) : Prop := (w.heap.size ≤ q ∧ q < g) ∧ BlkIs W q cs 196 ∧ BlkIs W g (bcs l) 162 ∧ Below w.heap.size w W
theorem PrAt.kept {w W W' : World} {q g : Nat} {cs : List Value} {l l' : List UInt8} (h : PrAt w q g cs l W) (hk : KeptG g W W') (hb : BlkIs W' g (bcs l') 162) : PrAt w q g cs l' W' :=
  ⟨h.1, hk.blk h.2.1 (by have := h.1; omega), hb, KeptG.below h.2.2.2 hk (by have := h.1; omega)⟩
def pr1 (st : Nat) : List UInt8 := be 8 st ++ zeros 56
def pr2 (st ge : Nat) : List UInt8 := (be 8 st ++ be 4 ge) ++ zeros 52
def pr3 (st ge no : Nat) : List UInt8 := (be 8 st ++ (be 4 ge ++ be 2 no)) ++ zeros 50
def pr4 (st ge no ix : Nat) : List UInt8 := (be 8 st ++ (be 4 ge ++ (be 2 no ++ be 2 ix))) ++ zeros 48
def pr5 (st ge no ix to : Nat) : List UInt8 := (be 8 st ++ (be 4 ge ++ (be 2 no ++ (be 2 ix ++ be 2 to)))) ++ zeros 46
def pr6 (st ge no ix to n : Nat) : List UInt8 := (be 8 st ++ (be 4 ge ++ (be 2 no ++ (be 2 ix ++ (be 2 to ++ [UInt8.ofNat n]))))) ++ zeros 45
def pr7 (st ge no ix to : Nat) (d : List UInt8) : List UInt8 := (be 8 st ++ (be 4 ge ++ (be 2 no ++ (be 2 ix ++ (be 2 to ++ ([UInt8.ofNat d.length] ++ (d ++ zeros (37 - d.length)))))))) ++ zeros 8
theorem pr1_eq (st : Nat) : splice (zeros 64) 0 (be 8 st) = pr1 st := by
  have := splice_at [] (zeros 64) (be 8 st) (o := 0) rfl
  rw [be_len, zeros_drop] at this
  simpa [pr1] using this
theorem pr2_eq (st ge : Nat) : splice (pr1 st) 8 (be 4 ge) = pr2 st ge := by
  rw [pr1, splice_at _ _ _ (be_len 8 st), be_len, zeros_drop, pr2, List.append_assoc]
theorem pr3_eq (st ge no : Nat) : splice (pr2 st ge) 12 (be 2 no) = pr3 st ge no := by
  rw [pr2, splice_at _ _ _ (by simp [be_len]), be_len, zeros_drop, pr3]
  simp only [List.append_assoc]
theorem pr4_eq (st ge no ix : Nat) : splice (pr3 st ge no) 14 (be 2 ix) = pr4 st ge no ix := by
  rw [pr3, splice_at _ _ _ (by simp [be_len]), be_len, zeros_drop, pr4]
  simp only [List.append_assoc]
theorem pr5_eq (st ge no ix to : Nat) : splice (pr4 st ge no ix) 16 (be 2 to) = pr5 st ge no ix to := by
  rw [pr4, splice_at _ _ _ (by simp [be_len]), be_len, zeros_drop, pr5]
  simp only [List.append_assoc]
theorem pr6_eq (st ge no ix to n : Nat) : (pr5 st ge no ix to).set 18 (UInt8.ofNat n) = pr6 st ge no ix to n := by
  rw [pr5, List.set_append_right _ _ (by simp [be_len]), pr6]
  have : 18 - (be 8 st ++ (be 4 ge ++ (be 2 no ++ (be 2 ix ++ be 2 to)))).length = 0 := by simp [be_len]
  rw [this]
  simp only [List.append_assoc]
  rfl
theorem pr7_eq (st ge no ix to : Nat) (d : List UInt8) (hd : d.length ≤ 37) : splice (pr6 st ge no ix to d.length) 19 d = pr7 st ge no ix to d := by
  rw [pr6, splice_at _ _ _ (by simp [be_len]), zeros_drop, pr7]
  have : zeros (45 - d.length) = zeros (37 - d.length) ++ zeros 8 := by
    unfold zeros
    rw [List.replicate_append_replicate]
    congr 1
    omega
  rw [this]
  simp only [List.append_assoc]
theorem pr8_eq (st ge no ix to : Nat) (d : List UInt8) (hd : d.length ≤ 37) : splice (pr7 st ge no ix to d) 56 (be 8 st) = printP ⟨st, ge, no, ix, to, d⟩ := by
  rw [pr7, splice_at _ _ _ (by simp [be_len, zeros]; omega), be_len, zeros_drop, printP, headP]
  simp only [List.append_assoc, Int.toNat_natCast]
  congr 7
theorem pr_len (st ge no ix to : Nat) (d : List UInt8) (hd : d.length ≤ 37) : (pr1 st).length = 64 ∧ (pr2 st ge).length = 64 ∧ (pr3 st ge no).length = 64 ∧ (pr4 st ge no ix).length = 64 ∧ (pr5 st ge no ix to).length = 64 ∧ (pr6 st ge no ix to d.length).length = 64 ∧ (pr7 st ge no ix to d).length = 64 := by
  refine ⟨?_, ?_, ?_, ?_, ?_, ?_, ?_⟩ <;> simp [pr1, pr2, pr3, pr4, pr5, pr6, pr7, be_len, zeros] <;> omega
set_option maxHeartbeats 4000000 in
theorem secPrint (st ge no ix to : Nat) (d : List UInt8) (w : World) (hst : st < 18446744073709551616) (hr : rightP ⟨st, ge, no, ix, to, d⟩ = true) :
    Calls Tryd.prog 138 #[(.agg #[.int .u64 ((st : Nat) : Int), .int .i64 ((ge : Int)), .int .i64 ((no : Int)), .int .i64 ((ix : Int)), .int .i64 ((to : Int)), .string ⟨((d : List UInt8)).toArray⟩])] w fun e w' => e = .returned (.tuple #[.string ⟨(printP ⟨st, ge, no, ix, to, d⟩).toArray⟩, .int .i64 0]) ∧ Below w.heap.size w w' := by
  obtain ⟨r1, r2, r3, r4, r5⟩ := rightP_iff.1 hr
  dsimp only at r1 r2 r3 r4 r5
  have hk := secRight st ge no ix to d
  rw [hr] at hk
  have HK := Lib.hid (fun W => hk W (by omega))
  have HL := Lib.hid (pr_len st ge no ix to d r5)
  clear hk hr
  go_enter Tryd.func138, Tryd.ntmps138
  go_wp2_with fail
  refine (HK.out _).mono ?_
  rintro e w1 ⟨rfl, hb⟩
  have HB1 := Lib.hid ((below1 w (.cells #[.int .u64 ((st : Nat) : Int), .int .i64 ((ge : Int)), .int .i64 ((no : Int)), .int .i64 ((ix : Int)), .int .i64 ((to : Int)), .string ⟨((d : List UInt8)).toArray⟩] 196)).trans (hb.mono (by simp)))
  have HC1 := Lib.hid (show BlkIs w1 w.heap.size _ 196 from (BlkIs.alloc w [.int .u64 (st : Int), .int .i64 (ge : Int), .int .i64 (no : Int), .int .i64 (ix : Int), .int .i64 (to : Int), .string ⟨d.toArray⟩] 196).below hb)
  clear hb
  go_wp2_with fail
  change Code.wp _ _ _ _ (w1.alloc (.cells (bcs (zeros 64)).toArray 162))
  have HP := Lib.hid (show PrAt w w.heap.size w1.heap.size [.int .u64 (st : Int), .int .i64 (ge : Int), .int .i64 (no : Int), .int .i64 (ix : Int), .int .i64 (to : Int), .string ⟨d.toArray⟩] (zeros 64) (w1.alloc (.cells (bcs (zeros 64)).toArray 162)) from
    ⟨⟨Nat.le_refl _, HC1.out.lt⟩, HC1.out.below (below1 _ _), BlkIs.alloc _ _ _, HB1.out.alloc HB1.out.size _⟩)
  generalize w1.alloc (.cells (bcs (zeros 64)).toArray 162) = W1 at HP ⊢
  clear HB1 HC1
  generalize w1.heap.size = g at HP ⊢
  generalize w.heap.size = q at HP ⊢
  have hw2 : IntKind.u64.wrap (ge : Int) = (ge : Int) := by simp [IntKind.wrap, IntKind.signed, IntKind.bits]; omega
  have hw3 : IntKind.u64.wrap (no : Int) = (no : Int) := by simp [IntKind.wrap, IntKind.signed, IntKind.bits]; omega
  have hw4 : IntKind.u64.wrap (ix : Int) = (ix : Int) := by simp [IntKind.wrap, IntKind.signed, IntKind.bits]; omega
  have hw5 : IntKind.u64.wrap (to : Int) = (to : Int) := by simp [IntKind.wrap, IntKind.signed, IntKind.bits]; omega
  have b2 : ge < 18446744073709551616 := by omega
  have b3 : no < 18446744073709551616 := by omega
  have b4 : ix < 18446744073709551616 := by omega
  have b5 : to < 18446744073709551616 := by omega
  have HB2 := Lib.hid b2
  have HB3 := Lib.hid b3
  have HB4 := Lib.hid b4
  have HB5 := Lib.hid b5
  have HB1 := Lib.hid hst
  clear b2 b3 b4 b5 hst r1 r2 r3 r4
  have c0 : W1.cell? ⟨q, 0, none⟩ = some (.int .u64 (st : Int)) := HP.out.2.1.cell 0
  go_still_tail 3, (by kernel_rfl)
  change wpList _ _ _ _ _ W1.drew
  go_wp2_with fail
  refine (secPut g 0 8 64 st (zeros 64) 162 W1.drew HP.out.2.2.1 (by have := HL.out; (try simp only [show (zeros 64).length = 64 from rfl]); omega) (by decide) HB1.out).mono ?_
  rintro e W2 ⟨rfl, hb, hk⟩
  rw [pr1_eq] at hb
  have HP := Lib.hid (HP.out.kept ((KeptG.drew g _).trans hk) hb)
  clear hb hk c0
  go_wp2_with fail
  have c0 : W2.cell? ⟨q, 1, none⟩ = some (.int .i64 (ge : Int)) := HP.out.2.1.cell 1
  go_still_tail 4, (by kernel_rfl)
  change wpList _ _ _ _ _ W2.drew
  go_wp2_with fail
  refine (secPut g 8 4 56 ge (pr1 st) 162 W2.drew HP.out.2.2.1 (by have := HL.out; omega) (by decide) HB2.out).mono ?_
  rintro e W3 ⟨rfl, hb, hk⟩
  rw [pr2_eq] at hb
  have HP := Lib.hid (HP.out.kept ((KeptG.drew g _).trans hk) hb)
  clear hb hk c0
  go_wp2_with fail
  have c0 : W3.cell? ⟨q, 2, none⟩ = some (.int .i64 (no : Int)) := HP.out.2.1.cell 2
  go_still_tail 4, (by kernel_rfl)
  change wpList _ _ _ _ _ W3.drew
  go_wp2_with fail
  refine (secPut g 12 2 52 no (pr2 st ge) 162 W3.drew HP.out.2.2.1 (by have := HL.out; omega) (by decide) HB3.out).mono ?_
  rintro e W4 ⟨rfl, hb, hk⟩
  rw [pr3_eq] at hb
  have HP := Lib.hid (HP.out.kept ((KeptG.drew g _).trans hk) hb)
  clear hb hk c0
  go_wp2_with fail
  have c0 : W4.cell? ⟨q, 3, none⟩ = some (.int .i64 (ix : Int)) := HP.out.2.1.cell 3
  go_still_tail 4, (by kernel_rfl)
  change wpList _ _ _ _ _ W4.drew
  go_wp2_with fail
  refine (secPut g 14 2 50 ix (pr3 st ge no) 162 W4.drew HP.out.2.2.1 (by have := HL.out; omega) (by decide) HB4.out).mono ?_
  rintro e W5 ⟨rfl, hb, hk⟩
  rw [pr4_eq] at hb
  have HP := Lib.hid (HP.out.kept ((KeptG.drew g _).trans hk) hb)
  clear hb hk c0
  go_wp2_with fail
  have c0 : W5.cell? ⟨q, 4, none⟩ = some (.int .i64 (to : Int)) := HP.out.2.1.cell 4
  go_still_tail 4, (by kernel_rfl)
  change wpList _ _ _ _ _ W5.drew
  go_wp2_with fail
  refine (secPut g 16 2 48 to (pr4 st ge no ix) 162 W5.drew HP.out.2.2.1 (by have := HL.out; omega) (by decide) HB5.out).mono ?_
  rintro e W6 ⟨rfl, hb, hk⟩
  rw [pr5_eq] at hb
  have HP := Lib.hid (HP.out.kept ((KeptG.drew g _).trans hk) hb)
  clear hb hk c0
  
  have c0 : W6.cell? ⟨q, 5, none⟩ = some (.string ⟨d.toArray⟩) := HP.out.2.1.cell 5
  have d0 := HP.out.2.2.1.cell 18
  have hcl : 18 < (bcs (pr5 st ge no ix to)).length := by rw [bcs_len]; have := HL.out; omega
  rw [List.getElem?_eq_getElem hcl] at d0
  generalize (bcs (pr5 st ge no ix to))[18] = u0 at d0
  have f0 := HP.out.2.2.1.frozen 18
  have hsz := szL d
  have HP := Lib.hid (HP.out.kept (KeptG.set g 18 W6 (.int .u8 (d.length : Int))) (show BlkIs _ g (bcs (pr6 st ge no ix to d.length)) 162 from by
    have := HP.out.2.2.1.set (o := 18) (.int .u8 ((UInt8.ofNat d.length).toNat : Int))
    rw [bcs_set, pr6_eq] at this
    rw [show ((UInt8.ofNat d.length).toNat : Int) = (d.length : Int) by rw [UInt8.toNat_ofNat']; simp; omega] at this
    exact this))
  clear hcl
  go_wp2_with fail
  generalize W6.setCell ⟨g, 18, none⟩ (.int .u8 (d.length : Int)) = W7 at HP ⊢
  clear c0 d0 f0
  have c0 : W7.cell? ⟨q, 5, none⟩ = some (.string ⟨d.toArray⟩) := HP.out.2.1.cell 5
  go_still_tail 3, (by kernel_rfl)
  change wpList _ _ _ _ _ W7.drew
  have hth : W7.drew.there g 19 d.length := (show BlkIs W7.drew g _ 162 from HP.out.2.2.1).there (by rw [bcs_len]; have := HL.out; omega)
  refine wpList_copy_string rfl (.tmp 37) (.tmp 39) 56 9 rfl 5 Tryd.underlying56 Tryd.sizeOf5 g 19 37 45 rfl d rfl r5 hth ?_
  have HP := Lib.hid (HP.out.kept ((KeptG.drew g _).trans (KeptG.sets g 19 W7.drew (bcs d))) (show BlkIs _ g (bcs (pr7 st ge no ix to d)) 162 from by
    have := BlkIs.sets (bcs d) 19 W7.drew _ (show BlkIs W7.drew g _ 162 from HP.out.2.2.1) (by rw [bcs_len, bcs_len]; have := HL.out; omega)
    rw [bcs_splice, pr7_eq _ _ _ _ _ _ r5] at this
    exact this))
  clear hth c0
  generalize W7.drew.setCells g 19 (bcs d) = W8 at HP ⊢
  go_wp2_with fail
  have c0 : W8.cell? ⟨q, 0, none⟩ = some (.int .u64 (st : Int)) := HP.out.2.1.cell 0
  go_still_tail 3, (by kernel_rfl)
  change wpList _ _ _ _ _ W8.drew
  go_wp2_with fail
  refine (secPut g 56 8 8 st (pr7 st ge no ix to d) 162 W8.drew HP.out.2.2.1 (by have := HL.out; omega) (by decide) HB1.out).mono ?_
  rintro e W9 ⟨rfl, hb, hk⟩
  rw [pr8_eq _ _ _ _ _ _ r5] at hb
  have HP := Lib.hid (HP.out.kept ((KeptG.drew g _).trans hk) hb)
  clear hb hk c0
  go_wp2_with fail
  have hcv := run_bytes (w := W9) (b := g) (o := 0) (k := 64) (cap := 64) (src := 56) (dst := 9) (e := 5) (l := printP ⟨st, ge, no, ix, to, d⟩) Tryd.underlying56 Tryd.underlying5 Tryd.underlying9 HP.out.2.2.1 (printP_len (p := ⟨st, ge, no, ix, to, d⟩) r5).symm (fun j _ => by rw [Nat.zero_add])
  rw [hcv]
  simp only [Result.andThen]
  rw [Oper.upon_value]
  clear hcv
  go_wp2
  go_ret2
  exact ⟨rfl, HP.out.2.2.2⟩
end Go.Proofs.YtbbcicengfmhiaaDoor

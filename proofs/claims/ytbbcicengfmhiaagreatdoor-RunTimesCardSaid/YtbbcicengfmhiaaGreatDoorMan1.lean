/- manifest.rightTask. Conditions: sizes. -/
import Derived.Test.YtbbcicengfmhiaaGreatDoorNam
import Derived.Test.YtbbcicengfmhiaaGreatDoorHasI
import Derived.Test.YtbbcicengfmhiaaGreatDoorLRt
namespace Go.Proofs.YtbbcicengfmhiaaGreatDoor
open Go.RowKit

/-- a task lies there -/
def TaskAt (w : World) (b off : Nat) (t : TaskV) : Prop := b < w.heap.size ∧ (∀ i u, (encT t)[i]? = some u → w.cell? ⟨b, off + i, none⟩ = some u) ∧ SlAt 1 encI w t.sl t.after
theorem TaskAt.below {w w' : World} {b off : Nat} {t : TaskV} (h : TaskAt w b off t) (hb : Below w.heap.size w w') : TaskAt w' b off t :=
  ⟨Nat.lt_of_lt_of_le h.1 hb.size, fun i u hu => (hb.cell (p := ⟨b, off + i, none⟩) h.1).trans (h.2.1 i u hu), h.2.2.below hb⟩
theorem TaskAt.cells {w : World} {b off : Nat} {t : TaskV} (h : TaskAt w b off t) : w.cell? ⟨b, off, none⟩ = some (.string t.nm) ∧ w.cell? ⟨b, off + 1, none⟩ = some t.sl ∧ w.cell? ⟨b, off + 2, none⟩ = some (.int .i64 t.retry) ∧ w.cell? ⟨b, off + 3, none⟩ = some (.int .i64 t.time) ∧ w.cell? ⟨b, off + 4, none⟩ = some (.int .i64 t.need) ∧ w.cell? ⟨b, off + 5, none⟩ = some (.int .i64 t.lv) ∧ w.cell? ⟨b, off + 5 + 1, none⟩ = some (.int .u16 (t.set : Int)) :=
  ⟨h.2.1 0 _ rfl, h.2.1 1 _ rfl, h.2.1 2 _ rfl, h.2.1 3 _ rfl, h.2.1 4 _ rfl, h.2.1 5 _ rfl, h.2.1 6 _ rfl⟩
/-- a label that is none -/
theorem run_eqL0 (a : Int) (x : Nat) (w : World) : (binOp .eql 80 (.agg #[.int .i64 (a), .int .u16 ((x : Nat) : Int)]) (.agg #[.int .i64 0, .int .u16 0])).run Tryz.prog w = .ok (.bool (a == 0 && x == 0)) w := run_eqL a 0 x 0 w

set_option maxRecDepth 100000 in
set_option maxHeartbeats 4000000 in
theorem manRightTask (b off : Nat) (t : TaskV) (n : Int) (w : World) (h : TaskAt w b off t) (hn : 0 ≤ n ∧ n ≤ 1000) (hok : t.ok) :
    Calls Tryz.prog 126 #[.pointer (some ⟨b, off, none⟩), .int .i64 n] w fun e w' => e = .returned (.bool (taskB n t)) ∧ Below w.heap.size w w' := by
  obtain ⟨c0, c1, c2, c3, c4, c5, c6⟩ := h.cells
  have HT := Lib.hid h
  obtain ⟨hset, hnm, hal, hav⟩ := hok
  have HAV := Lib.hid hav
  have HR := Lib.hid (show taskB n t = (afterB n t.after t.after.length && restB t.nm t.retry t.time t.need t.lv t.set) from rfl)
  have HNO := Lib.hid (fun k (hk : k < t.after.length) h => afterB_no (n := n) (l := t.after) (k := k) hk h)
  have HSU := Lib.hid (fun k => afterB_succ n t.after k)
  have HS := Lib.hid h.2.2
  clear hav h
  obtain ⟨p, c, hv, ⟨hcap, hnn⟩, hcc⟩ := id HS.out
  have HCC := Lib.hid hcc
  have HNN := Lib.hid hnn
  clear hcc hnn
  rw [hv] at c1 HS
  clear hv
  unfold maxLen at hal
  generalize hlen : t.after.length = m at hal HR HNO hcap HCC HNN c1 HS
  have HL := Lib.hid hlen
  clear hlen
  generalize taskB n t = R at HR ⊢
  go_enter Tryz.func126, Tryz.ntmps126
  go_wp2
  go_loopw [18] (fun i wr => ∃ j : Nat, j ≤ m ∧ i = .int .i64 j ∧ w = wr ∧ afterB n t.after j = true) (fun i _ => m - (intOf i).toNat)
  case atStart => exact ⟨0, by omega, rfl, rfl, rfl⟩
  case round =>
    obtain ⟨j, hj, rfl, rfl, hall⟩ := hrel
    have HA := Lib.hid hall
    clear hall
    by_cases hlt : j < m
    · have hltz : (j : Int) < (m : Int) := by omega
      obtain ⟨bk, o2, rfl, hb2, hc⟩ := HCC.out (by omega)
      have d0 : w.cell? ⟨bk, o2 + j, none⟩ = some (.int .i64 t.after[j]!) := by have := hc j (by have := HL.out; omega) 0 _ rfl; simpa using this
      clear hc
      have hS1 := HS.out.take (j := j) (by have := HL.out; omega)
      have k1 := manWithin t.after[j]! 0 (n - 1) w
      have k2 := hasI t.after[j]! _ (t.after.take j) w hS1 (by simp; omega)
      have HE := Lib.hid (HSU.out j)
      have HF := Lib.hid (fun h => HNO.out j hlt h)
      clear hS1
      generalize withinB t.after[j]! 0 (n - 1) = q1 at k1 HE HF
      generalize ((t.after.take j).any fun y => t.after[j]! == y) = q2 at k2 HE HF
      generalize t.after[j]! = a at d0 k1 k2
      have K1 := Lib.hid k1
      have K2 := Lib.hid k2
      clear k1 k2
      cases q1 with
      | false =>
        go_wp2_with fail
        refine K1.out.mono ?_
        rintro e w1 ⟨rfl, rfl⟩
        go_wp2
        go_ret
        exact ⟨by rw [HR.out, HF.out rfl]; rfl, Below.refl _ _⟩
      | true =>
        go_wp2_with fail
        refine K1.out.mono ?_
        rintro e w1 ⟨rfl, rfl⟩
        go_wp2_with fail
        refine K2.out.mono ?_
        rintro e w1 ⟨rfl, rfl⟩
        cases q2 with
        | true =>
          go_wp2
          go_ret
          exact ⟨by rw [HR.out, HF.out rfl]; rfl, Below.refl _ _⟩
        | false =>
          go_wp2
          go_roundw
          case rel =>
            have hq' : afterB n t.after (j + 1) = true := by rw [HE.out, HA.out]; rfl
            first | exact ⟨j + 1, by omega, by go_num, rfl, hq'⟩ | exact ⟨j + 1, by omega, by go_num, trivial, hq'⟩
          case measure => simp [intOf] <;> omega
    · obtain rfl : j = m := by omega
      have HRA := Lib.hid (show R = restB t.nm t.retry t.time t.need t.lv t.set by rw [HR.out, HA.out]; rfl)
      clear HR HA HNO HSU
      have k1 := manIsName t.nm w hnm
      have k2 := fun W => manWithin t.time 1 100 W
      have k3 := fun W => manWithin t.need 0 4 W
      have k4 := fun W => manWithin t.retry 0 5 W
      have k5 := fun W => labelRight t.lv t.set W
      have hq0 := fun W => run_eqL0 t.lv t.set W
      have HRS := Lib.hid (show restB t.nm t.retry t.time t.need t.lv t.set = ((nameB t.nm && (withinB t.time 1 100 && (withinB t.need 0 4 && withinB t.retry 0 5))) && (if 0 < t.need then t.retry == 0 && rightLv t.lv else t.lv == 0 && t.set == 0)) from rfl)
      have HRR := Lib.hid (HRA.out.trans HRS.out)
      clear HRA HRS hnm hset
      generalize nameB t.nm = q1 at k1 HRR
      generalize withinB t.time 1 100 = q2 at k2 HRR
      generalize withinB t.need 0 4 = q3 at k3 HRR
      generalize withinB t.retry 0 5 = q4 at k4 HRR
      generalize rightLv t.lv = q5 at k5 HRR
      generalize (t.lv == 0 && t.set == 0) = q6 at hq0 HRR
      have hg : decide (0 < t.need) = decide (0 < t.need) := rfl
      have HH := Lib.hid HT.out
      have K1 := Lib.hid k1
      have K2 := Lib.hid k2
      have K3 := Lib.hid k3
      have K4 := Lib.hid k4
      have K5 := Lib.hid k5
      clear k1 k2 k3 k4 k5 hg
      go_wp2_with fail
      refine K1.out.mono ?_
      rintro e w1 ⟨rfl, hb⟩
      clear c0 c1 c2 c3 c4 c5 c6
      obtain ⟨c0, c1, c2, c3, c4, c5, c6⟩ := (HH.out.below hb).cells
      have HB := Lib.hid hb
      clear hb
      cases q1 with
      | false =>
        go_wp2
        go_ret
        exact ⟨by rw [HRR.out]; rfl, HB.out⟩
      | true =>
      go_wp2_with fail
      refine (K2.out _).mono ?_
      rintro e w2 ⟨rfl, rfl⟩
      cases q2 with
      | false =>
        go_wp2
        go_ret
        exact ⟨by rw [HRR.out]; rfl, HB.out⟩
      | true =>
      go_wp2_with fail
      refine (K3.out _).mono ?_
      rintro e w2 ⟨rfl, rfl⟩
      cases q3 with
      | false =>
        go_wp2
        go_ret
        exact ⟨by rw [HRR.out]; rfl, HB.out⟩
      | true =>
      go_wp2_with fail
      refine (K4.out _).mono ?_
      rintro e w2 ⟨rfl, rfl⟩
      cases q4 with
      | false =>
        go_wp2
        go_ret
        exact ⟨by rw [HRR.out]; rfl, HB.out⟩
      | true =>
      by_cases hnd : 0 < t.need
      · have HR2 := Lib.hid (show R = (t.retry == 0 && q5) by rw [HRR.out, if_pos hnd]; rfl)
        cases hrt : (t.retry == 0) with
        | false =>
          have HRT := Lib.hid hrt
          go_wp2
          go_ret
          exact ⟨by rw [HR2.out, HRT.out]; rfl, HB.out⟩
        | true =>
          have HRT := Lib.hid hrt
          go_wp2_with fail
          refine (K5.out _).mono ?_
          rintro e w2 ⟨rfl, hb2⟩
          have HB2 := Lib.hid (HB.out.trans (hb2.mono HB.out.size))
          clear hb2
          go_wp2
          go_ret
          exact ⟨by rw [HR2.out, HRT.out]; rfl, HB2.out⟩
      · have HR2 := Lib.hid (show R = q6 by rw [HRR.out, if_neg hnd]; rfl)
        go_wp2
        go_ret
        exact ⟨by rw [HR2.out]; rfl, HB.out⟩
end Go.Proofs.YtbbcicengfmhiaaGreatDoor

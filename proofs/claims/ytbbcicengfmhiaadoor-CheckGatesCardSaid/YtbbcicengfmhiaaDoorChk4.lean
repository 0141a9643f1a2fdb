/- check.Check. Conditions: the roster is of no more than a thousand; sizes. -/
import Derived.Test.YtbbcicengfmhiaaDoorChk3
namespace Go.Proofs.YtbbcicengfmhiaaDoor
open Go.RowKit

def gatesE (ls : List Lbl) (ps : List Psn) (part : Int) (ts : List TaskV) : Nat → Option (Int × Int)
  | 0 => none
  | k + 1 => match gatesE ls ps part ts k with
    | some x => some x
    | none => if ts[k]!.need = 0 then none else if gateE ls ps part ts[k]! = 0 then none else some ((k : Int), gateE ls ps part ts[k]!)
theorem gatesE_stay {ls : List Lbl} {ps : List Psn} {part : Int} {ts : List TaskV} {k : Nat} {x : Int × Int} (h : gatesE ls ps part ts k = some x) : ∀ m, k ≤ m → gatesE ls ps part ts m = some x := by
  intro m hm
  induction m with
  | zero => have : k = 0 := by omega
            rw [← this]; exact h
  | succ m ih =>
    by_cases e : k = m + 1
    · rw [← e]; exact h
    · unfold gatesE
      rw [ih (by omega)]
def chkE (nm : ByteArray) (ts : List TaskV) (ls : List Lbl) (ps : List Psn) (part : Int) : Option (Int × Int) :=
  if inR ls.length part = true ∧ pipeB nm ts = true then (if 0 ≤ roundP nm ts then some (roundP nm ts, 14) else gatesE ls ps part ts ts.length) else some (-1, 1)
def ErrPost (x : Option (Int × Int)) (w : World) (e : Ending) (w' : World) : Prop := ∃ v, e = .returned v ∧ ErrAt v x w' ∧ Below w.heap.size w w'

set_option maxRecDepth 100000 in
set_option maxHeartbeats 8000000 in
theorem checkCheck (v : Value) (ls : List Lbl) (ps : List Psn) (part : Int) (nm : ByteArray) (vt : Value) (ts : List TaskV) (w : World) (h : Ros w v ls ps) (hT : TasksAt w vt ts) (hok : okTs ts) (hnm : nm.size ≤ maxLen) (hbl : ls.length ≤ 1000) (hbp : ps.length ≤ 1000) (ho : okL ls) (hop : okP ps) :
    Calls Tryd.prog 14 #[.agg #[.string nm, vt], v, .int .i64 part] w (ErrPost (chkE nm ts ls ps part) w) := by
  have HH := Lib.hid h
  have HP := Lib.hid (PipeAt.mk (nm := nm) hT)
  have HB0 := Lib.hid (below1 w (.cells #[.string nm, vt] 24))
  have K1 := Lib.hid (fun W (hb : Below w.heap.size w W) => rosLabel v ls ps part W (h.below hb) hbl)
  have K2 := Lib.hid (fun W (hW : TasksAt W vt ts) => manRight nm vt ts W hW hok hnm)
  have K3 := Lib.hid (fun W (hW : TasksAt W vt ts) => orderRound nm vt ts W hW hok hnm)
  have K4 := Lib.hid (fun b off (j : Nat) (hj : j < ts.length) W (hb : Below w.heap.size w W) (hW : TaskAt W b off ts[j]!) => checkGate v ls ps part b off ts[j]! W (h.below hb) hW (hok.2 j hj) hbl hbp ho hop)
  have HX1 := Lib.hid (fun (h1 : inR ls.length part = false) => show chkE nm ts ls ps part = some (-1, 1) by unfold chkE; rw [if_neg (by rw [h1]; simp)])
  have HX2 := Lib.hid (fun (h1 : pipeB nm ts = false) => show chkE nm ts ls ps part = some (-1, 1) by unfold chkE; rw [if_neg (by rw [h1]; simp)])
  have HX3 := Lib.hid (fun (h1 : inR ls.length part = true) (h2 : pipeB nm ts = true) (h3 : 0 ≤ roundP nm ts) => show chkE nm ts ls ps part = some (roundP nm ts, 14) by unfold chkE; rw [if_pos ⟨h1, h2⟩, if_pos h3])
  have HX4 := Lib.hid (fun (h1 : inR ls.length part = true) (h2 : pipeB nm ts = true) (h3 : ¬ 0 ≤ roundP nm ts) => show chkE nm ts ls ps part = gatesE ls ps part ts ts.length by unfold chkE; rw [if_pos ⟨h1, h2⟩, if_neg h3])
  have HST := Lib.hid (fun k x (h : gatesE ls ps part ts k = some x) => gatesE_stay h)
  have HSU := Lib.hid (fun k (h : gatesE ls ps part ts k = none) => show gatesE ls ps part ts (k + 1) = if ts[k]!.need = 0 then none else if gateE ls ps part ts[k]! = 0 then none else some ((k : Int), gateE ls ps part ts[k]!) by rw [gatesE, h])
  obtain ⟨p, c, rfl, hp⟩ := hT.val
  have HPP := Lib.hid hp
  have hl := hok.1
  unfold maxLen at hl
  clear h hok hnm ho hop hbl hbp hT hp
  generalize chkE nm ts ls ps part = X at HX1 HX2 HX3 HX4 ⊢
  generalize inR ls.length part = q1 at K1 HX1 HX3 HX4
  generalize pipeB nm ts = q2 at K2 HX2 HX3 HX4
  generalize roundP nm ts = ro at K3 HX3 HX4
  generalize labAt ls part = own at K1
  obtain ⟨o1, o2⟩ := own
  generalize hn : ts.length = n at *
  have HN := Lib.hid hn
  clear hn
  go_enter Tryd.func14, Tryd.ntmps14
  go_wp2_with fail
  generalize w.alloc (.cells #[.string nm, .slice p n c] 24) = W0 at HP HB0 ⊢
  refine (K1.out W0 HB0.out).mono ?_
  rintro e w1 ⟨rfl, hb1⟩
  have hb1' := hb1.trans ((below1 w1 (.cells #[.int .i64 o1, .int .u16 (o2 : Int)] 41)).mono hb1.size)
  have HP1 := Lib.hid (HP.out.below hb1')
  have HB1 := Lib.hid (HB0.out.trans (hb1'.mono HB0.out.size))
  obtain ⟨_, c0, c1, ht1⟩ := id HP1.out
  have HT1 := Lib.hid ht1
  clear hb1 hb1' HP HB0 ht1
  cases q1 with
  | false =>
    go_wp2_with fail
    generalize w1.alloc (.cells #[.int .i64 o1, .int .u16 (o2 : Int)] 41) = W1 at HP1 HB1 c0 c1 HT1 ⊢
    refine (checkFault (-1) 1 W1).mono ?_
    rintro e w3 ⟨rfl, rfl⟩
    have HE := Lib.hid (ErrAt.mk W1 (-1) 1)
    have HB3 := Lib.hid (HB1.out.trans ((below1 W1 (.cells #[.int .i64 (-1), .iface 31 (.int .i64 1)] 177)).mono HB1.out.size))
    go_wp2
    go_ret
    exact ⟨_, rfl, by rw [HX1.out (by simp)]; exact HE.out, HB3.out⟩
  | true =>
  go_wp2_with fail
  generalize w1.alloc (.cells #[.int .i64 o1, .int .u16 (o2 : Int)] 41) = W1 at HP1 HB1 c0 c1 HT1 ⊢
  refine (K2.out W1 HT1.out).mono ?_
  rintro e w3 ⟨rfl, hb3⟩
  have HP3 := Lib.hid (HP1.out.below hb3)
  have HB3 := Lib.hid (HB1.out.trans (hb3.mono HB1.out.size))
  clear hb3 HP1 HB1 c0 c1 HT1
  obtain ⟨_, c0, c1, ht3⟩ := id HP3.out
  have HT3 := Lib.hid ht3
  clear ht3
  cases q2 with
  | false =>
    go_wp2_with fail
    refine (checkFault (-1) 1 w3).mono ?_
    rintro e w4 ⟨rfl, rfl⟩
    have HE := Lib.hid (ErrAt.mk w3 (-1) 1)
    have HB4 := Lib.hid (HB3.out.trans ((below1 w3 (.cells #[.int .i64 (-1), .iface 31 (.int .i64 1)] 177)).mono HB3.out.size))
    go_wp2
    go_ret
    exact ⟨_, rfl, by rw [HX2.out (by simp)]; exact HE.out, HB4.out⟩
  | true =>
  go_wp2_with fail
  refine (K3.out w3 HT3.out).mono ?_
  rintro e w4 ⟨rfl, hb4⟩
  have HP4 := Lib.hid (HP3.out.below hb4)
  have HB4 := Lib.hid (HB3.out.trans (hb4.mono HB3.out.size))
  clear hb4 HP3 HB3 c0 c1 HT3
  obtain ⟨_, c0, c1, ht4⟩ := id HP4.out
  clear ht4
  by_cases hro : 0 ≤ ro
  · have HXX := Lib.hid (HX3.out (by simp) (by simp) hro)
    go_wp2_with fail
    refine (checkFault ro 14 w4).mono ?_
    rintro e w5 ⟨rfl, rfl⟩
    have HE := Lib.hid (ErrAt.mk w4 ro 14)
    have HB5 := Lib.hid (HB4.out.trans ((below1 w4 (.cells #[.int .i64 ro, .iface 31 (.int .i64 14)] 177)).mono HB4.out.size))
    go_wp2
    go_ret
    exact ⟨_, rfl, by rw [HXX.out]; exact HE.out, HB5.out⟩
  · have HXX := Lib.hid (HX4.out (by simp) (by simp) (by omega))
    clear HX1 HX2 HX3 HX4 K1 K2 K3
    go_wp2_with fail
    clear c0 c1
    go_loopw [36] (fun t wr => ∃ j : Nat, j ≤ n ∧ t = .int .i64 j ∧ Below w.heap.size w wr ∧ PipeAt wr w.heap.size nm (.slice p n c) ts ∧ gatesE ls ps part ts j = none) (fun t _ => n - (intOf t).toNat)
    case atStart => exact ⟨0, by omega, rfl, HB4.out, HP4.out, rfl⟩
    case round =>
      obtain ⟨j, hj, rfl, hb, hp, hall⟩ := hrel
      have HB := Lib.hid hb
      have HP := Lib.hid hp
      have HA := Lib.hid hall
      clear hb hp hall
      obtain ⟨_, c0, c1, hts⟩ := id HP.out
      by_cases hlt : j < n
      · have hltz : (j : Int) < (n : Int) := by omega
        obtain ⟨b, off, rfl⟩ := HPP.out (by omega)
        have HTK := Lib.hid (hts.at (j := j) (by have := HN.out; omega))
        have HSUj := Lib.hid (HSU.out j HA.out)
        have K4j := Lib.hid (K4.out b (off + j * 7) j (by omega) wr HB.out HTK.out)
        obtain ⟨d0, d1, d2, d3, d4, d5, d6⟩ := HTK.out.cells
        clear hts d0 d1 d2 d3 d5 d6
        generalize gateE ls ps part ts[j]! = g at HSUj K4j
        generalize ts[j]!.need = nd at d4 HSUj
        by_cases hnd : nd = 0
        · subst hnd
          have hg' : gatesE ls ps part ts (j + 1) = none := by rw [HSUj.out, if_pos rfl]
          have HG := Lib.hid hg'
          clear hg'
          go_wp2
          go_roundw
          case rel => first | exact ⟨j + 1, by omega, by go_num, HB.out, HP.out, HG.out⟩ | ((repeat apply Exists.intro); exact ⟨⟨j + 1, by omega, by go_num, HB.out, HP.out, HG.out⟩, rfl⟩)
          case measure => simp [intOf] <;> omega
        · have hnb : (nd == 0) = false := by simpa using hnd
          go_wp2_with fail
          refine K4j.out.mono ?_
          rintro e w5 ⟨rfl, hb5⟩
          have HB5 := Lib.hid (HB.out.trans (hb5.mono HB.out.size))
          have HP5 := Lib.hid (HP.out.below hb5)
          clear hb5 c0 c1 d4
          by_cases hg : g = 0
          · subst hg
            have hg' : gatesE ls ps part ts (j + 1) = none := by rw [HSUj.out, if_neg hnd, if_pos rfl]
            have HG := Lib.hid hg'
            clear hg'
            go_wp2
            go_roundw
            case rel => first | exact ⟨j + 1, by omega, by go_num, HB5.out, HP5.out, HG.out⟩ | ((repeat apply Exists.intro); exact ⟨⟨j + 1, by omega, by go_num, HB5.out, HP5.out, HG.out⟩, rfl⟩)
            case measure => simp [intOf] <;> omega
          · have hgb : (g != 0) = true := by simpa using hg
            have hgb2 : (g == 0) = false := by simpa using hg
            have HG := Lib.hid (HXX.out.trans (HST.out (j + 1) ((j : Int), g) (by rw [HSUj.out, if_neg hnd, if_neg hg]) n (by omega)))
            go_wp2_with fail
            refine (checkFault j g w5).mono ?_
            rintro e w6 ⟨rfl, rfl⟩
            have HE := Lib.hid (ErrAt.mk w5 j g)
            have HB6 := Lib.hid (HB5.out.trans ((below1 w5 (.cells #[.int .i64 j, .iface 31 (.int .i64 g)] 177)).mono HB5.out.size))
            go_wp2
            go_ret
            exact ⟨_, rfl, by rw [HG.out]; exact HE.out, HB6.out⟩
      · obtain rfl : j = n := by omega
        have HG := Lib.hid (HXX.out.trans HA.out)
        go_wp2
        go_ret
        exact ⟨_, rfl, by rw [HG.out]; rfl, HB.out⟩
end Go.Proofs.YtbbcicengfmhiaaDoor

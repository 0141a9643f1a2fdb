/- check.gate. Conditions: the roster is of no more than a thousand. -/
import Derived.Test.YtbbcicengfmhiaaDoorChk2
import Derived.Test.YtbbcicengfmhiaaDoorRou
import Derived.Test.YtbbcicengfmhiaaDoorTk
namespace Go.Proofs.YtbbcicengfmhiaaDoor
open Go.RowKit

def findL (ls : List Lbl) (a : Int) (x : Nat) : Int := idxI (fun y => a == y.1 && x == y.2) ls
def gateE (ls : List Lbl) (ps : List Psn) (part : Int) (t : TaskV) : Int :=
  if t.after.length ≠ 1 then 3 else if findL ls t.lv t.set < 0 ∨ leqB (labAt ls part).1 (labAt ls part).2 t.lv t.set = true then 9 else if ((votL ls ps part t.lv t.set ps.length).length : Int) < t.need then 12 else 0
theorem checkFault (i e : Int) (w : World) : Calls Tryd.prog 70 #[.int .i64 i, .int .i64 e] w fun en w' => en = .returned (.iface 175 (.pointer (some ⟨w.heap.size, 0, none⟩))) ∧ w' = w.alloc (.cells #[.int .i64 i, .iface 31 (.int .i64 e)] 177) := by
  go_enter Tryd.func70, Tryd.ntmps70
  go_wp2
  go_ret
  exact ⟨rfl, rfl⟩
set_option maxRecDepth 100000 in
set_option maxHeartbeats 8000000 in
theorem checkGate (v : Value) (ls : List Lbl) (ps : List Psn) (part : Int) (b off : Nat) (t : TaskV) (w : World) (h : Ros w v ls ps) (hT : TaskAt w b off t) (hok : t.ok) (hbl : ls.length ≤ 1000) (hbp : ps.length ≤ 1000) (ho : okL ls) (hop : okP ps) :
    Calls Tryd.prog 72 #[.pointer (some ⟨b, off, none⟩), v, .int .i64 part] w fun e w' => e = .returned (.int .i64 (gateE ls ps part t)) ∧ Below w.heap.size w w' := by
  have k1 := rosLabel v ls ps part w h hbl
  have K2 := Lib.hid (fun W (hb : Below w.heap.size w W) => rosFind v ls ps t.lv t.set W (h.below hb) hbl)
  have K3 := Lib.hid (fun W (hb : Below w.heap.size w W) => checkVoters v ls ps part t.lv t.set W (h.below hb) hbl hbp ho hop hok.1)
  have K4 := Lib.hid (fun W => labelLeq (labAt ls part).1 t.lv (labAt ls part).2 t.set (labAt_ok ho part) hok.1 W)
  have hR : gateE ls ps part t = if t.after.length ≠ 1 then 3 else if findL ls t.lv t.set < 0 ∨ leqB (labAt ls part).1 (labAt ls part).2 t.lv t.set = true then 9 else if ((votL ls ps part t.lv t.set ps.length).length : Int) < t.need then 12 else 0 := rfl
  have HR := Lib.hid hR
  have HT := Lib.hid hT
  obtain ⟨p, c, hv, _⟩ := hT.2.2
  have HV := Lib.hid hv
  have hal := hok.2.2.1
  unfold maxLen at hal
  have hvl := votL_len ls ps part t.lv t.set ps.length
  have hvl2 : (votL ls ps part t.lv t.set ps.length).length ≤ 1000 := by omega
  clear hR h hT hok ho hop hbl hbp hv hvl
  generalize gateE ls ps part t = R at HR ⊢
  change Hid (∀ W, Below w.heap.size w W → Calls Tryd.prog 73 #[v, (.agg #[.int .i64 (t.lv), .int .u16 ((t.set : Nat) : Int)])] W fun e w' => e = .returned (.int .i64 (findL ls t.lv t.set)) ∧ Below W.heap.size W w') at K2
  generalize findL ls t.lv t.set = fi at K2 HR
  generalize leqB (labAt ls part).1 (labAt ls part).2 t.lv t.set = q at K4 HR
  generalize votL ls ps part t.lv t.set ps.length = vs at K3 HR hvl2
  generalize labAt ls part = own at k1 K4
  obtain ⟨o1, o2⟩ := own
  generalize inR ls.length part = oi at k1
  dsimp only at k1 K4
  have K1 := Lib.hid k1
  clear k1
  generalize hm : t.after.length = m at HR hal HV
  clear hm
  go_enter Tryd.func72, Tryd.ntmps72
  go_wp2_with fail
  refine K1.out.mono ?_
  rintro e w1 ⟨rfl, hb1⟩
  have HB1 := Lib.hid hb1
  clear hb1
  have HBW := Lib.hid (HB1.out.alloc HB1.out.size (.cells #[.int .i64 o1, .int .u16 (o2 : Int)] 41))
  have g2 : (w1.alloc (.cells #[.int .i64 o1, .int .u16 (o2 : Int)] 41)).cell? ⟨w1.heap.size, 0, none⟩ = some (.int .i64 o1) := by go_simp
  have g3 : (w1.alloc (.cells #[.int .i64 o1, .int .u16 (o2 : Int)] 41)).cell? ⟨w1.heap.size, 1, none⟩ = some (.int .u16 (o2 : Int)) := by go_simp
  have hzW : w1.heap.size < (w1.alloc (.cells #[.int .i64 o1, .int .u16 (o2 : Int)] 41)).heap.size := by simp
  have hTW := HT.out.below HBW.out
  have hbW := hTW.1
  obtain ⟨c0, c1, c2, c3, c4, c5, c6⟩ := hTW.cells
  rw [HV.out] at c1
  clear hTW c0 c2 c3
  have K2W := Lib.hid (fun (W' : World) (hW' : (∀ b o, b < (w1.alloc (.cells #[.int .i64 o1, .int .u16 (o2 : Int)] 41)).heap.size → W'.cell? ⟨b, o, none⟩ = (w1.alloc (.cells #[.int .i64 o1, .int .u16 (o2 : Int)] 41)).cell? ⟨b, o, none⟩) ∧ Below (w1.alloc (.cells #[.int .i64 o1, .int .u16 (o2 : Int)] 41)).heap.size (w1.alloc (.cells #[.int .i64 o1, .int .u16 (o2 : Int)] 41)) W') => K2.out W' (HBW.out.trans (hW'.2.mono HBW.out.size)))
  have K3W := Lib.hid (fun (W' : World) (hW' : (∀ b o, b < (w1.alloc (.cells #[.int .i64 o1, .int .u16 (o2 : Int)] 41)).heap.size → W'.cell? ⟨b, o, none⟩ = (w1.alloc (.cells #[.int .i64 o1, .int .u16 (o2 : Int)] 41)).cell? ⟨b, o, none⟩) ∧ Below (w1.alloc (.cells #[.int .i64 o1, .int .u16 (o2 : Int)] 41)).heap.size (w1.alloc (.cells #[.int .i64 o1, .int .u16 (o2 : Int)] 41)) W') => K3.out W' (HBW.out.trans (hW'.2.mono HBW.out.size)))
  by_cases hm1 : m = 1
  · subst hm1
    have HR1 := Lib.hid (show R = if fi < 0 ∨ q = true then 9 else if (vs.length : Int) < t.need then 12 else 0 by rw [HR.out]; rfl)
    clear HR
    go_wp2_with fail
    generalize w1.alloc (.cells #[.int .i64 o1, .int .u16 (o2 : Int)] 41) = W at HBW g2 g3 hzW hbW c1 c4 c5 c6 K2W K3W ⊢
    by_cases hfi : fi < 0
    · have hd : decide (fi < 0) = true := by simpa using hfi
      have HR2 := Lib.hid (show R = 9 by rw [HR1.out, if_pos (.inl hfi)])
      clear HR1
      refine wp_region_held_drew (S := (fun w' => (∀ b o, b < (W).heap.size → w'.cell? ⟨b, o, none⟩ = (W).cell? ⟨b, o, none⟩) ∧ Below (W).heap.size (W) w')) (by kernel_rfl) (stay0 _) (fun hHeld => ?_)
      try dsimp only [List.size_toArray, List.length_cons, List.length_nil]
      refine takeL (i := 0) rfl (v := ?v0) (by kernel_rfl) (by kernel_rfl) (by kernel_rfl) (fun _ _ _ h => h) (Or.inl ⟨by rfl, fun _w _hSw => ?hy0⟩) (by assumption) ?rest0
      case hy0 =>
        (try dsimp only at _hSw)
        go_simp
        try with_reducible rfl
      try simp only [Act.put, List.setIfInBounds_toArray, List.set_cons_zero, List.set_cons_succ]
      refine takeL (i := 1) rfl (v := ?v1) (by kernel_rfl) (by kernel_rfl) (by kernel_rfl) (fun _ _ _ h => h) (Or.inl ⟨by rfl, fun _w _hSw => ?hy1⟩) (by assumption) ?rest1
      case hy1 =>
        (try dsimp only at _hSw)
        go_simp
        try with_reducible rfl
      try simp only [Act.put, List.setIfInBounds_toArray, List.set_cons_zero, List.set_cons_succ]
      refine takeL (i := 2) rfl (v := ?v2) (by kernel_rfl) (by kernel_rfl) (by kernel_rfl) (fun _ _ _ h => h) (Or.inl ⟨by rfl, fun _w _hSw => ?hy2⟩) (by assumption) ?rest2
      case hy2 =>
        (try dsimp only at _hSw)
        go_simp
        try with_reducible rfl
      try simp only [Act.put, List.setIfInBounds_toArray, List.set_cons_zero, List.set_cons_succ]
      refine takeL (i := 3) rfl (v := ?v3) (by kernel_rfl) (by kernel_rfl) (by kernel_rfl) (fun _ _ _ h => h) (Or.inl ⟨by rfl, fun _w _hSw => ?hy3⟩) (by assumption) ?rest3
      case hy3 =>
        (try dsimp only at _hSw)
        go_simp
        try with_reducible rfl
      try simp only [Act.put, List.setIfInBounds_toArray, List.set_cons_zero, List.set_cons_succ]
      refine takeL (i := 4) rfl (v := ?v4) (by kernel_rfl) (by kernel_rfl) (by kernel_rfl) (fun _ _ _ h => h) (Or.inl ⟨by rfl, fun _w _hSw => ?hy4⟩) (by assumption) ?rest4
      case hy4 =>
        (try dsimp only at _hSw)
        go_simp
        try with_reducible rfl
      try simp only [Act.put, List.setIfInBounds_toArray, List.set_cons_zero, List.set_cons_succ]
      refine wpAnyH_ready (rs := [5]) (by kernel_rfl) (by simp) (readyL rfl (fun K hK => ?_) AllReadyH.nil)
      go_simp
      with_reducible refine (K2W.out _ ‹_›).mono ?_
      rintro e w' ⟨rfl, hb⟩
      try dsimp only
      refine hK.out _ _ (stay ‹_› ‹_›) (fun hHeld => ?_)
      clear hK K
      try simp only [Act.put, List.setIfInBounds_toArray, List.set_cons_zero, List.set_cons_succ]
      refine takeL (i := 6) rfl (v := ?v6) (by kernel_rfl) (by kernel_rfl) (by kernel_rfl) (fun _ _ _ h => h) (Or.inl ⟨by rfl, fun _w _hSw => ?hy6⟩) (by assumption) ?rest6
      case hy6 =>
        (try dsimp only at _hSw)
        go_simp
        try with_reducible rfl
      try simp only [Act.put, List.setIfInBounds_toArray, List.set_cons_zero, List.set_cons_succ]
      refine takeL (i := 7) rfl (v := ?v7) (by kernel_rfl) (by kernel_rfl) (by kernel_rfl) (fun _ _ _ h => h) (Or.inl ⟨by rfl, fun _w _hSw => ?hy7⟩) (by assumption) ?rest7
      case hy7 =>
        (try dsimp only at _hSw)
        go_simp
        try with_reducible rfl
      try simp only [Act.put, List.setIfInBounds_toArray, List.set_cons_zero, List.set_cons_succ]
      refine takeL (i := 8) rfl (v := undef) (by kernel_rfl) (by kernel_rfl) (by kernel_rfl) (fun _ _ _ h => h) (Or.inr ⟨by rfl, rfl⟩) (by assumption) ?_
      try simp only [Act.put, List.setIfInBounds_toArray, List.set_cons_zero, List.set_cons_succ]
      refine takeL (i := 9) rfl (v := undef) (by kernel_rfl) (by kernel_rfl) (by kernel_rfl) (fun _ _ _ h => h) (Or.inr ⟨by rfl, rfl⟩) (by assumption) ?_
      try simp only [Act.put, List.setIfInBounds_toArray, List.set_cons_zero, List.set_cons_succ]
      refine takeL (i := 10) rfl (v := undef) (by kernel_rfl) (by kernel_rfl) (by kernel_rfl) (fun _ _ _ h => h) (Or.inr ⟨by rfl, rfl⟩) (by assumption) ?_
      try simp only [Act.put, List.setIfInBounds_toArray, List.set_cons_zero, List.set_cons_succ]
      refine takeL (i := 11) rfl (v := undef) (by kernel_rfl) (by kernel_rfl) (by kernel_rfl) (fun _ _ _ h => h) (Or.inr ⟨by rfl, rfl⟩) (by assumption) ?_
      try simp only [Act.put, List.setIfInBounds_toArray, List.set_cons_zero, List.set_cons_succ]
      refine takeL (i := 12) rfl (v := undef) (by kernel_rfl) (by kernel_rfl) (by kernel_rfl) (fun _ _ _ h => h) (Or.inr ⟨by rfl, rfl⟩) (by assumption) ?_
      try simp only [Act.put, List.setIfInBounds_toArray, List.set_cons_zero, List.set_cons_succ]
      refine takeL (i := 13) rfl (v := undef) (by kernel_rfl) (by kernel_rfl) (by kernel_rfl) (fun _ _ _ h => h) (Or.inr ⟨by rfl, rfl⟩) (by assumption) ?_
      try simp only [Act.put, List.setIfInBounds_toArray, List.set_cons_zero, List.set_cons_succ]
      refine takeL (i := 14) rfl (v := ?v14) (by kernel_rfl) (by kernel_rfl) (by kernel_rfl) (fun _ _ _ h => h) (Or.inl ⟨by rfl, fun _w _hSw => ?hy14⟩) (by assumption) ?rest14
      case hy14 =>
        (try dsimp only at _hSw)
        go_simp
        try with_reducible rfl
      try simp only [Act.put, List.setIfInBounds_toArray, List.set_cons_zero, List.set_cons_succ]
      refine takeL (i := 15) rfl (v := ?v15) (by kernel_rfl) (by kernel_rfl) (by kernel_rfl) (fun _ _ _ h => h) (Or.inl ⟨by rfl, fun _w _hSw => ?hy15⟩) (by assumption) ?rest15
      case hy15 =>
        (try dsimp only at _hSw)
        go_simp
        try with_reducible rfl
      try simp only [Act.put, List.setIfInBounds_toArray, List.set_cons_zero, List.set_cons_succ]
      refine wpAnyH_done (by kernel_rfl) ?_ _
      go_wp2
      go_ret
      exact ⟨by rw [HR2.out]; rfl, stayEnd HBW.out HBW.out.size ‹_›⟩
    · have hd : decide (fi < 0) = false := by simpa using hfi
      have HR2 := Lib.hid (show R = if q = true then 9 else if (vs.length : Int) < t.need then 12 else 0 by rw [HR1.out]; simp [hfi])
      clear HR1
      refine wp_region_held_drew (S := (fun w' => (∀ b o, b < (W).heap.size → w'.cell? ⟨b, o, none⟩ = (W).cell? ⟨b, o, none⟩) ∧ Below (W).heap.size (W) w')) (by kernel_rfl) (stay0 _) (fun hHeld => ?_)
      try dsimp only [List.size_toArray, List.length_cons, List.length_nil]
      refine takeL (i := 0) rfl (v := ?v0x2) (by kernel_rfl) (by kernel_rfl) (by kernel_rfl) (fun _ _ _ h => h) (Or.inl ⟨by rfl, fun _w _hSw => ?hy0x2⟩) (by assumption) ?rest0x2
      case hy0x2 =>
        (try dsimp only at _hSw)
        go_simp
        try with_reducible rfl
      try simp only [Act.put, List.setIfInBounds_toArray, List.set_cons_zero, List.set_cons_succ]
      refine takeL (i := 1) rfl (v := ?v1x2) (by kernel_rfl) (by kernel_rfl) (by kernel_rfl) (fun _ _ _ h => h) (Or.inl ⟨by rfl, fun _w _hSw => ?hy1x2⟩) (by assumption) ?rest1x2
      case hy1x2 =>
        (try dsimp only at _hSw)
        go_simp
        try with_reducible rfl
      try simp only [Act.put, List.setIfInBounds_toArray, List.set_cons_zero, List.set_cons_succ]
      refine takeL (i := 2) rfl (v := ?v2x2) (by kernel_rfl) (by kernel_rfl) (by kernel_rfl) (fun _ _ _ h => h) (Or.inl ⟨by rfl, fun _w _hSw => ?hy2x2⟩) (by assumption) ?rest2x2
      case hy2x2 =>
        (try dsimp only at _hSw)
        go_simp
        try with_reducible rfl
      try simp only [Act.put, List.setIfInBounds_toArray, List.set_cons_zero, List.set_cons_succ]
      refine takeL (i := 3) rfl (v := ?v3x2) (by kernel_rfl) (by kernel_rfl) (by kernel_rfl) (fun _ _ _ h => h) (Or.inl ⟨by rfl, fun _w _hSw => ?hy3x2⟩) (by assumption) ?rest3x2
      case hy3x2 =>
        (try dsimp only at _hSw)
        go_simp
        try with_reducible rfl
      try simp only [Act.put, List.setIfInBounds_toArray, List.set_cons_zero, List.set_cons_succ]
      refine takeL (i := 4) rfl (v := ?v4x2) (by kernel_rfl) (by kernel_rfl) (by kernel_rfl) (fun _ _ _ h => h) (Or.inl ⟨by rfl, fun _w _hSw => ?hy4x2⟩) (by assumption) ?rest4x2
      case hy4x2 =>
        (try dsimp only at _hSw)
        go_simp
        try with_reducible rfl
      try simp only [Act.put, List.setIfInBounds_toArray, List.set_cons_zero, List.set_cons_succ]
      refine wpAnyH_ready (rs := [5]) (by kernel_rfl) (by simp) (readyL rfl (fun K hK => ?_) AllReadyH.nil)
      go_simp
      with_reducible refine (K2W.out _ ‹_›).mono ?_
      rintro e w' ⟨rfl, hb⟩
      try dsimp only
      refine hK.out _ _ (stay ‹_› ‹_›) (fun hHeld => ?_)
      clear hK K
      try simp only [Act.put, List.setIfInBounds_toArray, List.set_cons_zero, List.set_cons_succ]
      refine takeL (i := 6) rfl (v := ?v6x2) (by kernel_rfl) (by kernel_rfl) (by kernel_rfl) (fun _ _ _ h => h) (Or.inl ⟨by rfl, fun _w _hSw => ?hy6x2⟩) (by assumption) ?rest6x2
      case hy6x2 =>
        (try dsimp only at _hSw)
        go_simp
        try with_reducible rfl
      try simp only [Act.put, List.setIfInBounds_toArray, List.set_cons_zero, List.set_cons_succ]
      refine takeL (i := 7) rfl (v := ?v7x2) (by kernel_rfl) (by kernel_rfl) (by kernel_rfl) (fun _ _ _ h => h) (Or.inl ⟨by rfl, fun _w _hSw => ?hy7x2⟩) (by assumption) ?rest7x2
      case hy7x2 =>
        (try dsimp only at _hSw)
        go_simp
        try with_reducible rfl
      try simp only [Act.put, List.setIfInBounds_toArray, List.set_cons_zero, List.set_cons_succ]
      refine takeL (i := 8) rfl (v := ?v8x2) (by kernel_rfl) (by kernel_rfl) (by kernel_rfl) (fun _ _ _ h => h) (Or.inl ⟨by rfl, fun _w _hSw => ?hy8x2⟩) (by assumption) ?rest8x2
      case hy8x2 =>
        (try dsimp only at _hSw)
        go_simp
        try with_reducible rfl
      try simp only [Act.put, List.setIfInBounds_toArray, List.set_cons_zero, List.set_cons_succ]
      refine takeL (i := 9) rfl (v := ?v9x2) (by kernel_rfl) (by kernel_rfl) (by kernel_rfl) (fun _ _ _ h => h) (Or.inl ⟨by rfl, fun _w _hSw => ?hy9x2⟩) (by assumption) ?rest9x2
      case hy9x2 =>
        (try dsimp only at _hSw)
        go_simp
        try with_reducible rfl
      try simp only [Act.put, List.setIfInBounds_toArray, List.set_cons_zero, List.set_cons_succ]
      refine takeL (i := 10) rfl (v := ?v10x2) (by kernel_rfl) (by kernel_rfl) (by kernel_rfl) (fun _ _ _ h => h) (Or.inl ⟨by rfl, fun _w _hSw => ?hy10x2⟩) (by assumption) ?rest10x2
      case hy10x2 =>
        (try dsimp only at _hSw)
        go_simp
        try with_reducible rfl
      try simp only [Act.put, List.setIfInBounds_toArray, List.set_cons_zero, List.set_cons_succ]
      refine takeL (i := 11) rfl (v := ?v11x2) (by kernel_rfl) (by kernel_rfl) (by kernel_rfl) (fun _ _ _ h => h) (Or.inl ⟨by rfl, fun _w _hSw => ?hy11x2⟩) (by assumption) ?rest11x2
      case hy11x2 =>
        (try dsimp only at _hSw)
        go_simp
        try with_reducible rfl
      try simp only [Act.put, List.setIfInBounds_toArray, List.set_cons_zero, List.set_cons_succ]
      refine takeL (i := 12) rfl (v := ?v12x2) (by kernel_rfl) (by kernel_rfl) (by kernel_rfl) (fun _ _ _ h => h) (Or.inl ⟨by rfl, fun _w _hSw => ?hy12x2⟩) (by assumption) ?rest12x2
      case hy12x2 =>
        (try dsimp only at _hSw)
        go_simp
        try with_reducible rfl
      try simp only [Act.put, List.setIfInBounds_toArray, List.set_cons_zero, List.set_cons_succ]
      refine wpAnyH_ready (rs := [13]) (by kernel_rfl) (by simp) (readyL rfl (fun K hK => ?_) AllReadyH.nil)
      go_simp
      with_reducible refine (K4.out _).mono ?_
      rintro e w' ⟨rfl, hb⟩
      try dsimp only
      refine hK.out _ _ (stay ‹_› ‹_›) (fun hHeld => ?_)
      clear hK K
      try simp only [Act.put, List.setIfInBounds_toArray, List.set_cons_zero, List.set_cons_succ]
      refine takeL (i := 14) rfl (v := ?v14x2) (by kernel_rfl) (by kernel_rfl) (by kernel_rfl) (fun _ _ _ h => h) (Or.inl ⟨by rfl, fun _w _hSw => ?hy14x2⟩) (by assumption) ?rest14x2
      case hy14x2 =>
        (try dsimp only at _hSw)
        go_simp
        try with_reducible rfl
      try simp only [Act.put, List.setIfInBounds_toArray, List.set_cons_zero, List.set_cons_succ]
      refine takeL (i := 15) rfl (v := ?v15x2) (by kernel_rfl) (by kernel_rfl) (by kernel_rfl) (fun _ _ _ h => h) (Or.inl ⟨by rfl, fun _w _hSw => ?hy15x2⟩) (by assumption) ?rest15x2
      case hy15x2 =>
        (try dsimp only at _hSw)
        go_simp
        try with_reducible rfl
      try simp only [Act.put, List.setIfInBounds_toArray, List.set_cons_zero, List.set_cons_succ]
      refine wpAnyH_done (by kernel_rfl) ?_ _
      have HBW2 := Lib.hid (HBW.out.trans (hHeld.2.mono HBW.out.size))
      clear c1 c4 c5 c6 g2 g3 hbW hzW hb hHeld
      generalize w' = W2 at *
      cases q with
      | true =>
        go_wp2
        go_ret
        exact ⟨by rw [HR2.out]; rfl, HBW2.out⟩
      | false =>
      have HR3 := Lib.hid (show R = if (vs.length : Int) < t.need then 12 else 0 by rw [HR2.out]; rfl)
      clear K2W K3W HR2
      have hTW := HT.out.below HBW2.out
      have hbW := hTW.1
      obtain ⟨c0, c1, c2, c3, c4, c5, c6⟩ := hTW.cells
      rw [HV.out] at c1
      clear hTW c0 c2 c3
      have K3W := Lib.hid (fun (W' : World) (hW' : (∀ b o, b < W2.heap.size → W'.cell? ⟨b, o, none⟩ = W2.cell? ⟨b, o, none⟩) ∧ Below W2.heap.size W2 W') => K3.out W' (HBW2.out.trans (hW'.2.mono HBW2.out.size)))
      go_wp2_with fail
      refine wp_region_held_drew (S := (fun w' => (∀ b o, b < (W2).heap.size → w'.cell? ⟨b, o, none⟩ = (W2).cell? ⟨b, o, none⟩) ∧ Below (W2).heap.size (W2) w')) (by kernel_rfl) (stay0 _) (fun hHeld => ?_)
      try dsimp only [List.size_toArray, List.length_cons, List.length_nil]
      refine takeL (i := 0) rfl (v := ?v0x3) (by kernel_rfl) (by kernel_rfl) (by kernel_rfl) (fun _ _ _ h => h) (Or.inl ⟨by rfl, fun _w _hSw => ?hy0x3⟩) (by assumption) ?rest0x3
      case hy0x3 =>
        (try dsimp only at _hSw)
        go_simp
        try with_reducible rfl
      try simp only [Act.put, List.setIfInBounds_toArray, List.set_cons_zero, List.set_cons_succ]
      refine takeL (i := 1) rfl (v := ?v1x3) (by kernel_rfl) (by kernel_rfl) (by kernel_rfl) (fun _ _ _ h => h) (Or.inl ⟨by rfl, fun _w _hSw => ?hy1x3⟩) (by assumption) ?rest1x3
      case hy1x3 =>
        (try dsimp only at _hSw)
        go_simp
        try with_reducible rfl
      try simp only [Act.put, List.setIfInBounds_toArray, List.set_cons_zero, List.set_cons_succ]
      refine takeL (i := 2) rfl (v := ?v2x3) (by kernel_rfl) (by kernel_rfl) (by kernel_rfl) (fun _ _ _ h => h) (Or.inl ⟨by rfl, fun _w _hSw => ?hy2x3⟩) (by assumption) ?rest2x3
      case hy2x3 =>
        (try dsimp only at _hSw)
        go_simp
        try with_reducible rfl
      try simp only [Act.put, List.setIfInBounds_toArray, List.set_cons_zero, List.set_cons_succ]
      refine takeL (i := 3) rfl (v := ?v3x3) (by kernel_rfl) (by kernel_rfl) (by kernel_rfl) (fun _ _ _ h => h) (Or.inl ⟨by rfl, fun _w _hSw => ?hy3x3⟩) (by assumption) ?rest3x3
      case hy3x3 =>
        (try dsimp only at _hSw)
        go_simp
        try with_reducible rfl
      try simp only [Act.put, List.setIfInBounds_toArray, List.set_cons_zero, List.set_cons_succ]
      refine takeL (i := 4) rfl (v := ?v4x3) (by kernel_rfl) (by kernel_rfl) (by kernel_rfl) (fun _ _ _ h => h) (Or.inl ⟨by rfl, fun _w _hSw => ?hy4x3⟩) (by assumption) ?rest4x3
      case hy4x3 =>
        (try dsimp only at _hSw)
        go_simp
        try with_reducible rfl
      try simp only [Act.put, List.setIfInBounds_toArray, List.set_cons_zero, List.set_cons_succ]
      refine takeL (i := 5) rfl (v := ?v5x3) (by kernel_rfl) (by kernel_rfl) (by kernel_rfl) (fun _ _ _ h => h) (Or.inl ⟨by rfl, fun _w _hSw => ?hy5x3⟩) (by assumption) ?rest5x3
      case hy5x3 =>
        (try dsimp only at _hSw)
        go_simp
        try with_reducible rfl
      try simp only [Act.put, List.setIfInBounds_toArray, List.set_cons_zero, List.set_cons_succ]
      refine takeL (i := 8) rfl (v := ?v8x3) (by kernel_rfl) (by kernel_rfl) (by kernel_rfl) (fun _ _ _ h => h) (Or.inl ⟨by rfl, fun _w _hSw => ?hy8x3⟩) (by assumption) ?rest8x3
      case hy8x3 =>
        (try dsimp only at _hSw)
        go_simp
        try with_reducible rfl
      try simp only [Act.put, List.setIfInBounds_toArray, List.set_cons_zero, List.set_cons_succ]
      refine takeL (i := 9) rfl (v := ?v9x3) (by kernel_rfl) (by kernel_rfl) (by kernel_rfl) (fun _ _ _ h => h) (Or.inl ⟨by rfl, fun _w _hSw => ?hy9x3⟩) (by assumption) ?rest9x3
      case hy9x3 =>
        (try dsimp only at _hSw)
        go_simp
        try with_reducible rfl
      try simp only [Act.put, List.setIfInBounds_toArray, List.set_cons_zero, List.set_cons_succ]
      refine takeL (i := 10) rfl (v := ?v10x3) (by kernel_rfl) (by kernel_rfl) (by kernel_rfl) (fun _ _ _ h => h) (Or.inl ⟨by rfl, fun _w _hSw => ?hy10x3⟩) (by assumption) ?rest10x3
      case hy10x3 =>
        (try dsimp only at _hSw)
        go_simp
        try with_reducible rfl
      try simp only [Act.put, List.setIfInBounds_toArray, List.set_cons_zero, List.set_cons_succ]
      refine takeL (i := 11) rfl (v := ?v11x3) (by kernel_rfl) (by kernel_rfl) (by kernel_rfl) (fun _ _ _ h => h) (Or.inl ⟨by rfl, fun _w _hSw => ?hy11x3⟩) (by assumption) ?rest11x3
      case hy11x3 =>
        (try dsimp only at _hSw)
        go_simp
        try with_reducible rfl
      try simp only [Act.put, List.setIfInBounds_toArray, List.set_cons_zero, List.set_cons_succ]
      refine wpAnyH_ready (rs := [6]) (by kernel_rfl) (by simp) (readyL rfl (fun K hK => ?_) AllReadyH.nil)
      go_simp
      with_reducible refine (K3W.out _ ‹_›).mono ?_
      rintro e w' ⟨v', rfl, hs, hb⟩
      obtain ⟨pv, cv, rfl, _⟩ := id hs
      try dsimp only
      refine hK.out _ _ (stay ‹_› ‹_›) (fun hHeld => ?_)
      clear hK K
      try simp only [Act.put, List.setIfInBounds_toArray, List.set_cons_zero, List.set_cons_succ]
      refine takeL (i := 7) rfl (v := ?v7x3) (by kernel_rfl) (by kernel_rfl) (by kernel_rfl) (fun _ _ _ h => h) (Or.inl ⟨by rfl, fun _w _hSw => ?hy7x3⟩) (by assumption) ?rest7x3
      case hy7x3 =>
        (try dsimp only at _hSw)
        go_simp
        try with_reducible rfl
      try simp only [Act.put, List.setIfInBounds_toArray, List.set_cons_zero, List.set_cons_succ]
      refine takeL (i := 12) rfl (v := ?v12x3) (by kernel_rfl) (by kernel_rfl) (by kernel_rfl) (fun _ _ _ h => h) (Or.inl ⟨by rfl, fun _w _hSw => ?hy12x3⟩) (by assumption) ?rest12x3
      case hy12x3 =>
        (try dsimp only at _hSw)
        go_simp
        try with_reducible rfl
      try simp only [Act.put, List.setIfInBounds_toArray, List.set_cons_zero, List.set_cons_succ]
      refine takeL (i := 13) rfl (v := ?v13x3) (by kernel_rfl) (by kernel_rfl) (by kernel_rfl) (fun _ _ _ h => h) (Or.inl ⟨by rfl, fun _w _hSw => ?hy13x3⟩) (by assumption) ?rest13x3
      case hy13x3 =>
        (try dsimp only at _hSw)
        go_simp
        try with_reducible rfl
      try simp only [Act.put, List.setIfInBounds_toArray, List.set_cons_zero, List.set_cons_succ]
      refine wpAnyH_done (by kernel_rfl) ?_ _
      have HBW3 := Lib.hid (HBW2.out.trans (hHeld.2.mono HBW2.out.size))
      by_cases hvn : (vs.length : Int) < t.need
      · have HR4 := Lib.hid (show R = 12 by rw [HR3.out, if_pos hvn])
        go_wp2
        go_ret
        exact ⟨by rw [HR4.out]; rfl, HBW3.out⟩
      · have HR4 := Lib.hid (show R = 0 by rw [HR3.out, if_neg hvn])
        go_wp2
        go_ret
        exact ⟨by rw [HR4.out]; rfl, HBW3.out⟩
  · have HR1 := Lib.hid (show R = 3 by rw [HR.out]; simp [hm1])
    have hmz : (m : Int) ≠ 1 := by omega
    clear K2W K3W HR
    go_wp2
    go_ret
    exact ⟨by rw [HR1.out]; rfl, HBW.out⟩
end Go.Proofs.YtbbcicengfmhiaaDoor

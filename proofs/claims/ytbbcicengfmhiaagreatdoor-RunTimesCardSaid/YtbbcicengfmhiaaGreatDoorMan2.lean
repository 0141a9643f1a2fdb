/- manifest.Right, lockageref08.Few. Conditions: sizes. -/
import Derived.Test.YtbbcicengfmhiaaGreatDoorMan1
import Derived.Test.YtbbcicengfmhiaaGreatDoorMapB
namespace Go.Proofs.YtbbcicengfmhiaaGreatDoor
open Go.RowKit

theorem TasksAt.at {w : World} {b off : Nat} {n c : Nat} {ts : List TaskV} (h : TasksAt w (.slice (some ⟨b, off, none⟩) n c) ts) {j : Nat} (hj : j < ts.length) : TaskAt w b (off + j * 7) ts[j]! := by
  obtain ⟨⟨p, c', hv, _, hc⟩, h2⟩ := h
  simp only [Value.slice.injEq] at hv
  obtain ⟨rfl, _, rfl⟩ := hv
  obtain ⟨b', off', hp, hb, hcc⟩ := hc (by omega)
  simp only [Option.some.injEq, Addr.mk.injEq, and_true] at hp
  obtain ⟨rfl, rfl⟩ := hp
  exact ⟨hb, fun i u hu => hcc j hj i u hu, h2 j hj⟩
theorem TasksAt.val {w : World} {v : Value} {ts : List TaskV} (h : TasksAt w v ts) : ∃ p c, v = .slice p ts.length c ∧ (0 < ts.length → ∃ b off, p = some ⟨b, off, none⟩) := by
  obtain ⟨⟨p, c', hv, _, hc⟩, h2⟩ := h
  exact ⟨p, c', hv, fun hl => by obtain ⟨b, off, hp, _⟩ := hc hl; exact ⟨b, off, hp⟩⟩
theorem zeroBB (w : World) : (zeroValue 4).run Tryz.prog w = .ok (.bool false) w := by kernel_rfl
abbrev eB (b : Bool) : Value := .bool b
theorem keySt : KeyOf Tryz.prog 9 encS := keyOf_str Tryz.underlying9
theorem encS_of (s : ByteArray) : encS s.data.toList = .string s := by simp [encS]
/-- a map that says of each name whether one of the first k has it -/
def NamesAt (w : World) (bm : Nat) (ts : List TaskV) (k : Nat) : Prop := ∃ m : List (List UInt8 × Bool), MapIs w bm encS eB m ∧ ∀ s, (mlook m s).getD false = ((ts.take k).any fun u => u.nm.data.toList == s)
theorem NamesAt.below {w w' : World} {bm : Nat} {ts : List TaskV} {k : Nat} (h : NamesAt w bm ts k) (hb : Below w.heap.size w w') : NamesAt w' bm ts k := by
  obtain ⟨m, h1, h2⟩ := h
  exact ⟨m, h1.below hb h1.lt, h2⟩
theorem NamesAt.lt {w : World} {bm : Nat} {ts : List TaskV} {k : Nat} (h : NamesAt w bm ts k) : bm < w.heap.size := by
  obtain ⟨m, h1, h2⟩ := h
  exact h1.lt
/-- the box of a pipeline lies there -/
def PipeAt (w : World) (B : Nat) (nm : ByteArray) (v : Value) (ts : List TaskV) : Prop := B < w.heap.size ∧ w.cell? ⟨B, 0, none⟩ = some (.string nm) ∧ w.cell? ⟨B, 1, none⟩ = some v ∧ TasksAt w v ts
theorem PipeAt.below {w w' : World} {B : Nat} {nm : ByteArray} {v : Value} {ts : List TaskV} (h : PipeAt w B nm v ts) (hb : Below w.heap.size w w') : PipeAt w' B nm v ts :=
  ⟨Nat.lt_of_lt_of_le h.1 hb.size, (hb.cell (p := ⟨B, 0, none⟩) h.1).trans h.2.1, (hb.cell (p := ⟨B, 1, none⟩) h.1).trans h.2.2.1, h.2.2.2.below hb⟩
theorem PipeAt.keepC {w w' : World} {B : Nat} {nm : ByteArray} {v : Value} {ts : List TaskV} (h : PipeAt w B nm v ts) (hk : KeepC w w') : PipeAt w' B nm v ts :=
  ⟨Nat.lt_of_lt_of_le h.1 hk.1, hk.cell h.2.1, hk.cell h.2.2.1, h.2.2.2.keepC hk⟩
theorem names_next {m : List (List UInt8 × Bool)} {ts : List TaskV} {j : Nat} (hj : j < ts.length) (h : ∀ s, (mlook m s).getD false = ((ts.take j).any fun u => u.nm.data.toList == s)) (s : List UInt8) :
    (mlook (mput m ts[j]!.nm.data.toList true) s).getD false = ((ts.take (j + 1)).any fun u => u.nm.data.toList == s) := by
  rw [List.take_succ_eq_append_getElem hj, List.any_append, ← h, ← getElem!_pos ts j hj]
  by_cases e : s = ts[j]!.nm.data.toList
  · subst e
    rw [mlook_put_same]; simp
  · rw [mlook_put_other _ _ _ _ e]
    have : (ts[j]!.nm.data.toList == s) = false := by rw [beq_eq_false_iff_ne]; exact fun e2 => e e2.symm
    simp only [List.any_cons, List.any_nil, this, Bool.or_false]
theorem PipeAt.mk {w : World} {nm : ByteArray} {v : Value} {ts : List TaskV} (h : TasksAt w v ts) : PipeAt (w.alloc (.cells #[.string nm, v] 46)) w.heap.size nm v ts :=
  ⟨by simp, by go_simp, by go_simp, h.below (below1 _ _)⟩

set_option maxRecDepth 100000 in
set_option maxHeartbeats 4000000 in
theorem manRight (nm : ByteArray) (v : Value) (ts : List TaskV) (w : World) (h : TasksAt w v ts) (hok : okTs ts) (hnm : nm.size ≤ maxLen) :
    Calls Tryz.prog 87 #[.agg #[.string nm, v]] w fun e w' => e = .returned (.bool (pipeB nm ts)) ∧ Below w.heap.size w w' := by
  obtain ⟨hl, hall⟩ := hok
  have HOK := Lib.hid hall
  obtain ⟨p, c, rfl, hp⟩ := h.val
  have HPP := Lib.hid hp
  clear hall hp
  have HR := Lib.hid (show pipeB nm ts = ((nameB nm && (decide (1 ≤ ts.length) && decide (ts.length ≤ 8))) && tasksB ts ts.length) from rfl)
  have HNO := Lib.hid (fun k (hk : k < ts.length) h => tasksB_no (ts := ts) (k := k) hk h)
  have HSU := Lib.hid (fun k => tasksB_succ ts k)
  generalize pipeB nm ts = R at HR ⊢
  have k1 := fun W => manIsName nm W hnm
  have k2 := fun W => manWithin (ts.length : Int) 1 8 W
  have hw8 : withinB (ts.length : Int) 1 8 = (decide (1 ≤ ts.length) && decide (ts.length ≤ 8)) := by
    unfold withinB
    congr 1 <;> (rw [Bool.eq_iff_iff]; simp; omega)
  rw [hw8] at k2
  clear hw8
  unfold maxLen at hl
  generalize nameB nm = q1 at k1 HR
  have K1 := Lib.hid k1
  clear k1
  have hmm := @run_makeMap Tryz.prog
  generalize hn : ts.length = n at HR HNO HSU k2 HPP hl h HOK ⊢
  have HN := Lib.hid hn
  have HP := Lib.hid (PipeAt.mk (nm := nm) h)
  have HB0 := Lib.hid (below1 w (.cells #[.string nm, .slice p n c] 46))
  have hq2 : (decide (1 ≤ n) && decide (n ≤ 8)) = true → 1 ≤ n ∧ n ≤ 8 := by simp
  have HQ2 := Lib.hid hq2
  generalize (decide (1 ≤ n) && decide (n ≤ 8)) = q2 at k2 HR HQ2
  have K2 := Lib.hid k2
  clear h hn hq2 k2
  go_enter Tryz.func87, Tryz.ntmps87
  go_wp2_with fail
  refine (K1.out _).mono ?_
  rintro e w1 ⟨rfl, hb⟩
  obtain ⟨_, c0, c1, _⟩ := HP.out.below hb
  have HP1 := Lib.hid (HP.out.below hb)
  have HB1 := Lib.hid (HB0.out.trans (hb.mono HB0.out.size))
  clear hb HP HB0
  cases q1 with
  | false =>
    go_wp2
    go_ret
    exact ⟨by rw [HR.out]; rfl, HB1.out⟩
  | true =>
  go_wp2_with fail
  refine (K2.out _).mono ?_
  rintro e w2 ⟨rfl, rfl⟩
  cases q2 with
  | false =>
    go_wp2
    go_ret
    exact ⟨by rw [HR.out]; rfl, HB1.out⟩
  | true =>
  obtain ⟨hn1, hn8⟩ := HQ2.out rfl
  obtain ⟨b, off, rfl⟩ := HPP.out (by omega)
  go_wp2_with fail
  generalize hbm : w1.heap.size = bm
  have HM0 := Lib.hid (show NamesAt (w1.alloc (.map #[] 0)) bm ts 0 by rw [← hbm]; exact ⟨[], MapIs.made _ _ _, fun s => by simp [mlook]⟩)
  have HP2 := Lib.hid (HP1.out.below (below1 w1 (.map #[] 0)))
  have HB2 := Lib.hid (HB1.out.alloc HB1.out.size (.map #[] 0))
  have hbmw : w.heap.size < bm := by rw [← hbm]; exact HP1.out.1
  clear hbm c0 c1 HP1 HB1
  generalize w1.alloc (.map #[] 0) = W0 at HM0 HP2 HB2 ⊢
  obtain ⟨_, c0, c1, _⟩ := HP2.out
  clear c0 c1 hn1
  go_loopw [23] (fun i wr => ∃ j : Nat, j ≤ n ∧ i = .int .i64 j ∧ Below w.heap.size w wr ∧ PipeAt wr w.heap.size nm (.slice (some ⟨b, off, none⟩) n c) ts ∧ NamesAt wr bm ts j ∧ tasksB ts j = true) (fun i _ => n - (intOf i).toNat)
  case atStart => exact ⟨0, by omega, rfl, HB2.out, HP2.out, HM0.out, rfl⟩
  case round =>
    obtain ⟨j, hj, rfl, hb, hp, hm, hall⟩ := hrel
    have HB := Lib.hid hb
    have HP := Lib.hid hp
    have HM := Lib.hid hm
    have HA := Lib.hid hall
    clear hb hp hm hall HB2 HP2 HM0
    obtain ⟨_, c0, c1, hts⟩ := id HP.out
    by_cases hlt : j < n
    · have hltz : (j : Int) < (n : Int) := by omega
      have hjl : j < ts.length := by have := HN.out; omega
      have HT := Lib.hid (hts.at hjl)
      have k1 := fun W h => manRightTask b (off + j * 7) ts[j]! (n : Int) W h ⟨by omega, by omega⟩ (HOK.out j hlt)
      have HE := Lib.hid (HSU.out j)
      have HF := Lib.hid (fun h => HNO.out j hlt h)
      have HNW := Lib.hid (show newB ts j = !((ts.take j).any fun u => u.nm.data.toList == ts[j]!.nm.data.toList) from rfl)
      clear hts hjl
      generalize hta : ts[j]! = ta at k1 HT HE HF HNW
      have HTA := Lib.hid hta
      clear hta
      generalize taskB (n : Int) ta = q1 at k1 HE HF
      have K1 := Lib.hid k1
      clear k1
      go_wp2_with fail
      refine (K1.out _ HT.out).mono ?_
      rintro e w3 ⟨rfl, hb3⟩
      have HB3 := Lib.hid (HB.out.trans (hb3.mono HB.out.size))
      have HP3 := Lib.hid (HP.out.below hb3)
      have HM3 := Lib.hid (HM.out.below hb3)
      have HT3 := Lib.hid (HT.out.below hb3)
      clear hb3 HB HP HM HT c0 c1
      cases q1 with
      | false =>
        go_wp2
        go_ret
        exact ⟨by rw [HR.out, HF.out rfl]; simp, HB3.out⟩
      | true =>
      obtain ⟨c0, c1, c2, c3, c4, c5, c6⟩ := HT3.out.cells
      obtain ⟨m, hM, hmm2⟩ := HM3.out
      have HMM := Lib.hid hM
      have HML := Lib.hid hmm2
      have HQ := Lib.hid (show newB ts j = !((mlook m ta.nm.data.toList).getD false) by rw [HNW.out, hmm2])
      have hlk := hM.look keySt Tryz.underlying207 false (zeroBB _) ta.nm.data.toList
      rw [encS_of] at hlk
      clear hM hmm2
      generalize (mlook m ta.nm.data.toList).getD false = q2 at HQ hlk
      cases q2 with
      | true =>
        go_wp2
        go_ret
        exact ⟨by rw [HR.out, HF.out (by rw [HQ.out]; rfl)]; simp, HB3.out⟩
      | false =>
        go_wp2_with (at_mapUpdate; refine wpList_store rfl _ _ _ 207 rfl 9 4 keySt Tryz.underlying207 bm m rfl HMM.out ta.nm.data.toList (encS_of _).symm true rfl ?_; intro w4 hM4 hg4)
        go_roundw
        case rel =>
          obtain ⟨es, ck, hmb, _⟩ := id HMM.out
          have hk := KeepC.map hmb hg4
          have hb4 : Below w.heap.size w w4 := HB3.out.grown hg4 (by have := HB3.out.size; omega) (fun k hk => by cases hk; omega)
          have hm4 : NamesAt w4 bm ts (j + 1) := ⟨_, hM4, fun s => by rw [← HTA.out]; exact names_next (by have := HN.out; omega) HML.out s⟩
          have ha4 : tasksB ts (j + 1) = true := by rw [HE.out, HA.out, HQ.out]; rfl
          first | exact ⟨j + 1, by omega, by go_num, hb4, HP3.out.keepC hk, hm4, ha4⟩ | ((repeat apply Exists.intro); exact ⟨⟨j + 1, by omega, by go_num, hb4, HP3.out.keepC hk, hm4, ha4⟩, rfl⟩)
        case measure => simp [intOf] <;> omega
    · obtain rfl : j = n := by omega
      go_wp2
      go_ret
      exact ⟨by rw [HR.out, HA.out]; rfl, HB.out⟩

theorem ret_bool {a b : Bool} (h : a = b) : Ending.returned (.bool a) = .returned (.bool b) := by rw [h]
def fewP (nm : ByteArray) (ts : List TaskV) : Bool := ts.all (fun t => decide (t.after.length ≤ 20) && decide (t.nm.size ≤ 100)) && (decide (ts.length ≤ 20) && decide (nm.size ≤ 100))
theorem fewP_no {nm : ByteArray} {ts : List TaskV} {j : Nat} (hj : j < ts.length) (h : (decide (ts[j]!.after.length ≤ 20) && decide (ts[j]!.nm.size ≤ 100)) = false) : fewP nm ts = false := by
  unfold fewP
  have : ts.all (fun t => decide (t.after.length ≤ 20) && decide (t.nm.size ≤ 100)) = false := by
    rw [List.all_eq_false]
    refine ⟨ts[j], List.getElem_mem hj, ?_⟩
    rw [← getElem!_pos ts j hj, h]
    decide
  rw [this, Bool.false_and]
theorem fewP_yes {nm : ByteArray} {ts : List TaskV} (h : ∀ j, j < ts.length → (decide (ts[j]!.after.length ≤ 20) && decide (ts[j]!.nm.size ≤ 100)) = true) : fewP nm ts = (decide (ts.length ≤ 20) && decide (nm.size ≤ 100)) := by
  unfold fewP
  have : ts.all (fun t => decide (t.after.length ≤ 20) && decide (t.nm.size ≤ 100)) = true := by
    rw [List.all_eq_true]
    intro t ht
    obtain ⟨j, hj, rfl⟩ := List.getElem_of_mem ht
    have := h j hj
    rwa [getElem!_pos ts j hj] at this
  rw [this, Bool.true_and]
set_option maxRecDepth 100000 in
set_option maxHeartbeats 4000000 in
theorem ref08Few (nm : ByteArray) (v : Value) (ts : List TaskV) (w : World) (h : TasksAt w v ts) (hok : okTs ts) :
    Calls Tryz.prog 18 #[.agg #[.string nm, v]] w fun e w' => e = .returned (.bool (fewP nm ts)) ∧ Below w.heap.size w w' := by
  obtain ⟨hl, hall⟩ := hok
  have HOK := Lib.hid hall
  obtain ⟨p, c, rfl, hp⟩ := h.val
  have HPP := Lib.hid hp
  have HNO := Lib.hid (fun j (hj : j < ts.length) h => fewP_no (nm := nm) (ts := ts) (j := j) hj h)
  have HYES := Lib.hid (fun h => fewP_yes (nm := nm) (ts := ts) h)
  clear hall hp
  generalize fewP nm ts = R at HNO HYES ⊢
  unfold maxLen at hl
  generalize hn : ts.length = n at HNO HYES HPP hl h HOK ⊢
  have HN := Lib.hid hn
  have HP := Lib.hid (PipeAt.mk (nm := nm) h)
  have HB0 := Lib.hid (below1 w (.cells #[.string nm, .slice p n c] 46))
  clear h hn
  go_enter Tryz.func18, Tryz.ntmps18
  go_wp2_with fail
  generalize w.alloc (.cells #[.string nm, .slice p n c] 46) = W0 at HP HB0 ⊢
  obtain ⟨hBz, c0, c1, hts⟩ := id HP.out
  have HTS := Lib.hid hts
  clear hts
  go_loop [3] (fun i => ∃ j : Nat, j ≤ n ∧ i = .int .i64 j ∧ ∀ k, k < j → (decide (ts[k]!.after.length ≤ 20) && decide (ts[k]!.nm.size ≤ 100)) = true) (fun i => n - (intOf i).toNat)
  case atStart => exact ⟨0, by omega, rfl, fun k hk => absurd hk (by omega)⟩
  case round =>
    obtain ⟨j, hj, rfl, hall⟩ := hrel
    have HA := Lib.hid hall
    clear hall
    by_cases hlt : j < n
    · have hltz : (j : Int) < (n : Int) := by omega
      obtain ⟨b, off, rfl⟩ := HPP.out (by omega)
      have hT := HTS.out.at (j := j) (by have := HN.out; omega)
      obtain ⟨d0, d1, _⟩ := hT.cells
      obtain ⟨pp, cc, hv, _⟩ := hT.2.2
      obtain ⟨_, hnms, hafl, _⟩ := HOK.out j hlt
      rw [hv] at d1
      clear hv hT
      have HNX := Lib.hid (fun h => show ∀ k, k < j + 1 → (decide (ts[k]!.after.length ≤ 20) && decide (ts[k]!.nm.size ≤ 100)) = true from fun k hk => by
        by_cases e : k = j
        · subst e; exact h
        · exact HA.out k (by omega))
      have HF := Lib.hid (fun h => HNO.out j hlt h)
      unfold maxLen at hnms hafl
      generalize ts[j]!.after.length = la at d1 HNX HF hafl
      generalize ts[j]!.nm = na at d0 HNX HF hnms
      go_wp2
      all_goals first
        | (go_round
           case rel => exact ⟨j + 1, by omega, by go_num, HNX.out (by simp; omega)⟩
           case measure => simp [intOf]; omega)
        | (have hR := HF.out (by simp; omega)
           go_ret
           exact ⟨by rw [hR]; rfl, HB0.out⟩)
    · obtain rfl : j = n := by omega
      have HR := Lib.hid (HYES.out HA.out)
      by_cases h1 : (j : Int) ≤ 20
      · have hR : R = decide (nm.size ≤ 100) := by rw [HR.out, decide_eq_true (show j ≤ 20 by omega)]; rfl
        have HR2 := Lib.hid hR
        clear hR
        go_wp2
        go_ret
        exact ⟨ret_bool (show decide ((nm.size : Int) ≤ 100) = R by rw [HR2.out, Bool.eq_iff_iff]; simp; try omega), HB0.out⟩
      · have hR : R = false := by rw [HR.out, decide_eq_false (show ¬ j ≤ 20 by omega)]; rfl
        have HR2 := Lib.hid hR
        clear hR
        go_wp2
        go_ret
        exact ⟨by rw [HR2.out]; rfl, HB0.out⟩
end Go.Proofs.YtbbcicengfmhiaaGreatDoor

/- The document's: which pipelines may be. Conditions: sizes. -/
import Derived.Test.YtbbcicengfmhiaaGreatDoorRefR
namespace Go.Proofs.YtbbcicengfmhiaaGreatDoor
set_option maxRecDepth 100000
open Go.RowKit

theorem run_neqL0 (a : Int) (x : Nat) (w : World) : (binOp .neq 80 (.agg #[.int .i64 (a), .int .u16 ((x : Nat) : Int)]) (.agg #[.int .i64 0, .int .u16 0])).run Tryz.prog w = .ok (.bool (!(a == 0 && x == 0))) w := by
  have h := run_eqL0 a x w
  simp only [binOp] at h ⊢
  simp only [Sem.run_bind] at h ⊢
  revert h
  generalize (Op.equal 80 (.agg #[.int .i64 (a), .int .u16 ((x : Nat) : Int)]) (.agg #[.int .i64 0, .int .u16 0])).run Tryz.prog w = r
  cases r with
  | ok b w2 => simp [Result.andThen]
  | halt => simp [Result.andThen]
set_option maxHeartbeats 16000000 in
theorem ref08Right (nm : ByteArray) (v : Value) (ts : List TaskV) (w : World) (h : TasksAt w v ts) (hok : okTs ts) (hnm : nm.size ≤ maxLen) (hbig : ts.length ≤ 1000) :
    Calls Tryz.prog 53 #[.agg #[.string nm, v]] w fun e w' => e = .returned (.bool (pipeB nm ts)) ∧ Below w.heap.size w w' := by
  have HP := Lib.hid (PipeAt.mk (nm := nm) h)
  have HB0 := Lib.hid (below1 w (.cells #[.string nm, v] 46))
  obtain ⟨p, c, rfl, hp⟩ := h.val
  have HPP := Lib.hid hp
  have HOK := Lib.hid hok.2
  have HR := Lib.hid (show pipeB nm ts = ((nameB nm && (decide (1 ≤ ts.length) && decide (ts.length ≤ 8))) && tasksB ts ts.length) from rfl)
  have HNO := Lib.hid (fun i (hi : i < ts.length) h => task_no (ts := ts) (i := i) hi h)
  have HSU := Lib.hid (fun k => tasksB_succ ts k)
  have K1 := Lib.hid (fun W => ref07Name nm W hnm)
  generalize pipeB nm ts = R at HR ⊢
  generalize nameB nm = q1 at K1 HR
  clear hok hp
  generalize hn : ts.length = n at *
  have HN := Lib.hid hn
  clear hn h hnm
  go_enter Tryz.func53, Tryz.ntmps53
  obtain ⟨_, c0, c1, hts⟩ := id HP.out
  clear hts
  go_wp2_with fail
  generalize w.alloc (.cells #[.string nm, .slice p n c] 46) = W0 at HP HB0 c0 c1 ⊢
  refine (K1.out W0).mono ?_
  rintro e w1 ⟨rfl, rfl⟩
  cases q1 with
  | false =>
    go_wp2
    go_ret
    exact ⟨by rw [HR.out]; rfl, HB0.out⟩
  | true =>
  by_cases hn1 : n < 1
  · have hnz : (n : Int) < 1 := by omega
    go_wp2
    go_ret
    exact ⟨by rw [HR.out, decide_eq_false (show ¬ 1 ≤ n by omega)]; rfl, HB0.out⟩
  by_cases hn8 : 8 < n
  · have hnz : (8 : Int) < (n : Int) := by omega
    have hnz1 : (1 : Int) ≤ (n : Int) := by omega
    go_wp2
    go_ret
    exact ⟨by rw [HR.out, decide_eq_false (show ¬ n ≤ 8 by omega)]; simp, HB0.out⟩
  have hnz1 : (1 : Int) ≤ (n : Int) := by omega
  have hnz8 : (n : Int) ≤ 8 := by omega
  have HR2 := Lib.hid (show R = tasksB ts n by rw [HR.out, decide_eq_true (show 1 ≤ n by omega), decide_eq_true (show n ≤ 8 by omega)]; rfl)
  obtain ⟨b, off, rfl⟩ := HPP.out (by omega)
  clear HR
  go_wp2_with fail
  clear c0 c1
  go_loopw [3] (fun t wr => ∃ i : Nat, i ≤ n ∧ t = .int .i64 i ∧ Below w.heap.size w wr ∧ PipeAt wr w.heap.size nm (.slice (some ⟨b, off, none⟩) n c) ts ∧ tasksB ts i = true) (fun t _ => n - (intOf t).toNat)
  case atStart => exact ⟨0, by omega, rfl, HB0.out, HP.out, rfl⟩
  case round =>
    obtain ⟨i, hi, rfl, hb, hp, hall⟩ := hrel
    have HB := Lib.hid hb
    have HP := Lib.hid hp
    have HA := Lib.hid hall
    clear hb hp hall
    obtain ⟨_, c0, c1, hts⟩ := id HP.out
    by_cases hlt : i < n
    · have hltz : (i : Int) < (n : Int) := by omega
      have hits : i < ts.length := by have := HN.out; omega
      have HTK := Lib.hid (hts.at (j := i) hits)
      have HF := Lib.hid (fun h => HNO.out i hlt h)
      have HE := Lib.hid (HSU.out i)
      have HOKi := Lib.hid (HOK.out i hlt)
      have HITS := Lib.hid hits
      have HTB := Lib.hid (show taskB n ts[i]! = (afterB n ts[i]!.after ts[i]!.after.length && restB ts[i]!.nm ts[i]!.retry ts[i]!.time ts[i]!.need ts[i]!.lv ts[i]!.set) from rfl)
      have HNN := Lib.hid (fun k (hk : k < i) h => new_no (ts := ts) hits hk h)
      have HNY := Lib.hid (fun h => new_yes (ts := ts) hits h)
      obtain ⟨d0, d1, d2, d3, d4, d5, d6⟩ := HTK.out.cells
      clear hts hits
      generalize hta : ts[i]! = ta at *
      have HTA := Lib.hid hta
      clear hta
      obtain ⟨tn, tsl, taf, tr, tt, tnd, tl, tst⟩ := ta
      dsimp only at *
      obtain ⟨ps, cs, hv, _⟩ := HTK.out.2.2
      dsimp only at hv
      subst hv
      obtain ⟨hst, htn, htf, hav⟩ := HOKi.out
      dsimp only at hst htn htf hav
      have HAV := Lib.hid hav
      clear hav
      have hbx := below1 wr (.cells #[.string tn, .slice ps taf.length cs, .int .i64 tr, .int .i64 tt, .int .i64 tnd, .int .i64 tl, .int .u16 (tst : Int)] 100)
      have HBX := Lib.hid (HB.out.trans (hbx.mono HB.out.size))
      have HPX := Lib.hid (HP.out.below hbx)
      have HSX := Lib.hid (show SlAt 1 encI _ (.slice ps taf.length cs) taf from HTK.out.2.2.below hbx)
      have HX := Lib.hid (MapKept.heap_alloc wr (.cells #[.string tn, .slice ps taf.length cs, .int .i64 tr, .int .i64 tt, .int .i64 tnd, .int .i64 tl, .int .u16 (tst : Int)] 100)).1
      clear hbx
      have K2 := Lib.hid (fun W => ref07Name tn W htn)
      have K3 := Lib.hid (fun W => ref01Right tl tst W)
      have HC7 := Lib.hid (fun h => rest_c7 (nm := tn) (retry := tr) (time := tt) (need := tnd) (lv := tl) (set := tst) h)
      have HC7E := Lib.hid (show c7B tn tr tt tnd tl = (nameB tn && (withinB tt 1 100 && (withinB tnd 0 4 && (withinB tr 0 5 && rightLv tl)))) from rfl)
      have HFR := Lib.hid (fun (h : restB tn tr tt tnd tl tst = false) => show R = false by rw [HR2.out]; exact HF.out (.inl (by rw [HTB.out, h, Bool.and_false])))
      have HC9A := Lib.hid (fun (h0 : tnd = 0) (h : (tl == 0 && tst == 0) = false) => show restB tn tr tt tnd tl tst = false by subst h0; exact rest_c9a h)
      have HC9B := Lib.hid (fun (h0 : 0 < tnd) (h : (tr == 0) = false) => show restB tn tr tt tnd tl tst = false from rest_c9b h0 h)
      have HYS := Lib.hid (fun h h1 h2 => rest_yes (nm := tn) (retry := tr) (time := tt) (need := tnd) (lv := tl) (set := tst) h h1 h2)
      go_upto_region 7 with fail
      clear c0 c1 d0 d1 d2 d3 d4 d5 d6
      generalize wr.alloc (.cells #[.string tn, .slice ps taf.length cs, .int .i64 tr, .int .i64 tt, .int .i64 tnd, .int .i64 tl, .int .u16 (tst : Int)] 100) = W1 at HBX HPX HSX HX ⊢
      generalize hB4 : wr.heap.size = B4 at *
      have HB4 := Lib.hid hB4
      clear hB4
      have d0 : W1.cell? ⟨B4, 0, none⟩ = some (.string tn) := by rw [Lib.cell_of_heap HX.out]; rfl
      have d1 : W1.cell? ⟨B4, 1, none⟩ = some (.slice ps taf.length cs) := by rw [Lib.cell_of_heap HX.out]; rfl
      have d2 : W1.cell? ⟨B4, 2, none⟩ = some (.int .i64 tr) := by rw [Lib.cell_of_heap HX.out]; rfl
      have d3 : W1.cell? ⟨B4, 3, none⟩ = some (.int .i64 tt) := by rw [Lib.cell_of_heap HX.out]; rfl
      have d4 : W1.cell? ⟨B4, 4, none⟩ = some (.int .i64 tnd) := by rw [Lib.cell_of_heap HX.out]; rfl
      have d5 : W1.cell? ⟨B4, 5, none⟩ = some (.int .i64 tl) := by rw [Lib.cell_of_heap HX.out]; rfl
      have d6 : W1.cell? ⟨B4, 5 + 1, none⟩ = some (.int .u16 (tst : Int)) := by rw [Lib.cell_of_heap HX.out]; rfl
      go_wp2_with fail
      refine (K2.out W1).mono ?_
      rintro e w2 ⟨rfl, rfl⟩
      generalize nameB tn = q1 at HC7E ⊢
      cases q1 with
      | false =>
        have hR := Lib.hid (HFR.out (HC7.out (by rw [HC7E.out]; rfl)))
        go_wp2
        go_ret
        exact ⟨by rw [hR.out]; rfl, HBX.out⟩
      | true =>
      by_cases t1 : tt < 1
      · have hR := Lib.hid (HFR.out (HC7.out (by rw [HC7E.out]; rw [show withinB tt 1 100 = false by unfold withinB; rw [decide_eq_false (by omega)]; rfl]; rfl)))
        go_wp2
        go_ret
        exact ⟨by rw [hR.out]; rfl, HBX.out⟩
      by_cases t2 : 100 < tt
      · have hR := Lib.hid (HFR.out (HC7.out (by rw [HC7E.out]; rw [show withinB tt 1 100 = false by unfold withinB; rw [decide_eq_false (show ¬ tt ≤ 100 by omega), Bool.and_false]]; rfl)))
        go_wp2
        go_ret
        exact ⟨by rw [hR.out]; rfl, HBX.out⟩
      by_cases t3 : tnd < 0
      · have hR := Lib.hid (HFR.out (HC7.out (by rw [HC7E.out]; rw [show withinB tnd 0 4 = false by unfold withinB; rw [decide_eq_false (show ¬ 0 ≤ tnd by omega)]; rfl]; simp)))
        go_wp2
        go_ret
        exact ⟨by rw [hR.out]; rfl, HBX.out⟩
      by_cases t4 : 4 < tnd
      · have hR := Lib.hid (HFR.out (HC7.out (by rw [HC7E.out]; rw [show withinB tnd 0 4 = false by unfold withinB; rw [decide_eq_false (show ¬ tnd ≤ 4 by omega), Bool.and_false]]; simp)))
        go_wp2
        go_ret
        exact ⟨by rw [hR.out]; rfl, HBX.out⟩
      by_cases t5 : tr < 0
      · have hR := Lib.hid (HFR.out (HC7.out (by rw [HC7E.out]; rw [show withinB tr 0 5 = false by unfold withinB; rw [decide_eq_false (show ¬ 0 ≤ tr by omega)]; rfl]; simp)))
        go_wp2
        go_ret
        exact ⟨by rw [hR.out]; rfl, HBX.out⟩
      by_cases t6 : 5 < tr
      · have hR := Lib.hid (HFR.out (HC7.out (by rw [HC7E.out]; rw [show withinB tr 0 5 = false by unfold withinB; rw [decide_eq_false (show ¬ tr ≤ 5 by omega), Bool.and_false]]; simp)))
        go_wp2
        go_ret
        exact ⟨by rw [hR.out]; rfl, HBX.out⟩
      have HC7Y := Lib.hid (show c7B tn tr tt tnd tl = rightLv tl by
        rw [HC7E.out, show withinB tt 1 100 = true by unfold withinB; rw [decide_eq_true (by omega), decide_eq_true (by omega)]; rfl, show withinB tnd 0 4 = true by unfold withinB; rw [decide_eq_true (by omega), decide_eq_true (by omega)]; rfl, show withinB tr 0 5 = true by unfold withinB; rw [decide_eq_true (by omega), decide_eq_true (by omega)]; rfl]
        rfl)
      clear HC7E
      go_wp2_with fail
      refine (K3.out W1).mono ?_
      rintro e w2 ⟨rfl, hb2⟩
      have HB2 := Lib.hid (HBX.out.trans (hb2.mono HBX.out.size))
      have HP2 := Lib.hid (HPX.out.below hb2)
      have HS2 := Lib.hid (HSX.out.below hb2)
      have HX2 := Lib.hid ((hb2.block B4 (Array.getElem?_eq_some_iff.1 HX.out).1).trans HX.out)
      clear hb2 HBX HPX HSX HX d0 d1 d2 d3 d4 d5 d6
      generalize rightLv tl = q2 at HC7Y ⊢
      cases q2 with
      | false =>
        have hR := Lib.hid (HFR.out (HC7.out HC7Y.out))
        go_wp2
        go_ret
        exact ⟨by rw [hR.out]; rfl, HB2.out⟩
      | true =>
      have d1 : w2.cell? ⟨B4, 1, none⟩ = some (.slice ps taf.length cs) := by rw [Lib.cell_of_heap HX2.out]; rfl
      have d2 : w2.cell? ⟨B4, 2, none⟩ = some (.int .i64 tr) := by rw [Lib.cell_of_heap HX2.out]; rfl
      have d4 : w2.cell? ⟨B4, 4, none⟩ = some (.int .i64 tnd) := by rw [Lib.cell_of_heap HX2.out]; rfl
      have d5 : w2.cell? ⟨B4, 5, none⟩ = some (.int .i64 tl) := by rw [Lib.cell_of_heap HX2.out]; rfl
      have d6 : w2.cell? ⟨B4, 5 + 1, none⟩ = some (.int .u16 (tst : Int)) := by rw [Lib.cell_of_heap HX2.out]; rfl
      have HLT := Lib.hid (Array.getElem?_eq_some_iff.1 HX2.out).1
      have HFN := Lib.hid (fun (h : newB ts i = false) => show R = false by rw [HR2.out]; exact HF.out (.inr h))
      have HFA := Lib.hid (fun (h : afterB n taf taf.length = false) => show R = false by rw [HR2.out]; exact HF.out (.inl (by rw [HTB.out, h, Bool.false_and])))
      have HD0 := Lib.hid (fun (W : World) (hb : Below w2.heap.size w2 W) => show W.cell? ⟨B4, 0, none⟩ = some (.string tn) by rw [Lib.cell_of_heap ((hb.block B4 HLT.out).trans HX2.out)]; rfl)
      have HD1 := Lib.hid (fun (W : World) (hb : Below w2.heap.size w2 W) => show W.cell? ⟨B4, 1, none⟩ = some (.slice ps taf.length cs) by rw [Lib.cell_of_heap ((hb.block B4 HLT.out).trans HX2.out)]; rfl)
      have HTN := Lib.hid (fun (W : World) (hb : Below w2.heap.size w2 W) (k : Nat) (hk : k < i) => show W.cell? ⟨w.heap.size, 1, none⟩ = some (.slice (some ⟨b, off, none⟩) n c) ∧ W.cell? ⟨b, off + k * 7, none⟩ = some (.string ts[k]!.nm) by
        obtain ⟨_, _, c1, hts⟩ := HP2.out.below hb
        exact ⟨c1, (hts.at (j := k) (by have := HITS.out; omega)).cells.1⟩)
      have hPc : ∀ {W : World}, Below w2.heap.size w2 W → W.cell? ⟨w.heap.size, 1, none⟩ = some (.slice (some ⟨b, off, none⟩) n c) ∧ True := fun hb => ⟨(HP2.out.below hb).2.2.1, trivial⟩
      have HSK := Lib.hid (fun (h : 0 < taf.length) => show ∃ b off, ps = some ⟨b, off, none⟩ ∧ ∀ W, Below w2.heap.size w2 W → ∀ k, k < taf.length → W.cell? ⟨b, off + k, none⟩ = some (.int .i64 taf[k]!) by
        obtain ⟨p', c', hv, _, hc⟩ := HS2.out
        simp only [Value.slice.injEq] at hv
        obtain ⟨rfl, _, rfl⟩ := hv
        obtain ⟨b, off, hp, hlt, hcc⟩ := hc h
        refine ⟨b, off, hp, fun W hb k hk => (hb.cell (p := ⟨b, off + k, none⟩) hlt).trans ?_⟩
        have := hcc k hk 0 _ rfl
        simpa using this)
      have H9 : (tnd = 0 ∧ (tl == 0 && tst == 0) = false) ∨ (0 < tnd ∧ (tr == 0) = false) ∨ ((tnd = 0 ∧ (tl == 0 && tst == 0) = true) ∨ (0 < tnd ∧ tr = 0)) := by
        by_cases h0 : tnd = 0
        · cases hq : (tl == 0 && tst == 0)
          · exact .inl ⟨h0, rfl⟩
          · exact .inr (.inr (.inl ⟨h0, rfl⟩))
        · by_cases h1 : tr = 0
          · exact .inr (.inr (.inr ⟨by omega, h1⟩))
          · exact .inr (.inl ⟨by omega, by simpa using h1⟩)
      have HNEQ := Lib.hid (fun W => run_neqL0 tl tst W)
      rcases H9 with ⟨rfl, hq⟩ | ⟨h0, hq⟩ | H9
      · have hR := Lib.hid (HFR.out (HC9A.out rfl hq))
        have hne : ∀ W, (binOp .neq 80 (.agg #[.int .i64 (tl), .int .u16 ((tst : Nat) : Int)]) (.agg #[.int .i64 0, .int .u16 0])).run Tryz.prog W = .ok (.bool true) W := fun W => by rw [HNEQ.out W, hq]; rfl
        clear hq
        go_wp2
        go_ret
        exact ⟨by rw [hR.out]; rfl, HB2.out⟩
      · have hR := Lib.hid (HFR.out (HC9B.out h0 hq))
        have h1 : ¬ tnd = 0 := by omega
        have h2 : ¬ tr = 0 := by simpa using hq
        clear hq
        go_wp2
        go_ret
        exact ⟨by rw [hR.out]; rfl, HB2.out⟩
      have HRY := Lib.hid (show restB tn tr tt tnd tl tst = true from HYS.out HC7Y.out (fun h => by rcases H9 with ⟨_, h2⟩ | ⟨h1, _⟩; exact h2; omega) (fun h => by rcases H9 with ⟨h1, _⟩ | ⟨_, h2⟩; omega; exact h2))
      clear HFR HC7 HC9A HC9B HYS HC7Y K3 K2 HX2 HS2
      rcases H9 with ⟨rfl, hq⟩ | ⟨h0, rfl⟩
      · have hne : ∀ W, (binOp .neq 80 (.agg #[.int .i64 (tl), .int .u16 ((tst : Nat) : Int)]) (.agg #[.int .i64 0, .int .u16 0])).run Tryz.prog W = .ok (.bool false) W := fun W => by rw [HNEQ.out W, hq]; rfl
        clear hq
        go_wp2_with fail
        clear d1 d2 d4 d5 d6
        go_loopw [5] (fun t wr => ∃ k : Nat, k ≤ i ∧ t = .int .i64 k ∧ Below w2.heap.size w2 wr ∧ ∀ m, m < k → (ts[m]!.nm.data.toList == tn.data.toList) = false) (fun t _ => i - (intOf t).toNat)
        case atStart => exact ⟨0, by omega, rfl, Below.refl _ _, fun m hm => absurd hm (by omega)⟩
        case round =>
          obtain ⟨k, hk, rfl, hb, hall⟩ := hrel
          have HBk := Lib.hid hb
          have HA2 := Lib.hid hall
          clear hb hall
          by_cases hlk : k < i
          · have hlkz : (k : Int) < (i : Int) := by omega
            have d0 := HD0.out _ HBk.out
            obtain ⟨c1, e0⟩ := HTN.out _ HBk.out k hlk
            have HF2 := Lib.hid (fun h => HFN.out (HNN.out k hlk h))
            have HNX := Lib.hid (fun (h : (ts[k]!.nm.data.toList == tn.data.toList) = false) => show ∀ m, m < k + 1 → (ts[m]!.nm.data.toList == tn.data.toList) = false from fun m hm => by
              by_cases e : m = k
              · subst e; exact h
              · exact HA2.out m (by omega))
            have hkn : (k : Int) < (n : Int) := by omega
            generalize ts[k]!.nm = nk at e0 HF2 HNX
            go_wp2_with fail
            go_quiet (fail)
            go_wp2
            all_goals first
              | (have hq : (nk.data.toList == tn.data.toList) = true := by rw [← ByteArray.toList_eq, ← ByteArray.toList_eq]; assumption
                 have hR := Lib.hid (HF2.out hq)
                 go_ret
                 exact ⟨by rw [hR.out]; rfl, HB2.out.trans ((belowN HBk.out _).mono HB2.out.size)⟩)
              | (have hq : (nk.data.toList == tn.data.toList) = false := by rw [← ByteArray.toList_eq, ← ByteArray.toList_eq]; assumption
                 have hx := HNX.out hq
                 go_roundw
                 case rel => first | exact ⟨k + 1, by omega, by go_num, belowN HBk.out _, hx⟩ | ((repeat apply Exists.intro); exact ⟨⟨k + 1, by omega, by go_num, belowN HBk.out _, hx⟩, rfl⟩)
                 case measure => simp [intOf] <;> omega)
          · obtain rfl : k = i := by omega
            have HNW := Lib.hid (HNY.out HA2.out)
            have hd1 := HD1.out _ HBk.out
            have HB3 := HBk
            clear HA2 HNY HBk HFN HNN
            go_wp2_with fail
            clear hd1
            have htf9 : taf.length ≤ 9223372036854775807 := by have := htf; unfold maxLen at this; omega
            go_loopw [6] (fun t wr => ∃ j : Nat, j ≤ taf.length ∧ t = .int .i64 j ∧ Below w2.heap.size w2 wr ∧ ∀ m, m < j → (0 ≤ taf[m]! ∧ taf[m]! < n) ∧ ∀ q, q < m → taf[q]! ≠ taf[m]!) (fun t _ => taf.length - (intOf t).toNat)
            case atStart => exact ⟨0, by omega, rfl, HB3.out, fun m hm => absurd hm (by omega)⟩
            case round =>
              obtain ⟨j, hj, rfl, hb, hall⟩ := hrel
              have HBj := Lib.hid hb
              have HA3 := Lib.hid hall
              clear hb hall
              by_cases hlj : j < taf.length
              · have hljz : (j : Int) < (taf.length : Int) := by omega
                obtain ⟨bs, os, rfl, hcs⟩ := HSK.out (by omega)
                have HCS := Lib.hid hcs
                clear hcs
                have d1 := HD1.out _ HBj.out
                have e1 := HCS.out _ HBj.out j hlj
                obtain ⟨c1, _⟩ := hPc HBj.out
                have HAF := Lib.hid (fun h => HFA.out (aft_no (n := (n : Int)) hlj h))
                have HDU := Lib.hid (fun q (hq : q < j) h => HFA.out (aft_dup (n := (n : Int)) hlj hq h))
                have HNX := Lib.hid (fun (h : (0 ≤ taf[j]! ∧ taf[j]! < n) ∧ ∀ q, q < j → taf[q]! ≠ taf[j]!) => show ∀ m, m < j + 1 → (0 ≤ taf[m]! ∧ taf[m]! < n) ∧ ∀ q, q < m → taf[q]! ≠ taf[m]! from fun m hm => by
                  by_cases e : m = j
                  · subst e; exact h
                  · exact HA3.out m (by omega))
                have HCJ := Lib.hid (fun W hb => HCS.out W hb j hlj)
                generalize taf[j]! = a at e1 HAF HDU HNX HCJ
                clear HA3
                by_cases a0 : a < 0
                · have hR := Lib.hid (HAF.out (.inl a0))
                  go_wp2_with fail
                  go_quiet (fail)
                  go_wp2
                  go_ret
                  exact ⟨by rw [hR.out]; rfl, HB2.out.trans ((belowN HBj.out _).mono HB2.out.size)⟩
                by_cases an : (n : Int) ≤ a
                · have hR := Lib.hid (HAF.out (.inr an))
                  go_wp2_with fail
                  go_quiet (fail)
                  go_wp2
                  go_ret
                  exact ⟨by rw [hR.out]; rfl, HB2.out.trans ((belowN HBj.out _).mono HB2.out.size)⟩
                go_wp2_with fail
                go_quiet (fail)
                clear d1 e1 c1
                go_wp2_with fail
                go_loopw [7] (fun t wr => ∃ q : Nat, q ≤ j ∧ t = .int .i64 q ∧ Below w2.heap.size w2 wr ∧ ∀ m, m < q → taf[m]! ≠ a) (fun t _ => j - (intOf t).toNat)
                case atStart => exact ⟨0, by omega, rfl, belowN HBj.out _, fun m hm => absurd hm (by omega)⟩
                case round =>
                  obtain ⟨q, hq, rfl, hb, hall⟩ := hrel
                  have HBq := Lib.hid hb
                  have HA4 := Lib.hid hall
                  clear hb hall
                  by_cases hlq : q < j
                  · have hlqz : (q : Int) < (j : Int) := by omega
                    have hlqn : (q : Int) < (taf.length : Int) := by omega
                    have d1 := HD1.out _ HBq.out
                    have e1 := HCJ.out _ HBq.out
                    have e2 := HCS.out _ HBq.out q (by omega)
                    have HDQ := Lib.hid (fun h => HDU.out q hlq h)
                    have HN4 := Lib.hid (fun (h : taf[q]! ≠ a) => show ∀ m, m < q + 1 → taf[m]! ≠ a from fun m hm => by
                      by_cases e : m = q
                      · subst e; exact h
                      · exact HA4.out m (by omega))
                    generalize taf[q]! = a2 at e2 HDQ HN4
                    by_cases heq : a2 = a
                    · have hR := Lib.hid (HDQ.out heq)
                      go_wp2_with fail
                      go_quiet (fail)
                      go_wp2
                      go_ret
                      exact ⟨by rw [hR.out]; rfl, HB2.out.trans ((belowN HBq.out _).mono HB2.out.size)⟩
                    · have HN5 := Lib.hid (HN4.out heq)
                      go_wp2_with fail
                      go_quiet (fail)
                      go_wp2
                      go_roundw
                      case rel => first | exact ⟨q + 1, by omega, by go_num, belowN HBq.out _, HN5.out⟩ | ((repeat apply Exists.intro); exact ⟨⟨q + 1, by omega, by go_num, belowN HBq.out _, HN5.out⟩, rfl⟩)
                      case measure => simp [intOf] <;> omega
                  · obtain rfl : q = j := by omega
                    have HN5 := Lib.hid (HNX.out ⟨⟨by omega, by omega⟩, HA4.out⟩)
                    go_wp2
                    go_roundw
                    case rel => first | exact ⟨q + 1, by omega, by go_num, HBq.out, HN5.out⟩ | ((repeat apply Exists.intro); exact ⟨⟨q + 1, by omega, by go_num, HBq.out, HN5.out⟩, rfl⟩)
                    case measure => simp [intOf] <;> omega
              · obtain rfl : j = taf.length := by omega
                have HT5 := Lib.hid (show tasksB ts (k + 1) = true by
                  rw [HE.out, HA.out, HTB.out, HNW.out, HRY.out, aft_yes HA3.out]; rfl)
                have d1 := HD1.out _ HBj.out
                go_wp2
                go_roundw
                case rel => first | exact ⟨k + 1, by omega, by go_num, HB2.out.trans (HBj.out.mono HB2.out.size), HP2.out.below HBj.out, HT5.out⟩ | ((repeat apply Exists.intro); exact ⟨⟨k + 1, by omega, by go_num, HB2.out.trans (HBj.out.mono HB2.out.size), HP2.out.below HBj.out, HT5.out⟩, rfl⟩)
                case measure => simp [intOf] <;> omega
      · have h1 : ¬ tnd = 0 := by omega
        go_wp2_with fail
        clear d1 d2 d4 d5 d6
        go_loopw [5] (fun t wr => ∃ k : Nat, k ≤ i ∧ t = .int .i64 k ∧ Below w2.heap.size w2 wr ∧ ∀ m, m < k → (ts[m]!.nm.data.toList == tn.data.toList) = false) (fun t _ => i - (intOf t).toNat)
        case atStart => exact ⟨0, by omega, rfl, Below.refl _ _, fun m hm => absurd hm (by omega)⟩
        case round =>
          obtain ⟨k, hk, rfl, hb, hall⟩ := hrel
          have HBk := Lib.hid hb
          have HA2 := Lib.hid hall
          clear hb hall
          by_cases hlk : k < i
          · have hlkz : (k : Int) < (i : Int) := by omega
            have d0 := HD0.out _ HBk.out
            obtain ⟨c1, e0⟩ := HTN.out _ HBk.out k hlk
            have HF2 := Lib.hid (fun h => HFN.out (HNN.out k hlk h))
            have HNX := Lib.hid (fun (h : (ts[k]!.nm.data.toList == tn.data.toList) = false) => show ∀ m, m < k + 1 → (ts[m]!.nm.data.toList == tn.data.toList) = false from fun m hm => by
              by_cases e : m = k
              · subst e; exact h
              · exact HA2.out m (by omega))
            have hkn : (k : Int) < (n : Int) := by omega
            generalize ts[k]!.nm = nk at e0 HF2 HNX
            go_wp2_with fail
            go_quiet (fail)
            go_wp2
            all_goals first
              | (have hq : (nk.data.toList == tn.data.toList) = true := by rw [← ByteArray.toList_eq, ← ByteArray.toList_eq]; assumption
                 have hR := Lib.hid (HF2.out hq)
                 go_ret
                 exact ⟨by rw [hR.out]; rfl, HB2.out.trans ((belowN HBk.out _).mono HB2.out.size)⟩)
              | (have hq : (nk.data.toList == tn.data.toList) = false := by rw [← ByteArray.toList_eq, ← ByteArray.toList_eq]; assumption
                 have hx := HNX.out hq
                 go_roundw
                 case rel => first | exact ⟨k + 1, by omega, by go_num, belowN HBk.out _, hx⟩ | ((repeat apply Exists.intro); exact ⟨⟨k + 1, by omega, by go_num, belowN HBk.out _, hx⟩, rfl⟩)
                 case measure => simp [intOf] <;> omega)
          · obtain rfl : k = i := by omega
            have HNW := Lib.hid (HNY.out HA2.out)
            have hd1 := HD1.out _ HBk.out
            have HB3 := HBk
            clear HA2 HNY HBk HFN HNN
            go_wp2_with fail
            clear hd1
            have htf9 : taf.length ≤ 9223372036854775807 := by have := htf; unfold maxLen at this; omega
            go_loopw [6] (fun t wr => ∃ j : Nat, j ≤ taf.length ∧ t = .int .i64 j ∧ Below w2.heap.size w2 wr ∧ ∀ m, m < j → (0 ≤ taf[m]! ∧ taf[m]! < n) ∧ ∀ q, q < m → taf[q]! ≠ taf[m]!) (fun t _ => taf.length - (intOf t).toNat)
            case atStart => exact ⟨0, by omega, rfl, HB3.out, fun m hm => absurd hm (by omega)⟩
            case round =>
              obtain ⟨j, hj, rfl, hb, hall⟩ := hrel
              have HBj := Lib.hid hb
              have HA3 := Lib.hid hall
              clear hb hall
              by_cases hlj : j < taf.length
              · have hljz : (j : Int) < (taf.length : Int) := by omega
                obtain ⟨bs, os, rfl, hcs⟩ := HSK.out (by omega)
                have HCS := Lib.hid hcs
                clear hcs
                have d1 := HD1.out _ HBj.out
                have e1 := HCS.out _ HBj.out j hlj
                obtain ⟨c1, _⟩ := hPc HBj.out
                have HAF := Lib.hid (fun h => HFA.out (aft_no (n := (n : Int)) hlj h))
                have HDU := Lib.hid (fun q (hq : q < j) h => HFA.out (aft_dup (n := (n : Int)) hlj hq h))
                have HNX := Lib.hid (fun (h : (0 ≤ taf[j]! ∧ taf[j]! < n) ∧ ∀ q, q < j → taf[q]! ≠ taf[j]!) => show ∀ m, m < j + 1 → (0 ≤ taf[m]! ∧ taf[m]! < n) ∧ ∀ q, q < m → taf[q]! ≠ taf[m]! from fun m hm => by
                  by_cases e : m = j
                  · subst e; exact h
                  · exact HA3.out m (by omega))
                have HCJ := Lib.hid (fun W hb => HCS.out W hb j hlj)
                generalize taf[j]! = a at e1 HAF HDU HNX HCJ
                clear HA3
                by_cases a0 : a < 0
                · have hR := Lib.hid (HAF.out (.inl a0))
                  go_wp2_with fail
                  go_quiet (fail)
                  go_wp2
                  go_ret
                  exact ⟨by rw [hR.out]; rfl, HB2.out.trans ((belowN HBj.out _).mono HB2.out.size)⟩
                by_cases an : (n : Int) ≤ a
                · have hR := Lib.hid (HAF.out (.inr an))
                  go_wp2_with fail
                  go_quiet (fail)
                  go_wp2
                  go_ret
                  exact ⟨by rw [hR.out]; rfl, HB2.out.trans ((belowN HBj.out _).mono HB2.out.size)⟩
                go_wp2_with fail
                go_quiet (fail)
                clear d1 e1 c1
                go_wp2_with fail
                go_loopw [7] (fun t wr => ∃ q : Nat, q ≤ j ∧ t = .int .i64 q ∧ Below w2.heap.size w2 wr ∧ ∀ m, m < q → taf[m]! ≠ a) (fun t _ => j - (intOf t).toNat)
                case atStart => exact ⟨0, by omega, rfl, belowN HBj.out _, fun m hm => absurd hm (by omega)⟩
                case round =>
                  obtain ⟨q, hq, rfl, hb, hall⟩ := hrel
                  have HBq := Lib.hid hb
                  have HA4 := Lib.hid hall
                  clear hb hall
                  by_cases hlq : q < j
                  · have hlqz : (q : Int) < (j : Int) := by omega
                    have hlqn : (q : Int) < (taf.length : Int) := by omega
                    have d1 := HD1.out _ HBq.out
                    have e1 := HCJ.out _ HBq.out
                    have e2 := HCS.out _ HBq.out q (by omega)
                    have HDQ := Lib.hid (fun h => HDU.out q hlq h)
                    have HN4 := Lib.hid (fun (h : taf[q]! ≠ a) => show ∀ m, m < q + 1 → taf[m]! ≠ a from fun m hm => by
                      by_cases e : m = q
                      · subst e; exact h
                      · exact HA4.out m (by omega))
                    generalize taf[q]! = a2 at e2 HDQ HN4
                    by_cases heq : a2 = a
                    · have hR := Lib.hid (HDQ.out heq)
                      go_wp2_with fail
                      go_quiet (fail)
                      go_wp2
                      go_ret
                      exact ⟨by rw [hR.out]; rfl, HB2.out.trans ((belowN HBq.out _).mono HB2.out.size)⟩
                    · have HN5 := Lib.hid (HN4.out heq)
                      go_wp2_with fail
                      go_quiet (fail)
                      go_wp2
                      go_roundw
                      case rel => first | exact ⟨q + 1, by omega, by go_num, belowN HBq.out _, HN5.out⟩ | ((repeat apply Exists.intro); exact ⟨⟨q + 1, by omega, by go_num, belowN HBq.out _, HN5.out⟩, rfl⟩)
                      case measure => simp [intOf] <;> omega
                  · obtain rfl : q = j := by omega
                    have HN5 := Lib.hid (HNX.out ⟨⟨by omega, by omega⟩, HA4.out⟩)
                    go_wp2
                    go_roundw
                    case rel => first | exact ⟨q + 1, by omega, by go_num, HBq.out, HN5.out⟩ | ((repeat apply Exists.intro); exact ⟨⟨q + 1, by omega, by go_num, HBq.out, HN5.out⟩, rfl⟩)
                    case measure => simp [intOf] <;> omega
              · obtain rfl : j = taf.length := by omega
                have HT5 := Lib.hid (show tasksB ts (k + 1) = true by
                  rw [HE.out, HA.out, HTB.out, HNW.out, HRY.out, aft_yes HA3.out]; rfl)
                have d1 := HD1.out _ HBj.out
                go_wp2
                go_roundw
                case rel => first | exact ⟨k + 1, by omega, by go_num, HB2.out.trans (HBj.out.mono HB2.out.size), HP2.out.below HBj.out, HT5.out⟩ | ((repeat apply Exists.intro); exact ⟨⟨k + 1, by omega, by go_num, HB2.out.trans (HBj.out.mono HB2.out.size), HP2.out.below HBj.out, HT5.out⟩, rfl⟩)
                case measure => simp [intOf] <;> omega
    · obtain rfl : i = n := by omega
      go_wp2
      go_ret
      exact ⟨by rw [HR2.out, HA.out]; rfl, HB.out⟩
end Go.Proofs.YtbbcicengfmhiaaGreatDoor

/- order.Order. Conditions: sizes. -/
import Derived.Test.YtbbcicengfmhiaaOrC
import Derived.Deep.DeepCutAuto
namespace Go.Proofs.Ytbbcicengfmhiaa
set_option maxRecDepth 100000
open Go.RowKit

theorem owns_keep {w w' : World} {base : Nat} {e : TypeId} {size : Nat} {v : Value} {n : Nat} {xs : List Value} (h : w.ownsRow base e size v n xs) (hk : ∀ k, v.ownBlock = some k → w'.heap[k]? = w.heap[k]?) : w'.ownsRow base e size v n xs := by
  obtain ⟨h1, h2⟩ := h
  refine ⟨h1, ?_⟩
  rcases h2 with h2 | ⟨g, cap, cur, rfl, hg, hh, hr⟩
  · exact .inl h2
  · exact .inr ⟨g, cap, cur, rfl, hg, (hk g (by simp [Value.ownBlock])).trans hh, hr⟩
/-- a block of bools -/
def BoolsAt (bm : Nat) (d : List Bool) (w : World) : Prop := w.heap[bm]? = some (.cells (d.map Value.bool).toArray 4 (0, 0))
theorem BoolsAt.lt {bm : Nat} {d : List Bool} {w : World} (h : BoolsAt bm d w) : bm < w.heap.size := (Array.getElem?_eq_some_iff.1 h).1
theorem BoolsAt.below {bm : Nat} {d : List Bool} {w w' : World} (h : BoolsAt bm d w) (hb : Below w.heap.size w w') : BoolsAt bm d w' := (hb.block bm h.lt).trans h
theorem BoolsAt.cell {bm : Nat} {d : List Bool} {w : World} (h : BoolsAt bm d w) {a : Nat} (ha : a < d.length) : w.cell? ⟨bm, a, none⟩ = some (.bool d[a]!) ∧ w.frozen? ⟨bm, a, none⟩ = false := by
  refine ⟨?_, Lib.frozen_of_heap h a⟩
  rw [Lib.cell_of_heap h, getElem!_pos d a ha]
  simp [ha]
theorem BoolsAt.set {bm : Nat} {d : List Bool} {w : World} (h : BoolsAt bm d w) (a : Nat) : BoolsAt bm (d.set a true) (w.setCell ⟨bm, a, none⟩ (.bool true)) := by
  unfold BoolsAt
  rw [Joins.block_setCell h]
  simp [List.map_set]
theorem BoolsAt.ne {bm : Nat} {d : List Bool} {w : World} (h : BoolsAt bm d w) {b o : Nat} {x : Int} (hc : w.cell? ⟨b, o, none⟩ = some (.int .i64 x)) : b ≠ bm := by
  rintro rfl
  rw [Lib.cell_of_heap h] at hc
  simp only [List.getElem?_toArray, List.getElem?_map, Option.map_eq_some_iff] at hc
  obtain ⟨y, _, hy⟩ := hc
  cases hy
theorem BoolsAt.sl {bm n : Nat} {d : List Bool} {w : World} (h : BoolsAt bm d w) (hn : d.length = n) : SlAt 1 encB w (.slice (some ⟨bm, 0, none⟩) n n) d := by
  subst hn
  refine ⟨some ⟨bm, 0, none⟩, d.length, rfl, ⟨Nat.le_refl _, fun e => nomatch e⟩, fun _ => ⟨bm, 0, rfl, h.lt, fun j hj i u hu => ?_⟩⟩
  have hi : i = 0 := by
    have := (List.getElem?_eq_some_iff.1 hu).1
    simp [encB] at this
    exact this
  subst hi
  simp [encB] at hu
  subst hu
  simpa using (h.cell hj).1
def orderQ (nm : ByteArray) (ts : List TaskV) : Bool := pipeB nm ts && orderB (afters ts)
def orderP (nm : ByteArray) (ts : List TaskV) : List Int := if pipeB nm ts = true then orderL (afters ts) else []
def OrderPost (q : Bool) (l : List Int) (w : World) (e : Ending) (w' : World) : Prop := ∃ v, e = .returned (.tuple #[v, .bool q]) ∧ SlAt 1 encI w' v l ∧ Below w.heap.size w w'
theorem ordF_some {af : List (List Int)} {d : List Bool} {l : List Int} (h : ordF af af.length = some (d, l)) : orderB af = true ∧ orderL af = l := by
  unfold orderB orderL
  rw [h]
  exact ⟨rfl, rfl⟩
theorem ordF_no {af : List (List Int)} (h : ordF af af.length = none) : orderB af = false ∧ orderL af = [] := by
  unfold orderB orderL
  rw [h]
  exact ⟨rfl, rfl⟩
theorem ordF_nil {af : List (List Int)} {k : Nat} {d : List Bool} {l : List Int} (h : ordF af k = some (d, l)) (hr : rdyL af d af.length = []) : ordF af (k + 1) = none := by
  unfold ordF
  rw [h]
  simp only [hr]
theorem ordF_cons {af : List (List Int)} {k : Nat} {d : List Bool} {l : List Int} (h : ordF af k = some (d, l)) {x : Int} {r : List Int} (hr : rdyL af d af.length = x :: r) : ordF af (k + 1) = some (d.set x.toNat true, l ++ [x]) := by
  rw [ordF, h]
  simp only [hr]

set_option maxHeartbeats 8000000 in
theorem ordOrder (nm : ByteArray) (vt : Value) (ts : List TaskV) (w : World) (h : TasksAt w vt ts) (hok : okTs ts) (hnm : nm.size ≤ maxLen) :
    Calls Try.prog 10 #[.agg #[.string nm, vt]] w (OrderPost (orderQ nm ts) (orderP nm ts) w) := by
  obtain ⟨i0, hi, hq0, hq1, hq2⟩ := info_int
  obtain ⟨ib, hib, hbz0, hbz1, hbz2⟩ := info_parts bool_infoR
  have HP := Lib.hid (PipeAt.mk (nm := nm) h)
  have HB0 := Lib.hid (below1 w (.cells #[.string nm, vt] 24))
  have K1 := Lib.hid (fun W (hW : TasksAt W vt ts) => manRight nm vt ts W hW hok hnm)
  have K2 := Lib.hid (fun (v : Value) (d : List Bool) (W : World) (hW : PipeAt W w.heap.size nm vt ts) (hD : SlAt 1 encB W v d) (hbig : d.length ≤ 1000000) h1 h2 => ordReady nm vt v ts d w.heap.size W hW hD hbig h1 h2 (fun j hj => (hok.2 j hj).2.2.1))
  have HQ := Lib.hid (fun (hq : pipeB nm ts = false) => show orderQ nm ts = false ∧ orderP nm ts = [] from ⟨by unfold orderQ; rw [hq]; rfl, by unfold orderP; rw [hq]; rfl⟩)
  have HY := Lib.hid (fun (hq : pipeB nm ts = true) => show orderQ nm ts = orderB (afters ts) ∧ orderP nm ts = orderL (afters ts) from ⟨by unfold orderQ; rw [hq]; rfl, by unfold orderP; rw [if_pos hq]⟩)
  have HRI := Lib.hid (aftIn_of (nm := nm) (ts := ts))
  have HRL := Lib.hid (pipeB_len (nm := nm) (ts := ts))
  have HAL := Lib.hid (afters_len ts)
  have hl := hok.1
  unfold maxLen at hl
  generalize orderQ nm ts = RQ at HQ HY ⊢
  generalize orderP nm ts = RL at HQ HY ⊢
  generalize pipeB nm ts = q at HQ HY K1 HRI HRL
  obtain ⟨p, c, rfl, hp⟩ := h.val
  clear hp hok hnm h
  generalize hn : ts.length = n at *
  have HN := Lib.hid hn
  clear hn
  go_enter Try.func10, Try.ntmps10
  obtain ⟨_, c0, c1, hts⟩ := id HP.out
  have HT0 := Lib.hid hts
  clear hts
  go_wp2_with fail
  generalize w.alloc (.cells #[.string nm, .slice p n c] 24) = W0 at HP HB0 HT0 c0 c1 ⊢
  refine (K1.out W0 HT0.out).mono ?_
  rintro e w1 ⟨rfl, hb⟩
  have HP1 := Lib.hid (HP.out.below hb)
  have HB1 := Lib.hid (HB0.out.trans (hb.mono HB0.out.size))
  clear hb c0 c1 HT0 HP HB0
  obtain ⟨_, c0, c1, ht1⟩ := id HP1.out
  clear ht1
  cases q with
  | false =>
    go_wp2
    go_ret2
    exact ⟨_, by rw [(HQ.out (by simp)).1]; rfl, by rw [(HQ.out (by simp)).2]; exact SlAt.nil _ _ _, HB1.out⟩
  | true =>
  obtain ⟨hn1, hn8⟩ := HRL.out (by simp)
  have HYY := Lib.hid (HY.out (by simp))
  go_wp2_with (refine wpList_make_full _ rfl _ _ 25 rfl w1.heap.size 4 ib (.bool false) 1 Try.underlying25 hib hbz0 hbz1 _ _ (n : Int) (n : Int) n rfl rfl rfl rfl ?q1 ?q2 ?q3 ?_)
  case q1 => rw [hbz2]; omega
  case q2 => unfold maxLen; omega
  case q3 => exact Nat.le_refl _
  intro wm hown hg
  rw [made_bools] at hown
  have HBM0 := Lib.hid (show BoolsAt w1.heap.size (List.replicate n false) wm from owns_full hown)
  have HBW := Lib.hid ((Below.refl w1.heap.size w1).grown hg (Nat.le_refl _) (fun k hk => by cases hk))
  have hbz : w1.heap.size < wm.heap.size := HBM0.out.lt
  clear hown hg hib hbz0 hbz1 hbz2
  have HPM := Lib.hid (HP1.out.below HBW.out)
  obtain ⟨_, c0, c1, _⟩ := HPM.out
  go_wp2_with fail
  clear c0 c1
  generalize hbm : w1.heap.size = bm at *
  have HBM := Lib.hid hbm
  clear hbm
  go_loopw [2, 16] (fun v2 t wr => ∃ k : Nat, k ≤ n ∧ t = .int .i64 k ∧ ∃ d l, ordF (afters ts) k = some (d, l) ∧ Below bm w1 wr ∧ BoolsAt bm d wr ∧ wm.heap.size ≤ wr.heap.size ∧ wr.ownsRow wm.heap.size 3 1 v2 l.length (flat encI l)) (fun _ t _ => n - (intOf t).toNat)
  case atStart => exact ⟨0, by omega, rfl, List.replicate n false, [], by rw [← HAL.out]; rfl, HBW.out, HBM0.out, Nat.le_refl _, by simp [flat], .inl ⟨rfl, rfl⟩⟩
  case round =>
    obtain ⟨k, hk, rfl, d, l, hof, hb, hba, hsz, hown⟩ := hrel
    have HOF := Lib.hid hof
    have HB := Lib.hid hb
    have HBA := Lib.hid hba
    have HO := Lib.hid hown
    clear hof hb hba hown
    have hinv := ordF_inv _ _ _ _ HOF.out
    have hdl : d.length = n := hinv.len.trans HAL.out
    have hll : l.length = k := hinv.num
    clear hinv
    have HDL := Lib.hid hdl
    have HLL := Lib.hid hll
    clear hdl hll
    by_cases hlt : k < n
    · have hltz : (k : Int) < (n : Int) := by omega
      have HPr := Lib.hid (HP1.out.below (by rw [HBM.out]; exact HB.out))
      have HSD := Lib.hid (HBA.out.sl HDL.out)
      go_wp2_with fail
      refine (K2.out _ d wr HPr.out HSD.out (by have := HDL.out; omega) (HRI.out (by simp)) (by omega)).mono ?_
      rintro e w5 ⟨v5, rfl, hs5, hb5⟩
      have HS5 := Lib.hid hs5
      have hbr : bm ≤ wr.heap.size := by have := HBM.out; have := HB.out.size; omega
      have HB5 := Lib.hid (HB.out.trans (hb5.mono hbr))
      have HBA5 := Lib.hid (HBA.out.below hb5)
      have HO5 := Lib.hid (owns_below HO.out hb5)
      have hsz5 : wm.heap.size ≤ w5.heap.size := Nat.le_trans hsz hb5.size
      obtain ⟨p5, c5, rfl, _⟩ := id hs5
      clear hs5 hb5
      generalize hrd : rdyL (afters ts) d n = rd at HS5 ⊢
      have HRD := Lib.hid hrd
      clear hrd
      cases rd with
      | nil =>
        have hno := ordF_no (ordF_none _ (ordF_nil HOF.out (by rw [HAL.out]; exact HRD.out)) (afters ts).length (by rw [HAL.out]; omega))
        have HNO := Lib.hid hno
        clear hno
        go_wp2
        go_ret2
        refine ⟨_, by rw [HYY.out.1, HNO.out.1]; rfl, ?_, ?_⟩
        · rw [HYY.out.2, HNO.out.2]; exact SlAt.nil _ _ _
        · exact HB1.out.trans (by have := HB5.out; rw [← HBM.out] at this; exact this.mono HB1.out.size)
      | cons x r =>
        have hmem : x ∈ rdyL (afters ts) d n := by rw [HRD.out]; simp
        obtain ⟨q, rfl, hqn, _⟩ := rdyL_mem.1 hmem
        clear hmem
        obtain ⟨b5, o5, hp5, hc5⟩ := HS5.out.cellI (k := 0) (by simp)
        subst hp5
        have hc5' : w5.cell? ⟨b5, o5, none⟩ = some (.int .i64 (q : Int)) := by simpa using hc5
        clear hc5
        have hne := HBA5.out.ne hc5'
        obtain ⟨g0, g1⟩ := HBA5.out.cell (a := q) (by rw [HDL.out]; exact hqn)
        have g5 : (w5.setCell ⟨bm, q, none⟩ (.bool true)).cell? ⟨b5, o5, none⟩ = some (.int .i64 (q : Int)) := (World.cell?_of_block (w := w5) (Below.heap_setCell _ _ _ _ hne)).trans hc5'
        have hw1bm : w1.heap.size ≤ bm := by rw [HBM.out]; exact Nat.le_refl _
        have hbmz : bm < wm.heap.size := hbz
        have HBAs := Lib.hid (HBA5.out.set q)
        have HOS := Lib.hid (owns_keep (w' := w5.setCell ⟨bm, q, none⟩ (.bool true)) HO5.out (fun g hg => Below.heap_setCell _ _ _ _ (show g ≠ bm by have := owns_block HO5.out g hg; omega)))
        have HBS := Lib.hid (HB5.out.setCell (p := ⟨bm, q, none⟩) (Nat.le_refl bm) (.bool true))
        have hszs : wm.heap.size ≤ (w5.setCell ⟨bm, q, none⟩ (.bool true)).heap.size := by simpa using hsz5
        have HFN := Lib.hid (ordF_cons HOF.out (by rw [HAL.out]; exact HRD.out))
        have hql : (q : Int) < (n : Int) := by omega
        generalize (d[q]!) = dq at g0
        go_upto_region 10 with fail
        generalize w5.setCell ⟨bm, q, none⟩ (.bool true) = WS at HBAs HOS HBS hszs g5 ⊢
        go_wp2_with (at_builtin; refine wpList_append_own _ rfl _ _ 29 rfl wm.heap.size 3 i0 (.int .i64 0) 1 8 Try.underlying29 hi hq0 hq1 hq2 rfl (by decide) _ _ _ rfl (owns_below HOS.out (below1 _ _)) _ 1 1 [.int .i64 (q : Int)] rfl ?qc1a ?qc2a ?qc3a ?qc4a ?qc5a ?qc6a ?_)
        try (case qc1a => rfl)
        try (case qc2a => (rintro jj u hj; match jj, hj with | 0, hj => simp at hj; subst hj; go_simp))
        case qc3a => simp [Value.oneCell']
        case qc4a => have := HLL.out; unfold maxLen; omega
        case qc5a => have := HLL.out; omega
        case qc6a => simp; omega
        intro v' w7 hown7 hgrow hnil
        have HB7 := Lib.hid ((HBS.out.alloc (show bm ≤ WS.heap.size by omega) (.cells #[.int .i64 (q : Int)] 3)).grown hgrow (by simp; omega) (fun g hg => by have := owns_block HOS.out g hg; omega))
        have HBA7 := Lib.hid (show BoolsAt bm (d.set q true) w7 from (hgrow.block bm (by simp; omega) (fun e => by have := owns_block HOS.out bm e.symm; omega)).trans (((MapKept.heap_alloc WS _).2 bm (by omega)).trans HBAs.out))
        have hsz7 : wm.heap.size ≤ w7.heap.size := by have := hgrow.size; simp at this; omega
        have HO7 := Lib.hid hown7
        clear hown7 hgrow hnil
        go_wp2
        go_roundw
        case rel =>
          have ho7 : w7.ownsRow wm.heap.size 3 1 v' (l ++ [(q : Int)]).length (flat encI (l ++ [(q : Int)])) := by
            have := HO7.out
            rw [List.length_append]
            simpa [flat, encI] using this
          have hf7 : ordF (afters ts) (k + 1) = some (d.set q true, l ++ [(q : Int)]) := HFN.out
          first | exact ⟨k + 1, by omega, by go_num, _, _, hf7, HB7.out, HBA7.out, hsz7, ho7⟩ | ((repeat apply Exists.intro); exact ⟨⟨k + 1, by omega, by go_num, _, _, hf7, HB7.out, HBA7.out, hsz7, ho7⟩, rfl⟩) | trace_state
        case measure => simp [intOf] <;> omega
    · obtain rfl : k = n := by omega
      have hyes := ordF_some (af := afters ts) (d := d) (l := l) (by rw [HAL.out]; exact HOF.out)
      have HYS := Lib.hid hyes
      clear hyes
      go_wp2
      go_ret2
      refine ⟨_, by rw [HYY.out.1, HYS.out.1]; rfl, ?_, ?_⟩
      · rw [HYY.out.2, HYS.out.2]; exact SlAt.of_owns (enc := encI) (fun _ => rfl) HO.out
      · exact HB1.out.trans (by have := HB.out; rw [← HBM.out] at this; exact this.mono HB1.out.size)
end Go.Proofs.Ytbbcicengfmhiaa

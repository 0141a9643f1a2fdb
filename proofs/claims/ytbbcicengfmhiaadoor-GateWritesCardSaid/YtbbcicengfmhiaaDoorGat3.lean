/- gate.Vote. Conditions: the list is short. -/
import Derived.Test.YtbbcicengfmhiaaDoorGat2
import Derived.Deep.DeepCutAuto
import Derived.Laws.ResultCell
namespace Go.Proofs.YtbbcicengfmhiaaDoor
open Go.RowKit

theorem owns_keptI {w w' : World} {base : Nat} {e : TypeId} {size : Nat} {v : Value} {n : Nat} {xs : List Value} (h : w.ownsRow base e size v n xs) (hk : ∀ k, v.ownBlock = some k → w'.heap[k]? = w.heap[k]?) : w'.ownsRow base e size v n xs := by
  obtain ⟨h1, h2⟩ := h
  refine ⟨h1, ?_⟩
  rcases h2 with h2 | ⟨g, cap, cur, rfl, hg, hh, hr⟩
  · exact .inl h2
  · exact .inr ⟨g, cap, cur, rfl, hg, (hk g (by simp [Value.ownBlock])).trans hh, hr⟩
/-- how a vote stands ahead of its answer -/
def VoteAt (w wr : World) (v : Value) (no : Bool) (who : Int) (ys : List Int) : Prop :=
  BoxV w wr v no who ∧ SlAt 1 encI wr v ys ∧ ∀ k, v.ownBlock = some k → w.heap.size + 2 < k
def VotePost (xs : List Int) (no : Bool) (who : Int) (yes : Bool) (need : Int) (w : World) (e : Ending) (w' : World) : Prop :=
  ∃ v', e = .returned (.tuple #[.agg #[v', .bool (no || !yes)], .bool (!(no || !yes) && decide (need ≤ ((voteL xs who yes).length : Int)))]) ∧ SlAt 1 encI w' v' (voteL xs who yes) ∧ Below w.heap.size w w' ∧ ∀ k, v'.ownBlock = some k → w.heap.size ≤ k
theorem voteL_no {xs : List Int} {who : Int} {yes : Bool} (h : (yes && (inR 12 who && !xs.any fun y => who == y)) = false) : voteL xs who yes = xs := by unfold voteL; rw [h]; rfl
theorem voteL_yes {xs : List Int} {who : Int} {yes : Bool} (h : (yes && (inR 12 who && !xs.any fun y => who == y)) = true) : voteL xs who yes = insL xs (posL xs who) who := by unfold voteL; rw [h]; rfl

theorem alloc_atG (w : World) (A : Obj) : (w.alloc A).heap[w.heap.size]? = some A := (MapKept.heap_alloc w _).1
theorem BoxV.mk (w : World) (v : Value) (no : Bool) (who : Int) (a b : Value) : BoxV w (((w.alloc (.cells #[v, .bool no] 54)).alloc (.cells #[.int .i64 who] 3)).alloc (.cells #[a, b] 54)) v no who := by
  have e0 := alloc_atG w (.cells #[v, .bool no] 54)
  have e1 := alloc_atG (w.alloc (.cells #[v, .bool no] 54)) (.cells #[.int .i64 who] 3)
  have e2 := alloc_atG ((w.alloc (.cells #[v, .bool no] 54)).alloc (.cells #[.int .i64 who] 3)) (.cells #[a, b] 54)
  have s1 : (w.alloc (.cells #[v, .bool no] 54)).heap.size = w.heap.size + 1 := by simp
  have s2 : ((w.alloc (.cells #[v, .bool no] 54)).alloc (.cells #[.int .i64 who] 3)).heap.size = w.heap.size + 2 := by simp
  rw [s1] at e1
  rw [s2] at e2
  refine ⟨below3 _ _ _ _, by simp, ?_, ?_, a, b, e2⟩
  · exact ((below2 (w.alloc (.cells #[v, .bool no] 54)) _ _).block _ (by omega)).trans e0
  · exact ((below1 _ (.cells #[a, b] 54)).block _ (by omega)).trans e1
theorem BoxV.cells {w wr : World} {v : Value} {no : Bool} {who : Int} (h : BoxV w wr v no who) :
    (w.heap.size < wr.heap.size ∧ wr.cell? ⟨w.heap.size, 0, none⟩ = some v ∧ wr.cell? ⟨w.heap.size, 1, none⟩ = some (.bool no) ∧ wr.frozen? ⟨w.heap.size, 0, none⟩ = false ∧ wr.frozen? ⟨w.heap.size, 1, none⟩ = false) ∧
    (w.heap.size + 1 < wr.heap.size ∧ wr.cell? ⟨w.heap.size + 1, 0, none⟩ = some (.int .i64 who)) ∧
    ∃ a b, w.heap.size + 1 + 1 < wr.heap.size ∧ wr.cell? ⟨w.heap.size + 1 + 1, 0, none⟩ = some a ∧ wr.cell? ⟨w.heap.size + 1 + 1, 1, none⟩ = some b ∧ wr.frozen? ⟨w.heap.size + 1 + 1, 0, none⟩ = false ∧ wr.frozen? ⟨w.heap.size + 1 + 1, 1, none⟩ = false := by
  obtain ⟨h1, h2, h3, h4, a, b, h5⟩ := h
  exact ⟨⟨by omega, by rw [Lib.cell_of_heap h3]; rfl, by rw [Lib.cell_of_heap h3]; rfl, Lib.frozen_of_heap h3 0, Lib.frozen_of_heap h3 1⟩, ⟨by omega, by rw [Lib.cell_of_heap h4]; rfl⟩,
    a, b, by omega, by rw [Lib.cell_of_heap h5]; rfl, by rw [Lib.cell_of_heap h5]; rfl, Lib.frozen_of_heap h5 0, Lib.frozen_of_heap h5 1⟩
theorem VoteAt.setV {w wr : World} {v v' : Value} {no : Bool} {who : Int} {xs ys : List Int} (h : VoteAt w wr v no who xs) (hS : SlAt 1 encI wr v' ys) (ho : ∀ k, v'.ownBlock = some k → w.heap.size + 2 < k) : VoteAt w (wr.setCell ⟨w.heap.size, 0, none⟩ v') v' no who ys :=
  ⟨h.1.setV, hS.set _ _ (fun e => by have := ho _ e; omega), ho⟩
theorem VoteAt.setNo {w wr : World} {v : Value} {no : Bool} (no' : Bool) {who : Int} {xs : List Int} (h : VoteAt w wr v no who xs) : VoteAt w (wr.setCell ⟨w.heap.size, 1, none⟩ (.bool no')) v no' who xs :=
  ⟨h.1.setNo, h.2.1.set _ _ (fun e => by have := h.2.2 _ e; omega), h.2.2⟩
theorem VoteAt.next {w wr w2 : World} {v : Value} {no : Bool} {who : Int} {xs : List Int} (h : VoteAt w wr v no who xs) (hb : Below wr.heap.size wr w2) : VoteAt w w2 v no who xs :=
  ⟨h.1.next hb h.1.2.1, h.2.1.below hb, h.2.2⟩
theorem owns_lt {w : World} {base : Nat} {e : TypeId} {size : Nat} {v : Value} {n : Nat} {xs : List Value} (h : w.ownsRow base e size v n xs) {k : Nat} (hk : v.ownBlock = some k) : k < w.heap.size := by
  rcases h.2 with ⟨rfl, _⟩ | ⟨g, cap, cur, rfl, _, hh, _⟩
  · simp [Value.ownBlock] at hk
  · simp [Value.ownBlock] at hk
    subst hk
    exact (Array.getElem?_eq_some_iff.1 hh).1
/-- the answer is laid -/
theorem VoteAt.done {w wr : World} {v a b : Value} {no : Bool} {who : Int} {ys : List Int} (h : VoteAt w wr v no who ys) : SlAt 1 encI ((wr.setCell ⟨w.heap.size + 1 + 1, 0, none⟩ a).setCell ⟨w.heap.size + 1 + 1, 1, none⟩ b).drew v ys ∧ Below w.heap.size w ((wr.setCell ⟨w.heap.size + 1 + 1, 0, none⟩ a).setCell ⟨w.heap.size + 1 + 1, 1, none⟩ b).drew ∧ ∀ k, v.ownBlock = some k → w.heap.size ≤ k := by
  have hne : v.ownBlock ≠ some (w.heap.size + 1 + 1) := fun e => by have := h.2.2 _ e; omega
  refine ⟨((h.2.1.set _ _ hne).set _ _ hne).below (Below.refl _ _).drew, ?_, fun k hk => by have := h.2.2 k hk; omega⟩
  exact (((h.1.1).setCell (p := ⟨w.heap.size + 1 + 1, 0, none⟩) (by show w.heap.size ≤ w.heap.size + 1 + 1; omega) _).setCell (p := ⟨w.heap.size + 1 + 1, 1, none⟩) (by show w.heap.size ≤ w.heap.size + 1 + 1; omega) _).drew

set_option maxRecDepth 100000 in
set_option maxHeartbeats 4000000 in
theorem gateVote (v : Value) (no : Bool) (xs : List Int) (who : Int) (yes : Bool) (need : Int) (w : World) (hS : SlAt 1 encI w v xs) (hlen : xs.length ≤ 900) :
    Calls Tryd.prog 79 #[.agg #[v, .bool no], .int .i64 who, .bool yes, .int .i64 need] w (VotePost xs no who yes need w) := by
  have HS := Lib.hid hS
  obtain ⟨p, c, rfl, _, _⟩ := id hS
  clear hS
  go_enter Tryd.func79, Tryd.ntmps79
  go_upto_region 1 with fail
  have hbx := BoxV.mk w (.slice p xs.length c) no who (.slice none 0 0) (.bool false)
  have HB0 := Lib.hid hbx
  have HS0 := Lib.hid (HS.out.below hbx.1)
  clear hbx
  generalize (((w.alloc (.cells #[.slice p xs.length c, .bool no] 54)).alloc (.cells #[.int .i64 who] 3)).alloc (.cells #[.slice none 0 0, .bool false] 54)) = W0 at HB0 HS0 ⊢
  obtain ⟨⟨s4, g40, g41, f40, f41⟩, _, _⟩ := HB0.out.cells
  go_wp2_with fail
  refine (cloneI _ xs W0 HS0.out (by omega)).mono ?_
  rintro e w1 ⟨v1, rfl, hown, hb1⟩
  obtain ⟨p1, c1, rfl, _, _⟩ := SlAt.of_owns (enc := encI) (fun _ => rfl) hown
  have hbx := HB0.out.next hb1 HB0.out.2.1
  have hvo : ∀ k, (Value.slice p1 xs.length c1).ownBlock = some k → w.heap.size + 2 < k := fun k hk => by
    have h1 := owns_block hown k hk
    have h2 := HB0.out.2.1
    omega
  have HV1 := Lib.hid (show VoteAt w (w1.setCell ⟨w.heap.size, 0, none⟩ (.slice p1 xs.length c1)) (.slice p1 xs.length c1) no who xs from ⟨hbx.setV, (SlAt.of_owns (enc := encI) (fun _ => rfl) hown).set _ _ (fun e => by have := hvo _ e; omega), hvo⟩)
  have HOW := Lib.hid (owns_keptI (w' := w1.setCell ⟨w.heap.size, 0, none⟩ (.slice p1 xs.length c1)) hown (fun k hk => Below.heap_setCell _ _ _ _ (show k ≠ w.heap.size by have := hvo k hk; omega)))
  have HZ := Lib.hid (show W0.heap.size ≤ (w1.setCell ⟨w.heap.size, 0, none⟩ (.slice p1 xs.length c1)).heap.size ∧ w.heap.size + 2 < W0.heap.size by have := hb1.size; have := HB0.out.2.1; simp; omega)
  obtain ⟨⟨s4', g40', g41', f40', f41'⟩, _, _⟩ := hbx.cells
  clear s4 g40 g41 f40 f41 hown hb1
  go_upto_region 2 with fail
  generalize w1.setCell ⟨w.heap.size, 0, none⟩ (.slice p1 xs.length c1) = W1 at HV1 HOW HZ ⊢
  clear s4' g40' g41' f40' f41' hbx
  cases yes with
  | false =>
    have hvl : voteL xs who false = xs := rfl
    obtain ⟨⟨s4, g40, g41, f40, f41⟩, _, _⟩ := HV1.out.1.cells
    have HV := Lib.hid (HV1.out.setNo true)
    go_upto_region 9 with fail
    generalize W1.setCell ⟨w.heap.size, 1, none⟩ (.bool true) = W2 at HV ⊢
    clear s4 g40 g41 f40 f41 HV1 HOW HZ HB0 HS0 HS
    have hvs := HV.out.2.1
    obtain ⟨p2, c2, hv2, _, _⟩ := id hvs
    try subst hv2
    obtain ⟨⟨s4, g40, g41, _, _⟩, _, za, zb, s8, g80, g81, f80, f81⟩ := HV.out.1.cells
    have HVL := Lib.hid hvl
    have HVO := Lib.hid (fun a b => HV.out.done (a := a) (b := b))
    clear hvl hvs
    go_wp2_with fail
    go_region
    go_wp2
    (try simp only [Exit.inBlock, Exit.then])
    refine bodyPost_ret (v := .tuple #[.agg #[.slice p1 xs.length c1, .bool true], .bool false]) (by rw [results_cell_tmp rfl]; go_simp) rfl ?_
    refine ⟨.slice p1 xs.length c1, by rw [HVL.out]; simp, ?_⟩
    rw [HVL.out]
    exact HVO.out _ _
  | true =>
    cases t1 : decide ((0 : Int) ≤ who) with
    | false =>
      have hvl : voteL xs who true = xs := voteL_no (by simp [inR, t1])
      obtain ⟨⟨s4, g40, g41, f40, f41⟩, ⟨s5, g5⟩, _⟩ := HV1.out.1.cells
      have HV := HV1
      go_upto_region 9 with fail
      clear s4 g40 g41 f40 f41 s5 g5 HV1 HOW HZ HB0 HS0 HS
      have hvs := HV.out.2.1
      obtain ⟨p2, c2, hv2, _, _⟩ := id hvs
      try subst hv2
      obtain ⟨⟨s4, g40, g41, _, _⟩, _, za, zb, s8, g80, g81, f80, f81⟩ := HV.out.1.cells
      have HVL := Lib.hid hvl
      have HVO := Lib.hid (fun a b => HV.out.done (a := a) (b := b))
      clear hvl hvs
      cases no with
      | true =>
        go_wp2_with fail
        go_region
        go_wp2
        (try simp only [Exit.inBlock, Exit.then])
        refine bodyPost_ret (v := .tuple #[.agg #[.slice p1 xs.length c1, .bool true], .bool false]) (by rw [results_cell_tmp rfl]; go_simp) rfl ?_
        refine ⟨.slice p1 xs.length c1, by rw [HVL.out]; simp, ?_⟩
        rw [HVL.out]
        exact HVO.out _ _
      | false =>
        cases hn : decide (need ≤ (xs.length : Int)) with
        | true =>
          go_wp2_with fail
          go_region
          go_wp2
          (try simp only [Exit.inBlock, Exit.then])
          refine bodyPost_ret (v := .tuple #[.agg #[.slice p1 xs.length c1, .bool false], .bool true]) (by rw [results_cell_tmp rfl]; go_simp) rfl ?_
          refine ⟨.slice p1 xs.length c1, by rw [HVL.out]; simp [hn], ?_⟩
          rw [HVL.out]
          exact HVO.out _ _
        | false =>
          go_wp2_with fail
          go_region
          go_wp2
          (try simp only [Exit.inBlock, Exit.then])
          refine bodyPost_ret (v := .tuple #[.agg #[.slice p1 xs.length c1, .bool false], .bool false]) (by rw [results_cell_tmp rfl]; go_simp) rfl ?_
          refine ⟨.slice p1 xs.length c1, by rw [HVL.out]; simp [hn], ?_⟩
          rw [HVL.out]
          exact HVO.out _ _
    | true =>
      cases t2 : decide (who < (12 : Int)) with
      | false =>
        have hvl : voteL xs who true = xs := voteL_no (by simp [inR, t1, t2])
        obtain ⟨⟨s4, g40, g41, f40, f41⟩, ⟨s5, g5⟩, _⟩ := HV1.out.1.cells
        have HV := HV1
        go_upto_region 9 with fail
        clear s4 g40 g41 f40 f41 s5 g5 HV1 HOW HZ HB0 HS0 HS
        have hvs := HV.out.2.1
        obtain ⟨p2, c2, hv2, _, _⟩ := id hvs
        try subst hv2
        obtain ⟨⟨s4, g40, g41, _, _⟩, _, za, zb, s8, g80, g81, f80, f81⟩ := HV.out.1.cells
        have HVL := Lib.hid hvl
        have HVO := Lib.hid (fun a b => HV.out.done (a := a) (b := b))
        clear hvl hvs
        cases no with
        | true =>
          go_wp2_with fail
          go_region
          go_wp2
          (try simp only [Exit.inBlock, Exit.then])
          refine bodyPost_ret (v := .tuple #[.agg #[.slice p1 xs.length c1, .bool true], .bool false]) (by rw [results_cell_tmp rfl]; go_simp) rfl ?_
          refine ⟨.slice p1 xs.length c1, by rw [HVL.out]; simp, ?_⟩
          rw [HVL.out]
          exact HVO.out _ _
        | false =>
          cases hn : decide (need ≤ (xs.length : Int)) with
          | true =>
            go_wp2_with fail
            go_region
            go_wp2
            (try simp only [Exit.inBlock, Exit.then])
            refine bodyPost_ret (v := .tuple #[.agg #[.slice p1 xs.length c1, .bool false], .bool true]) (by rw [results_cell_tmp rfl]; go_simp) rfl ?_
            refine ⟨.slice p1 xs.length c1, by rw [HVL.out]; simp [hn], ?_⟩
            rw [HVL.out]
            exact HVO.out _ _
          | false =>
            go_wp2_with fail
            go_region
            go_wp2
            (try simp only [Exit.inBlock, Exit.then])
            refine bodyPost_ret (v := .tuple #[.agg #[.slice p1 xs.length c1, .bool false], .bool false]) (by rw [results_cell_tmp rfl]; go_simp) rfl ?_
            refine ⟨.slice p1 xs.length c1, by rw [HVL.out]; simp [hn], ?_⟩
            rw [HVL.out]
            exact HVO.out _ _
      | true =>
        obtain ⟨⟨s4, g40, g41, f40, f41⟩, ⟨s5, g5⟩, _⟩ := HV1.out.1.cells
        go_wp2_with fail
        refine (gateHas who _ no xs W1 HV1.out.2.1 (by omega)).mono ?_
        rintro e w2 ⟨rfl, hb2⟩
        have HV2 := Lib.hid (HV1.out.next hb2)
        have HOW2 := Lib.hid (owns_below HOW.out hb2)
        have HZ2 := Lib.hid (show W0.heap.size ≤ w2.heap.size ∧ w.heap.size + 2 < W0.heap.size from ⟨Nat.le_trans HZ.out.1 hb2.size, HZ.out.2⟩)
        clear s4 g40 g41 f40 f41 s5 g5 hb2 HV1 HOW HZ HB0 HS0 HS
        cases t3 : (xs.any fun y => who == y) with
        | true =>
          have hvl : voteL xs who true = xs := voteL_no (by simp [inR, t1, t2, t3])
          have HV := HV2
          go_upto_region 9 with fail
          have hvs := HV.out.2.1
          obtain ⟨p2, c2, hv2, _, _⟩ := id hvs
          try subst hv2
          obtain ⟨⟨s4, g40, g41, _, _⟩, _, za, zb, s8, g80, g81, f80, f81⟩ := HV.out.1.cells
          have HVL := Lib.hid hvl
          have HVO := Lib.hid (fun a b => HV.out.done (a := a) (b := b))
          clear hvl hvs
          cases no with
          | true =>
            go_wp2_with fail
            go_region
            go_wp2
            (try simp only [Exit.inBlock, Exit.then])
            refine bodyPost_ret (v := .tuple #[.agg #[.slice p1 xs.length c1, .bool true], .bool false]) (by rw [results_cell_tmp rfl]; go_simp) rfl ?_
            refine ⟨.slice p1 xs.length c1, by rw [HVL.out]; simp, ?_⟩
            rw [HVL.out]
            exact HVO.out _ _
          | false =>
            cases hn : decide (need ≤ (xs.length : Int)) with
            | true =>
              go_wp2_with fail
              go_region
              go_wp2
              (try simp only [Exit.inBlock, Exit.then])
              refine bodyPost_ret (v := .tuple #[.agg #[.slice p1 xs.length c1, .bool false], .bool true]) (by rw [results_cell_tmp rfl]; go_simp) rfl ?_
              refine ⟨.slice p1 xs.length c1, by rw [HVL.out]; simp [hn], ?_⟩
              rw [HVL.out]
              exact HVO.out _ _
            | false =>
              go_wp2_with fail
              go_region
              go_wp2
              (try simp only [Exit.inBlock, Exit.then])
              refine bodyPost_ret (v := .tuple #[.agg #[.slice p1 xs.length c1, .bool false], .bool false]) (by rw [results_cell_tmp rfl]; go_simp) rfl ?_
              refine ⟨.slice p1 xs.length c1, by rw [HVL.out]; simp [hn], ?_⟩
              rw [HVL.out]
              exact HVO.out _ _
        | false =>
          have hvl : voteL xs who true = insL xs (posL xs who) who := voteL_yes (by simp [inR, t1, t2, t3])
          clear t1 t2 t3
          obtain ⟨⟨s4, g40, g41, f40, f41⟩, ⟨s5, g5⟩, _⟩ := HV2.out.1.cells
          have hpos : ∀ r : Int, idxI (fun k => decide (who < k)) xs = r → (decide (r < 0) = true → posL xs who = xs.length) ∧ (decide (r < 0) = false → r = (posL xs who : Int)) := by
            intro r hr
            unfold idxI at hr
            unfold posL
            cases hf : xs.findIdx? (fun k => decide (who < k)) with
            | none => rw [hf] at hr; simp only at hr ⊢; subst hr; exact ⟨fun _ => by simp, fun h => by simp at h⟩
            | some i => rw [hf] at hr; simp only at hr ⊢; subst hr; exact ⟨fun h => by simp at h; omega, fun _ => by simp⟩
          have HP := Lib.hid hpos
          clear hpos
          go_wp2_with fail
          refine (idxFuncI (fun k => decide (who < k)) 122 #[.pointer (some ⟨w.heap.size + 1, 0, none⟩)] eg79 _ xs w2 HV2.out.2.1 (by omega) (pred79 _ who w2 s5 g5)).mono ?_
          rintro e w3 ⟨rfl, hb3⟩
          have HV3 := Lib.hid (HV2.out.next hb3)
          have HOW3 := Lib.hid (owns_below HOW2.out hb3)
          have HZ3 := Lib.hid (show W0.heap.size ≤ w3.heap.size ∧ w.heap.size + 2 < W0.heap.size from ⟨Nat.le_trans HZ2.out.1 hb3.size, HZ2.out.2⟩)
          clear s4 g40 g41 f40 f41 s5 g5 hb3 HV2 HOW2 HZ2
          generalize hr : idxI (fun k => decide (who < k)) xs = r
          have hrp := HP.out r hr
          clear hr HP
          obtain ⟨⟨s4, g40, g41, f40, f41⟩, ⟨s5, g5⟩, _⟩ := HV3.out.1.cells
          go_upto_if 37 with fail
          generalize decide (r < 0) = tb at hrp ⊢
          go_cut [10] (fun s10 wx => s10 = .int .i64 (posL xs who : Int) ∧ wx = w3)
          case first =>
            cases tb with
            | true =>
              have he := hrp.1 rfl
              go_wp2_with fail
              go_meet
              case rel => exact ⟨by first | rfl | (rw [he]), rfl⟩
            | false =>
              have he := hrp.2 rfl
              go_wp2_with fail
              go_meet
              case rel => exact ⟨by first | rfl | (rw [he]), rfl⟩
          case rest =>
            obtain ⟨rfl, rfl⟩ := hcut
            clear hrp
            have hp9 := posL_le xs who
            have HPL := Lib.hid (show posL xs who = posL xs who from rfl)
            generalize hpp : posL xs who = pos at hvl hp9
            clear hpp HPL
            go_wp2_with fail
            have h80 := insertI W0.heap.size (.slice p1 xs.length c1) xs pos who wc.heap.size (wc.alloc (.cells #[.int .i64 who] 3)) (owns_below HOW3.out (below1 _ _)) (Nat.le_trans HZ3.out.1 (below1 _ _).size) hp9 (by omega) (alloc_atG _ _) (fun e => by
              have := owns_lt HOW3.out e
              omega)
            refine h80.mono ?_
            rintro e w4 ⟨v4, rfl, hS4, hb4, ho4⟩
            obtain ⟨p4, c4, rfl, _, _⟩ := id hS4
            have hbx := (HV3.out.1.next (below1 wc (.cells #[.int .i64 who] 3)) HV3.out.1.2.1).next hb4 HZ3.out.2
            have ho5 : ∀ k, (Value.slice p4 (insL xs pos who).length c4).ownBlock = some k → w.heap.size + 2 < k := fun k hk => by have := ho4 k hk; have := HZ3.out.2; omega
            have HV := Lib.hid (show VoteAt w (w4.setCell ⟨w.heap.size, 0, none⟩ (.slice p4 (insL xs pos who).length c4)) (.slice p4 (insL xs pos who).length c4) no who (insL xs pos who) from ⟨hbx.setV, hS4.set _ _ (fun e => by have := ho5 _ e; omega), ho5⟩)
            clear s4 g40 g41 f40 f41 s5 g5 h80
            obtain ⟨⟨s4, g40, g41, f40, f41⟩, _, _⟩ := hbx.cells
            clear hbx hb4 hS4 ho4 HV3 HOW3 HZ3
            generalize insL xs pos who = ys at HV hvl ho5 ⊢
            go_upto_region 9 with fail
            generalize w4.setCell ⟨w.heap.size, 0, none⟩ (.slice p4 ys.length c4) = W5 at HV ⊢
            clear s4 g40 g41 f40 f41
            have hvs := HV.out.2.1
            obtain ⟨p2, c2, hv2, _, _⟩ := id hvs
            try subst hv2
            obtain ⟨⟨s4, g40, g41, _, _⟩, _, za, zb, s8, g80, g81, f80, f81⟩ := HV.out.1.cells
            have HVL := Lib.hid hvl
            have HVO := Lib.hid (fun a b => HV.out.done (a := a) (b := b))
            clear hvl hvs
            cases no with
            | true =>
              go_wp2_with fail
              go_region
              go_wp2
              (try simp only [Exit.inBlock, Exit.then])
              refine bodyPost_ret (v := .tuple #[.agg #[.slice p4 ys.length c4, .bool true], .bool false]) (by rw [results_cell_tmp rfl]; go_simp) rfl ?_
              refine ⟨.slice p4 ys.length c4, by rw [HVL.out]; simp, ?_⟩
              rw [HVL.out]
              exact HVO.out _ _
            | false =>
              cases hn : decide (need ≤ (ys.length : Int)) with
              | true =>
                go_wp2_with fail
                go_region
                go_wp2
                (try simp only [Exit.inBlock, Exit.then])
                refine bodyPost_ret (v := .tuple #[.agg #[.slice p4 ys.length c4, .bool false], .bool true]) (by rw [results_cell_tmp rfl]; go_simp) rfl ?_
                refine ⟨.slice p4 ys.length c4, by rw [HVL.out]; simp [hn], ?_⟩
                rw [HVL.out]
                exact HVO.out _ _
              | false =>
                go_wp2_with fail
                go_region
                go_wp2
                (try simp only [Exit.inBlock, Exit.then])
                refine bodyPost_ret (v := .tuple #[.agg #[.slice p4 ys.length c4, .bool false], .bool false]) (by rw [results_cell_tmp rfl]; go_simp) rfl ?_
                refine ⟨.slice p4 ys.length c4, by rw [HVL.out]; simp [hn], ?_⟩
                rw [HVL.out]
                exact HVO.out _ _
end Go.Proofs.YtbbcicengfmhiaaDoor

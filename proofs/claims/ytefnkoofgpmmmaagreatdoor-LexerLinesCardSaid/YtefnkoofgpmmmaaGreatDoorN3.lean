/- gate.Vote. Conditions: the list is short. gate.Right, gate.Over, the statements' own awake of layer 12. No condition. lockageref12.Right. Conditions: sizes. -/
import Derived.Test.YtefnkoofgpmmmaaGreatDoorGat2
import Derived.Deep.DeepCutAuto
import Derived.Laws.ResultCell
namespace Go.Proofs.YtefnkoofgpmmmaaGreatDoor
open Go.RowKit

theorem owns_keptI {w w' : World} {base : Nat} {e : TypeId} {size : Nat} {v : Value} {n : Nat} {xs : List Value} (h : w.ownsRow base e size v n xs) (hk : ∀ k, v.ownBlock = some k → w'.heap[k]? = w.heap[k]?) : w'.ownsRow base e size v n xs := by
  obtain ⟨h1, h2⟩ := h
  refine ⟨h1, ?_⟩
  rcases h2 with h2 | ⟨g, cap, cur, rfl, hg, hh, hr⟩
  · exact .inl h2
  · exact .inr ⟨g, cap, cur, rfl, hg, (hk g (by simp [Value.ownBlock])).trans hh, hr⟩
/-- how a vote stands ahead of its answer -/
def VoteAt (w wr : World) (v : Value) (no : Bool) (who : Int) (ys : List Int) : Prop :=
  BoxV w wr v no who ∧ SlAt 1 encI wr v ys ∧ ∀ k, v.ownBlock = some k → w.heap.size + 2 < k
def VotePost (xs : List Int) (no : Bool) (who : Int) (yes : Bool) (need : Int) (w : World) (e : Ending) (w' : World) : Prop :=
  ∃ v', e = .returned (.tuple #[.agg #[v', .bool (no || !yes)], .bool (!(no || !yes) && decide (need ≤ ((voteL xs who yes).length : Int)))]) ∧ SlAt 1 encI w' v' (voteL xs who yes) ∧ Below w.heap.size w w' ∧ ∀ k, v'.ownBlock = some k → w.heap.size ≤ k
theorem voteL_no {xs : List Int} {who : Int} {yes : Bool} (h : (yes && (inR 12 who && !xs.any fun y => who == y)) = false) : voteL xs who yes = xs := by unfold voteL; rw [h]; rfl
theorem voteL_yes {xs : List Int} {who : Int} {yes : Bool} (h : (yes && (inR 12 who && !xs.any fun y => who == y)) = true) : voteL xs who yes = insL xs (posL xs who) who := by unfold voteL; rw [h]; rfl

theorem alloc_atG (w : World) (A : Obj) : (w.alloc A).heap[w.heap.size]? = some A := (MapKept.heap_alloc w _).1
theorem BoxV.mk (w : World) (v : Value) (no : Bool) (who : Int) (a b : Value) : BoxV w (((w.alloc (.cells #[v, .bool no] 221)).alloc (.cells #[.int .i64 who] 3)).alloc (.cells #[a, b] 221)) v no who := by
  have e0 := alloc_atG w (.cells #[v, .bool no] 221)
  have e1 := alloc_atG (w.alloc (.cells #[v, .bool no] 221)) (.cells #[.int .i64 who] 3)
  have e2 := alloc_atG ((w.alloc (.cells #[v, .bool no] 221)).alloc (.cells #[.int .i64 who] 3)) (.cells #[a, b] 221)
  have s1 : (w.alloc (.cells #[v, .bool no] 221)).heap.size = w.heap.size + 1 := by simp
  have s2 : ((w.alloc (.cells #[v, .bool no] 221)).alloc (.cells #[.int .i64 who] 3)).heap.size = w.heap.size + 2 := by simp
  rw [s1] at e1
  rw [s2] at e2
  refine ⟨below3 _ _ _ _, by simp, ?_, ?_, a, b, e2⟩
  · exact ((below2 (w.alloc (.cells #[v, .bool no] 221)) _ _).block _ (by omega)).trans e0
  · exact ((below1 _ (.cells #[a, b] 221)).block _ (by omega)).trans e1
theorem BoxV.cells {w wr : World} {v : Value} {no : Bool} {who : Int} (h : BoxV w wr v no who) :
    (w.heap.size < wr.heap.size ∧ wr.cell? ⟨w.heap.size, 0, none⟩ = some v ∧ wr.cell? ⟨w.heap.size, 1, none⟩ = some (.bool no) ∧ wr.frozen? ⟨w.heap.size, 0, none⟩ = false ∧ wr.frozen? ⟨w.heap.size, 1, none⟩ = false) ∧
    (w.heap.size + 1 < wr.heap.size ∧ wr.cell? ⟨w.heap.size + 1, 0, none⟩ = some (.int .i64 who)) ∧
    ∃ a b, w.heap.size + 1 + 1 < wr.heap.size ∧ wr.cell? ⟨w.heap.size + 1 + 1, 0, none⟩ = some a ∧ wr.cell? ⟨w.heap.size + 1 + 1, 1, none⟩ = some b ∧ wr.frozen? ⟨w.heap.size + 1 + 1, 0, none⟩ = false ∧ wr.frozen? ⟨w.heap.size + 1 + 1, 1, none⟩ = false := by
  obtain ⟨h1, h2, h3, h4, a, b, h5⟩ := h
  exact ⟨⟨by omega, by rw [Lib.cell_of_heap h3]; rfl, by rw [Lib.cell_of_heap h3]; rfl, Lib.frozen_of_heap h3 0, Lib.frozen_of_heap h3 1⟩, ⟨by omega, by rw [Lib.cell_of_heap h4]; rfl⟩,
    a, b, by omega, by rw [Lib.cell_of_heap h5]; rfl, by rw [Lib.cell_of_heap h5]; rfl, Lib.frozen_of_heap h5 0, Lib.frozen_of_heap h5 1⟩
theorem VoteAt.setV {w wr : World} {v v' : Value} {no : Bool} {who : Int} {xs ys : List Int} (h : VoteAt w wr v no who xs) (hS : SlAt 1 encI wr v' ys) (ho : ∀ k, v'.ownBlock = some k → w.heap.size + 2 < k) : VoteAt w (wr.setCell ⟨w.heap.size, 0, none⟩ v') v' no who ys :=
  ⟨h.1.setV, hS.set _ _ (fun e => by have := ho _ e; omega), ho⟩
theorem VoteAt.setNo {w wr : World} {v : Value} {no : Bool} (no' : Bool) {who : Int} {xs : List Int} (h : VoteAt w wr v no who xs) : VoteAt w (wr.setCell ⟨w.heap.size, 1, none⟩ (.bool no')) v no' who xs :=
  ⟨h.1.setNo, h.2.1.set _ _ (fun e => by have := h.2.2 _ e; omega), h.2.2⟩
theorem VoteAt.next {w wr w2 : World} {v : Value} {no : Bool} {who : Int} {xs : List Int} (h : VoteAt w wr v no who xs) (hb : Below wr.heap.size wr w2) : VoteAt w w2 v no who xs :=
  ⟨h.1.next hb h.1.2.1, h.2.1.below hb, h.2.2⟩
theorem owns_lt {w : World} {base : Nat} {e : TypeId} {size : Nat} {v : Value} {n : Nat} {xs : List Value} (h : w.ownsRow base e size v n xs) {k : Nat} (hk : v.ownBlock = some k) : k < w.heap.size := by
  rcases h.2 with ⟨rfl, _⟩ | ⟨g, cap, cur, rfl, _, hh, _⟩
  · simp [Value.ownBlock] at hk
  · simp [Value.ownBlock] at hk
    subst hk
    exact (Array.getElem?_eq_some_iff.1 hh).1
/-- the answer is laid -/
theorem VoteAt.done {w wr : World} {v a b : Value} {no : Bool} {who : Int} {ys : List Int} (h : VoteAt w wr v no who ys) : SlAt 1 encI ((wr.setCell ⟨w.heap.size + 1 + 1, 0, none⟩ a).setCell ⟨w.heap.size + 1 + 1, 1, none⟩ b).drew v ys ∧ Below w.heap.size w ((wr.setCell ⟨w.heap.size + 1 + 1, 0, none⟩ a).setCell ⟨w.heap.size + 1 + 1, 1, none⟩ b).drew ∧ ∀ k, v.ownBlock = some k → w.heap.size ≤ k := by
  have hne : v.ownBlock ≠ some (w.heap.size + 1 + 1) := fun e => by have := h.2.2 _ e; omega
  refine ⟨((h.2.1.set _ _ hne).set _ _ hne).below (Below.refl _ _).drew, ?_, fun k hk => by have := h.2.2 k hk; omega⟩
  exact (((h.1.1).setCell (p := ⟨w.heap.size + 1 + 1, 0, none⟩) (by show w.heap.size ≤ w.heap.size + 1 + 1; omega) _).setCell (p := ⟨w.heap.size + 1 + 1, 1, none⟩) (by show w.heap.size ≤ w.heap.size + 1 + 1; omega) _).drew

set_option maxRecDepth 100000 in
set_option maxHeartbeats 4000000 in
theorem gateVote (v : Value) (no : Bool) (xs : List Int) (who : Int) (yes : Bool) (need : Int) (w : World) (hS : SlAt 1 encI w v xs) (hlen : xs.length ≤ 900) :
    Calls Tryz.prog 228 #[.agg #[v, .bool no], .int .i64 who, .bool yes, .int .i64 need] w (VotePost xs no who yes need w) := by
  have HS := Lib.hid hS
  obtain ⟨p, c, rfl, _, _⟩ := id hS
  clear hS
  go_enter Tryz.func228, Tryz.ntmps228
  go_upto_region 1 with fail
  have hbx := BoxV.mk w (.slice p xs.length c) no who (.slice none 0 0) (.bool false)
  have HB0 := Lib.hid hbx
  have HS0 := Lib.hid (HS.out.below hbx.1)
  clear hbx
  generalize (((w.alloc (.cells #[.slice p xs.length c, .bool no] 221)).alloc (.cells #[.int .i64 who] 3)).alloc (.cells #[.slice none 0 0, .bool false] 221)) = W0 at HB0 HS0 ⊢
  obtain ⟨⟨s4, g40, g41, f40, f41⟩, _, _⟩ := HB0.out.cells
  go_wp2_with fail
  refine (cloneI _ xs W0 HS0.out (by omega)).mono ?_
  rintro e w1 ⟨v1, rfl, hown, hb1⟩
  obtain ⟨p1, c1, rfl, _, _⟩ := SlAt.of_owns (enc := encI) (fun _ => rfl) hown
  have hbx := HB0.out.next hb1 HB0.out.2.1
  have hvo : ∀ k, (Value.slice p1 xs.length c1).ownBlock = some k → w.heap.size + 2 < k := fun k hk => by
    have h1 := owns_block hown k hk
    have h2 := HB0.out.2.1
    omega
  have HV1 := Lib.hid (show VoteAt w (w1.setCell ⟨w.heap.size, 0, none⟩ (.slice p1 xs.length c1)) (.slice p1 xs.length c1) no who xs from ⟨hbx.setV, (SlAt.of_owns (enc := encI) (fun _ => rfl) hown).set _ _ (fun e => by have := hvo _ e; omega), hvo⟩)
  have HOW := Lib.hid (owns_keptI (w' := w1.setCell ⟨w.heap.size, 0, none⟩ (.slice p1 xs.length c1)) hown (fun k hk => Below.heap_setCell _ _ _ _ (show k ≠ w.heap.size by have := hvo k hk; omega)))
  have HZ := Lib.hid (show W0.heap.size ≤ (w1.setCell ⟨w.heap.size, 0, none⟩ (.slice p1 xs.length c1)).heap.size ∧ w.heap.size + 2 < W0.heap.size by have := hb1.size; have := HB0.out.2.1; simp; omega)
  obtain ⟨⟨s4', g40', g41', f40', f41'⟩, _, _⟩ := hbx.cells
  clear s4 g40 g41 f40 f41 hown hb1
  go_upto_region 2 with fail
  generalize w1.setCell ⟨w.heap.size, 0, none⟩ (.slice p1 xs.length c1) = W1 at HV1 HOW HZ ⊢
  clear s4' g40' g41' f40' f41' hbx
  cases yes with
  | false =>
    have hvl : voteL xs who false = xs := rfl
    obtain ⟨⟨s4, g40, g41, f40, f41⟩, _, _⟩ := HV1.out.1.cells
    have HV := Lib.hid (HV1.out.setNo true)
    go_upto_region 9 with fail
    generalize W1.setCell ⟨w.heap.size, 1, none⟩ (.bool true) = W2 at HV ⊢
    clear s4 g40 g41 f40 f41 HV1 HOW HZ HB0 HS0 HS
    have hvs := HV.out.2.1
    obtain ⟨p2, c2, hv2, _, _⟩ := id hvs
    try subst hv2
    obtain ⟨⟨s4, g40, g41, _, _⟩, _, za, zb, s8, g80, g81, f80, f81⟩ := HV.out.1.cells
    have HVL := Lib.hid hvl
    have HVO := Lib.hid (fun a b => HV.out.done (a := a) (b := b))
    clear hvl hvs
    go_wp2_with fail
    go_region
    go_wp2
    (try simp only [Exit.inBlock, Exit.then])
    refine bodyPost_ret (v := .tuple #[.agg #[.slice p1 xs.length c1, .bool true], .bool false]) (by rw [results_cell_tmp rfl]; go_simp) rfl ?_
    refine ⟨.slice p1 xs.length c1, by rw [HVL.out]; simp, ?_⟩
    rw [HVL.out]
    exact HVO.out _ _
  | true =>
    cases t1 : decide ((0 : Int) ≤ who) with
    | false =>
      have hvl : voteL xs who true = xs := voteL_no (by simp [inR, t1])
      obtain ⟨⟨s4, g40, g41, f40, f41⟩, ⟨s5, g5⟩, _⟩ := HV1.out.1.cells
      have HV := HV1
      go_upto_region 9 with fail
      clear s4 g40 g41 f40 f41 s5 g5 HV1 HOW HZ HB0 HS0 HS
      have hvs := HV.out.2.1
      obtain ⟨p2, c2, hv2, _, _⟩ := id hvs
      try subst hv2
      obtain ⟨⟨s4, g40, g41, _, _⟩, _, za, zb, s8, g80, g81, f80, f81⟩ := HV.out.1.cells
      have HVL := Lib.hid hvl
      have HVO := Lib.hid (fun a b => HV.out.done (a := a) (b := b))
      clear hvl hvs
      cases no with
      | true =>
        go_wp2_with fail
        go_region
        go_wp2
        (try simp only [Exit.inBlock, Exit.then])
        refine bodyPost_ret (v := .tuple #[.agg #[.slice p1 xs.length c1, .bool true], .bool false]) (by rw [results_cell_tmp rfl]; go_simp) rfl ?_
        refine ⟨.slice p1 xs.length c1, by rw [HVL.out]; simp, ?_⟩
        rw [HVL.out]
        exact HVO.out _ _
      | false =>
        cases hn : decide (need ≤ (xs.length : Int)) with
        | true =>
          go_wp2_with fail
          go_region
          go_wp2
          (try simp only [Exit.inBlock, Exit.then])
          refine bodyPost_ret (v := .tuple #[.agg #[.slice p1 xs.length c1, .bool false], .bool true]) (by rw [results_cell_tmp rfl]; go_simp) rfl ?_
          refine ⟨.slice p1 xs.length c1, by rw [HVL.out]; simp [hn], ?_⟩
          rw [HVL.out]
          exact HVO.out _ _
        | false =>
          go_wp2_with fail
          go_region
          go_wp2
          (try simp only [Exit.inBlock, Exit.then])
          refine bodyPost_ret (v := .tuple #[.agg #[.slice p1 xs.length c1, .bool false], .bool false]) (by rw [results_cell_tmp rfl]; go_simp) rfl ?_
          refine ⟨.slice p1 xs.length c1, by rw [HVL.out]; simp [hn], ?_⟩
          rw [HVL.out]
          exact HVO.out _ _
    | true =>
      cases t2 : decide (who < (12 : Int)) with
      | false =>
        have hvl : voteL xs who true = xs := voteL_no (by simp [inR, t1, t2])
        obtain ⟨⟨s4, g40, g41, f40, f41⟩, ⟨s5, g5⟩, _⟩ := HV1.out.1.cells
        have HV := HV1
        go_upto_region 9 with fail
        clear s4 g40 g41 f40 f41 s5 g5 HV1 HOW HZ HB0 HS0 HS
        have hvs := HV.out.2.1
        obtain ⟨p2, c2, hv2, _, _⟩ := id hvs
        try subst hv2
        obtain ⟨⟨s4, g40, g41, _, _⟩, _, za, zb, s8, g80, g81, f80, f81⟩ := HV.out.1.cells
        have HVL := Lib.hid hvl
        have HVO := Lib.hid (fun a b => HV.out.done (a := a) (b := b))
        clear hvl hvs
        cases no with
        | true =>
          go_wp2_with fail
          go_region
          go_wp2
          (try simp only [Exit.inBlock, Exit.then])
          refine bodyPost_ret (v := .tuple #[.agg #[.slice p1 xs.length c1, .bool true], .bool false]) (by rw [results_cell_tmp rfl]; go_simp) rfl ?_
          refine ⟨.slice p1 xs.length c1, by rw [HVL.out]; simp, ?_⟩
          rw [HVL.out]
          exact HVO.out _ _
        | false =>
          cases hn : decide (need ≤ (xs.length : Int)) with
          | true =>
            go_wp2_with fail
            go_region
            go_wp2
            (try simp only [Exit.inBlock, Exit.then])
            refine bodyPost_ret (v := .tuple #[.agg #[.slice p1 xs.length c1, .bool false], .bool true]) (by rw [results_cell_tmp rfl]; go_simp) rfl ?_
            refine ⟨.slice p1 xs.length c1, by rw [HVL.out]; simp [hn], ?_⟩
            rw [HVL.out]
            exact HVO.out _ _
          | false =>
            go_wp2_with fail
            go_region
            go_wp2
            (try simp only [Exit.inBlock, Exit.then])
            refine bodyPost_ret (v := .tuple #[.agg #[.slice p1 xs.length c1, .bool false], .bool false]) (by rw [results_cell_tmp rfl]; go_simp) rfl ?_
            refine ⟨.slice p1 xs.length c1, by rw [HVL.out]; simp [hn], ?_⟩
            rw [HVL.out]
            exact HVO.out _ _
      | true =>
        obtain ⟨⟨s4, g40, g41, f40, f41⟩, ⟨s5, g5⟩, _⟩ := HV1.out.1.cells
        go_wp2_with fail
        refine (gateHas who _ no xs W1 HV1.out.2.1 (by omega)).mono ?_
        rintro e w2 ⟨rfl, hb2⟩
        have HV2 := Lib.hid (HV1.out.next hb2)
        have HOW2 := Lib.hid (owns_below HOW.out hb2)
        have HZ2 := Lib.hid (show W0.heap.size ≤ w2.heap.size ∧ w.heap.size + 2 < W0.heap.size from ⟨Nat.le_trans HZ.out.1 hb2.size, HZ.out.2⟩)
        clear s4 g40 g41 f40 f41 s5 g5 hb2 HV1 HOW HZ HB0 HS0 HS
        cases t3 : (xs.any fun y => who == y) with
        | true =>
          have hvl : voteL xs who true = xs := voteL_no (by simp [inR, t1, t2, t3])
          have HV := HV2
          go_upto_region 9 with fail
          have hvs := HV.out.2.1
          obtain ⟨p2, c2, hv2, _, _⟩ := id hvs
          try subst hv2
          obtain ⟨⟨s4, g40, g41, _, _⟩, _, za, zb, s8, g80, g81, f80, f81⟩ := HV.out.1.cells
          have HVL := Lib.hid hvl
          have HVO := Lib.hid (fun a b => HV.out.done (a := a) (b := b))
          clear hvl hvs
          cases no with
          | true =>
            go_wp2_with fail
            go_region
            go_wp2
            (try simp only [Exit.inBlock, Exit.then])
            refine bodyPost_ret (v := .tuple #[.agg #[.slice p1 xs.length c1, .bool true], .bool false]) (by rw [results_cell_tmp rfl]; go_simp) rfl ?_
            refine ⟨.slice p1 xs.length c1, by rw [HVL.out]; simp, ?_⟩
            rw [HVL.out]
            exact HVO.out _ _
          | false =>
            cases hn : decide (need ≤ (xs.length : Int)) with
            | true =>
              go_wp2_with fail
              go_region
              go_wp2
              (try simp only [Exit.inBlock, Exit.then])
              refine bodyPost_ret (v := .tuple #[.agg #[.slice p1 xs.length c1, .bool false], .bool true]) (by rw [results_cell_tmp rfl]; go_simp) rfl ?_
              refine ⟨.slice p1 xs.length c1, by rw [HVL.out]; simp [hn], ?_⟩
              rw [HVL.out]
              exact HVO.out _ _
            | false =>
              go_wp2_with fail
              go_region
              go_wp2
              (try simp only [Exit.inBlock, Exit.then])
              refine bodyPost_ret (v := .tuple #[.agg #[.slice p1 xs.length c1, .bool false], .bool false]) (by rw [results_cell_tmp rfl]; go_simp) rfl ?_
              refine ⟨.slice p1 xs.length c1, by rw [HVL.out]; simp [hn], ?_⟩
              rw [HVL.out]
              exact HVO.out _ _
        | false =>
          have hvl : voteL xs who true = insL xs (posL xs who) who := voteL_yes (by simp [inR, t1, t2, t3])
          clear t1 t2 t3
          obtain ⟨⟨s4, g40, g41, f40, f41⟩, ⟨s5, g5⟩, _⟩ := HV2.out.1.cells
          have hpos : ∀ r : Int, idxI (fun k => decide (who < k)) xs = r → (decide (r < 0) = true → posL xs who = xs.length) ∧ (decide (r < 0) = false → r = (posL xs who : Int)) := by
            intro r hr
            unfold idxI at hr
            unfold posL
            cases hf : xs.findIdx? (fun k => decide (who < k)) with
            | none => rw [hf] at hr; simp only at hr ⊢; subst hr; exact ⟨fun _ => by simp, fun h => by simp at h⟩
            | some i => rw [hf] at hr; simp only at hr ⊢; subst hr; exact ⟨fun h => by simp at h; omega, fun _ => by simp⟩
          have HP := Lib.hid hpos
          clear hpos
          go_wp2_with fail
          refine (idxFuncI (fun k => decide (who < k)) 253 #[.pointer (some ⟨w.heap.size + 1, 0, none⟩)] eg79 _ xs w2 HV2.out.2.1 (by omega) (pred79 _ who w2 s5 g5)).mono ?_
          rintro e w3 ⟨rfl, hb3⟩
          have HV3 := Lib.hid (HV2.out.next hb3)
          have HOW3 := Lib.hid (owns_below HOW2.out hb3)
          have HZ3 := Lib.hid (show W0.heap.size ≤ w3.heap.size ∧ w.heap.size + 2 < W0.heap.size from ⟨Nat.le_trans HZ2.out.1 hb3.size, HZ2.out.2⟩)
          clear s4 g40 g41 f40 f41 s5 g5 hb3 HV2 HOW2 HZ2
          generalize hr : idxI (fun k => decide (who < k)) xs = r
          have hrp := HP.out r hr
          clear hr HP
          obtain ⟨⟨s4, g40, g41, f40, f41⟩, ⟨s5, g5⟩, _⟩ := HV3.out.1.cells
          go_upto_if 37 with fail
          generalize decide (r < 0) = tb at hrp ⊢
          go_cut [10] (fun s10 wx => s10 = .int .i64 (posL xs who : Int) ∧ wx = w3)
          case first =>
            cases tb with
            | true =>
              have he := hrp.1 rfl
              go_wp2_with fail
              go_meet
              case rel => exact ⟨by first | rfl | (rw [he]), rfl⟩
            | false =>
              have he := hrp.2 rfl
              go_wp2_with fail
              go_meet
              case rel => exact ⟨by first | rfl | (rw [he]), rfl⟩
          case rest =>
            obtain ⟨rfl, rfl⟩ := hcut
            clear hrp
            have hp9 := posL_le xs who
            have HPL := Lib.hid (show posL xs who = posL xs who from rfl)
            generalize hpp : posL xs who = pos at hvl hp9
            clear hpp HPL
            go_wp2_with fail
            have h80 := insertI W0.heap.size (.slice p1 xs.length c1) xs pos who wc.heap.size (wc.alloc (.cells #[.int .i64 who] 3)) (owns_below HOW3.out (below1 _ _)) (Nat.le_trans HZ3.out.1 (below1 _ _).size) hp9 (by omega) (alloc_atG _ _) (fun e => by
              have := owns_lt HOW3.out e
              omega)
            refine h80.mono ?_
            rintro e w4 ⟨v4, rfl, hS4, hb4, ho4⟩
            obtain ⟨p4, c4, rfl, _, _⟩ := id hS4
            have hbx := (HV3.out.1.next (below1 wc (.cells #[.int .i64 who] 3)) HV3.out.1.2.1).next hb4 HZ3.out.2
            have ho5 : ∀ k, (Value.slice p4 (insL xs pos who).length c4).ownBlock = some k → w.heap.size + 2 < k := fun k hk => by have := ho4 k hk; have := HZ3.out.2; omega
            have HV := Lib.hid (show VoteAt w (w4.setCell ⟨w.heap.size, 0, none⟩ (.slice p4 (insL xs pos who).length c4)) (.slice p4 (insL xs pos who).length c4) no who (insL xs pos who) from ⟨hbx.setV, hS4.set _ _ (fun e => by have := ho5 _ e; omega), ho5⟩)
            clear s4 g40 g41 f40 f41 s5 g5 h80
            obtain ⟨⟨s4, g40, g41, f40, f41⟩, _, _⟩ := hbx.cells
            clear hbx hb4 hS4 ho4 HV3 HOW3 HZ3
            generalize insL xs pos who = ys at HV hvl ho5 ⊢
            go_upto_region 9 with fail
            generalize w4.setCell ⟨w.heap.size, 0, none⟩ (.slice p4 ys.length c4) = W5 at HV ⊢
            clear s4 g40 g41 f40 f41
            have hvs := HV.out.2.1
            obtain ⟨p2, c2, hv2, _, _⟩ := id hvs
            try subst hv2
            obtain ⟨⟨s4, g40, g41, _, _⟩, _, za, zb, s8, g80, g81, f80, f81⟩ := HV.out.1.cells
            have HVL := Lib.hid hvl
            have HVO := Lib.hid (fun a b => HV.out.done (a := a) (b := b))
            clear hvl hvs
            cases no with
            | true =>
              go_wp2_with fail
              go_region
              go_wp2
              (try simp only [Exit.inBlock, Exit.then])
              refine bodyPost_ret (v := .tuple #[.agg #[.slice p4 ys.length c4, .bool true], .bool false]) (by rw [results_cell_tmp rfl]; go_simp) rfl ?_
              refine ⟨.slice p4 ys.length c4, by rw [HVL.out]; simp, ?_⟩
              rw [HVL.out]
              exact HVO.out _ _
            | false =>
              cases hn : decide (need ≤ (ys.length : Int)) with
              | true =>
                go_wp2_with fail
                go_region
                go_wp2
                (try simp only [Exit.inBlock, Exit.then])
                refine bodyPost_ret (v := .tuple #[.agg #[.slice p4 ys.length c4, .bool false], .bool true]) (by rw [results_cell_tmp rfl]; go_simp) rfl ?_
                refine ⟨.slice p4 ys.length c4, by rw [HVL.out]; simp [hn], ?_⟩
                rw [HVL.out]
                exact HVO.out _ _
              | false =>
                go_wp2_with fail
                go_region
                go_wp2
                (try simp only [Exit.inBlock, Exit.then])
                refine bodyPost_ret (v := .tuple #[.agg #[.slice p4 ys.length c4, .bool false], .bool false]) (by rw [results_cell_tmp rfl]; go_simp) rfl ?_
                refine ⟨.slice p4 ys.length c4, by rw [HVL.out]; simp [hn], ?_⟩
                rw [HVL.out]
                exact HVO.out _ _
end Go.Proofs.YtefnkoofgpmmmaaGreatDoor

namespace Go.Proofs.YtefnkoofgpmmmaaGreatDoor
open Go.RowKit

theorem gateOver (a b c : Int) (w : World) (h : IntKind.i64.wrap (a + b) = a + b) : Calls Tryz.prog 171 #[.int .i64 a, .int .i64 b, .int .i64 c] w fun e w' => e = .returned (.bool (decide (a + b ≤ c))) ∧ w = w' := by
  go_enter Tryz.func171, Tryz.ntmps171
  go_wp2
  go_ret
  exact ⟨rfl, rfl⟩

def okFrom (last : Int) : List Int → Bool
  | [] => true
  | k :: r => !(decide (k ≤ last) || decide (12 ≤ k)) && okFrom k r
def rightG (xs : List Int) : Bool := okFrom (-1) xs && decide (xs.length ≤ 12)

set_option maxHeartbeats 1000000 in
theorem gateRight (v : Value) (no : Bool) (xs : List Int) (w : World) (hS : SlAt 1 encI w v xs) (hbig : xs.length ≤ 9223372036854775807) :
    Calls Tryz.prog 165 #[.agg #[v, .bool no]] w fun e w' => e = .returned (.bool (rightG xs)) ∧ Below w.heap.size w w' := by
  obtain ⟨p, c, rfl, _, _⟩ := id hS
  obtain ⟨n, hn⟩ : ∃ n, n = xs.length := ⟨_, rfl⟩
  rw [← hn] at hS hbig ⊢
  obtain ⟨W0, hW0⟩ : ∃ W0, W0 = w.alloc (.cells #[.slice p n c, .bool no] 221) := ⟨_, rfl⟩
  have HS := Lib.hid (hS.below (below1 w (.cells #[.slice p n c, .bool no] 221)))
  have HB := Lib.hid (below1 w (.cells #[.slice p n c, .bool no] 221))
  have he0 : W0.cell? ⟨w.heap.size, 0, none⟩ = some (.slice p n c) := by rw [hW0]; go_simp
  have hez : w.heap.size < W0.heap.size := by rw [hW0]; simp
  rw [← hW0] at HS HB
  have HW0 := Lib.hid hW0
  clear hS hW0
  obtain ⟨p', c', hv, _, hc⟩ := id HS.out
  simp only [Value.slice.injEq] at hv
  obtain ⟨rfl, hx, rfl⟩ := hv
  clear hx
  have HC := Lib.hid hc
  clear hc
  obtain ⟨R, hR⟩ : ∃ R, R = rightG xs := ⟨_, rfl⟩
  rw [← hR]
  have HR := Lib.hid hR
  have HN := Lib.hid hn
  clear hR hn
  go_enter Tryz.func165, Tryz.ntmps165
  go_upto_region 1 with fail
  rw [← HW0.out]
  go_wp2
  go_loopw [3, 9] (fun l i wr => ∃ (j : Nat) (last : Int), j ≤ n ∧ i = .int .i64 j ∧ l = .int .i64 last ∧ W0 = wr ∧ okFrom (-1) xs = okFrom last (xs.drop j)) (fun _ i _ => n - (intOf i).toNat)
  case atStart => exact ⟨0, -1, by omega, rfl, rfl, rfl, rfl⟩
  case round =>
    obtain ⟨j, last, hj, rfl, rfl, rfl, hok⟩ := hrel
    have HOK := Lib.hid hok
    clear hok
    by_cases hlt : j < n
    · have hltz : (j : Int) < (n : Int) := by omega
      obtain ⟨b, off, rfl, hb, hcell⟩ := HC.out (by have := HN.out; omega)
      have hc0 : W0.cell? ⟨b, off + j, none⟩ = some (.int .i64 xs[j]!) := by have := hcell j (by have := HN.out; omega) 0 _ rfl; simpa using this
      have HD := Lib.hid (show xs.drop j = xs[j]! :: xs.drop (j + 1) by
        have := HN.out
        rw [List.drop_eq_getElem_cons (by omega), getElem!_pos xs j (by omega)])
      clear hcell
      generalize xs[j]! = k at hc0 HD
      have hgood : okFrom (-1) xs = (!(decide (k ≤ last) || decide (12 ≤ k)) && okFrom k (xs.drop (j + 1))) := by rw [HOK.out, HD.out]; rfl
      have HG := Lib.hid hgood
      clear hgood
      cases t1 : decide (k ≤ last) with
      | true =>
        have hf : R = false := by rw [HR.out, rightG, HG.out, t1]; rfl
        subst hf
        go_wp2
        go_ret
        exact ⟨rfl, HB.out⟩
      | false =>
        cases t2 : decide ((12 : Int) ≤ k) with
        | true =>
          have hf : R = false := by rw [HR.out, rightG, HG.out, t1, t2]; rfl
          subst hf
          go_wp2
          go_ret
          exact ⟨rfl, HB.out⟩
        | false =>
          have hq : okFrom (-1) xs = okFrom k (xs.drop (j + 1)) := by rw [HG.out, t1, t2]; rfl
          have HQ := Lib.hid hq
          clear hq
          go_wp2
          go_roundw
          case rel => first | exact ⟨j + 1, k, by omega, by go_num, rfl, rfl, HQ.out⟩ | exact ⟨j + 1, k, by omega, by go_num, rfl, trivial, HQ.out⟩ | ((repeat apply Exists.intro); exact ⟨⟨j + 1, k, by omega, by go_num, rfl, rfl, HQ.out⟩, rfl⟩)
          case measure => simp [intOf] <;> omega
    · obtain rfl : j = n := by omega
      have hfin : okFrom (-1) xs = true := by rw [HOK.out, List.drop_of_length_le (by have := HN.out; omega)]; rfl
      have hf : R = decide (j ≤ 12) := by rw [HR.out, rightG, hfin, ← HN.out]; rfl
      subst hf
      clear hfin
      go_wp2
      go_ret
      exact ⟨by simp; omega, HB.out⟩

/-- votes that lie in a box -/
def Bx (b : Nat) (v : Value) (no : Bool) (xs : List Int) (wr : World) : Prop := b < wr.heap.size ∧ wr.cell? ⟨b, 0, none⟩ = some v ∧ wr.cell? ⟨b, 1, none⟩ = some (.bool no) ∧ SlAt 1 encI wr v xs
theorem Bx.below {b : Nat} {v : Value} {no : Bool} {xs : List Int} {w w' : World} (h : Bx b v no xs w) (hb : Below w.heap.size w w') : Bx b v no xs w' :=
  ⟨Nat.lt_of_lt_of_le h.1 hb.size, (hb.cell (p := ⟨b, 0, none⟩) h.1).trans h.2.1, (hb.cell (p := ⟨b, 1, none⟩) h.1).trans h.2.2.1, h.2.2.2.below hb⟩
theorem Bx.mk (w : World) {v : Value} {no : Bool} {xs : List Int} (h : SlAt 1 encI w v xs) : Bx w.heap.size v no xs (w.alloc (.cells #[v, .bool no] 221)) :=
  ⟨by simp, by go_simp, by go_simp, h.below (below1 _ _)⟩
theorem slInts (w : World) (xs : List Int) (h : 0 < xs.length) : SlAt 1 encI (w.alloc (.cells (xs.map fun x => Value.int .i64 x).toArray 3)) (.slice (some ⟨w.heap.size, 0, none⟩) xs.length xs.length) xs :=
  slI_of rfl (Nat.le_refl _) (by simp) (fun j hj => by
    rw [World.cell?_alloc_at _ _ w.heap.size j rfl]
    have := mapI_get hj
    simpa using this)
theorem vt1 : voteL [] 3 true = [3] := by decide
theorem vt2 : voteL [3] 1 true = [1, 3] := by decide
theorem vt3 : voteL [3] 2 false = [3] := by decide

end Go.Proofs.YtefnkoofgpmmmaaGreatDoor

namespace Go.Proofs.YtefnkoofgpmmmaaGreatDoor
set_option maxRecDepth 100000
open Go.RowKit

theorem okFrom_get : ∀ (xs : List Int) (last : Int), okFrom last xs = true → ∀ i, i < xs.length → xs[i]! < 12 ∧ (i = 0 → last < xs[i]!) ∧ (0 < i → xs[i - 1]! < xs[i]!) := by
  intro xs
  induction xs with
  | nil => intro last _ i hi; simp at hi
  | cons x xs ih =>
    intro last h i hi
    simp only [okFrom, Bool.and_eq_true, Bool.not_eq_true', Bool.or_eq_false_iff, decide_eq_false_iff_not] at h
    obtain ⟨⟨h1, h2⟩, h3⟩ := h
    rcases i with _ | i
    · exact ⟨by simp; omega, fun _ => by simp; omega, fun h => by omega⟩
    · have hi' : i < xs.length := by simpa using hi
      obtain ⟨g1, g2, g3⟩ := ih x h3 i hi'
      have e1 : (x :: xs)[i + 1]! = xs[i]! := by simp
      rw [e1]
      refine ⟨g1, fun h => by omega, fun _ => ?_⟩
      rcases i with _ | i
      · simpa using g2 rfl
      · have := g3 (by omega)
        simpa using this
theorem okFrom_mk : ∀ (xs : List Int) (last : Int), (∀ i, i < xs.length → xs[i]! < 12 ∧ (i = 0 → last < xs[i]!) ∧ (0 < i → xs[i - 1]! < xs[i]!)) → okFrom last xs = true := by
  intro xs
  induction xs with
  | nil => intro last _; rfl
  | cons x xs ih =>
    intro last h
    obtain ⟨h1, h2, _⟩ := h 0 (by simp)
    simp at h1 h2
    simp only [okFrom, Bool.and_eq_true, Bool.not_eq_true', Bool.or_eq_false_iff, decide_eq_false_iff_not]
    refine ⟨⟨by omega, by omega⟩, ih x fun i hi => ?_⟩
    obtain ⟨g1, _, g3⟩ := h (i + 1) (by simpa using hi)
    have g3 := g3 (by omega)
    have e1 : (x :: xs)[i + 1]! = xs[i]! := by simp
    rw [e1] at g1 g3
    refine ⟨g1, fun e => ?_, fun e => ?_⟩
    · subst e; simpa using g3
    · obtain ⟨m, rfl⟩ : ∃ m, i = m + 1 := ⟨i - 1, by omega⟩
      simpa using g3
/-- each is one of the twelve, and above the one ahead of it -/
def upTo (xs : List Int) (k : Nat) : Prop := ∀ i, i < k → (0 ≤ xs[i]! ∧ xs[i]! ≤ 11) ∧ (0 < i → xs[i - 1]! < xs[i]!)
theorem rightG_all {xs : List Int} (h : rightG xs = true) : upTo xs xs.length ∧ xs.length ≤ 12 := by
  unfold rightG at h
  rw [Bool.and_eq_true, decide_eq_true_eq] at h
  refine ⟨?_, h.2⟩
  have hg := okFrom_get xs (-1) h.1
  have h0 : ∀ i, i < xs.length → 0 ≤ xs[i]! := by
    intro i
    induction i with
    | zero => intro hi; have := (hg 0 hi).2.1 rfl; omega
    | succ i ih =>
      intro hi
      have h1 := ih (by omega)
      have h2 := (hg (i + 1) hi).2.2 (by omega)
      simp only [Nat.add_sub_cancel] at h2
      omega
  intro i hi
  obtain ⟨g1, _, g3⟩ := hg i hi
  exact ⟨⟨h0 i hi, by omega⟩, g3⟩
theorem rightG_mk {xs : List Int} (h : upTo xs xs.length) : rightG xs = decide (xs.length ≤ 12) := by
  unfold rightG
  rw [okFrom_mk xs (-1) (fun i hi => by
    obtain ⟨⟨h1, h2⟩, h3⟩ := h i hi
    exact ⟨by omega, fun _ => by omega, h3⟩), Bool.true_and]
theorem rightG_no {xs : List Int} {k : Nat} (hk : k < xs.length) (h : ¬ ((0 ≤ xs[k]! ∧ xs[k]! ≤ 11) ∧ (0 < k → xs[k - 1]! < xs[k]!))) : rightG xs = false := by
  cases hr : rightG xs with
  | false => rfl
  | true => exact absurd ((rightG_all hr).1 k hk) h
theorem ret_boolG {a b : Bool} (h : a = b) : Ending.returned (.bool a) = .returned (.bool b) := by rw [h]
end Go.Proofs.YtefnkoofgpmmmaaGreatDoor

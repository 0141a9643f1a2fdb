/- disk.Write. Conditions: said at each. -/
import Derived.Test.YtbbcicengfmhiaaDoorDsk4
import Derived.Test.YtbbcicengfmhiaaDoorTk
import Derived.Great.BuildSlice
namespace Go.Proofs.YtbbcicengfmhiaaDoor
set_option maxRecDepth 100000
open Go.RowKit

theorem zcW : Tryd.zeroCells165 = (encW (0, zeros 64)).toArray := by kernel_rfl
theorem zcSet (p : Nat) : Tryd.zeroCells165.setIfInBounds 0 (.int .i64 (p : Int)) = (encW (p, zeros 64)).toArray := by
  rw [zcW]
  simp [encW]
theorem infoW3 : (Tryd.prog.info? 165).map (fun i => (i.zero, i.size, i.bytes)) = some (some (.agg Tryd.zeroCells165), 65, 72) := by kernel_rfl
theorem fillW {p : Nat} {s : List UInt8} (hs : s.length = 64) : Instr.fill (fun i => some (i * 65, 65)) ((Array.range (1 * 65)).map ((Value.agg Tryd.zeroCells165).cells[· % (Value.agg Tryd.zeroCells165).cells.size]!)) [(0, .agg (encW (p, s)).toArray)] = some (encW (p, s)).toArray := by
  have := Great.fill_whole (s := 65) (by decide) [.agg (encW (p, s)).toArray] ((Array.range (1 * 65)).map ((Value.agg Tryd.zeroCells165).cells[· % (Value.agg Tryd.zeroCells165).cells.size]!)) (fun v hv => by
    simp only [List.mem_singleton] at hv
    subst hv
    show (encW (p, s)).toArray.size = 65
    rw [List.size_toArray]
    exact encW_len (x := (p, s)) hs) (by simp)
  simpa [Value.cells] using this
theorem encW_put (p : Nat) {s : List UInt8} (hs : s.length = 64) : splice (encW (p, zeros 64)) 1 (bcs s) = encW (p, s) := by
  unfold splice encW
  rw [bcs_len, hs]
  have : (bcs (zeros 64)).length = 64 := rfl
  simp only [List.take_succ_cons, List.take_zero, List.cons_append, List.nil_append]
  rw [Nat.add_comm 1 64, List.drop_succ_cons, List.drop_eq_nil_of_le (by rw [this]; decide), List.append_nil]
/-- what a write leaves as it was -/
def Kept3 (b : Nat) (cv : Value) (w w' : World) : Prop := (∀ B, B ≤ b → Below B w w') ∧ (∀ q, q < w.heap.size → q ≠ b → cv.ownBlock ≠ some q → w'.heap[q]? = w.heap[q]?) ∧ w.heap.size ≤ w'.heap.size
theorem Kept3.below {b : Nat} {cv : Value} {w0 w w' : World} (hb : b < w0.heap.size) (h : Below w0.heap.size w0 w) (k : Kept3 b cv w w') : Kept3 b cv w0 w' :=
  ⟨fun B hB => (h.mono (by omega)).trans (k.1 B hB), fun q h1 h2 h3 => (k.2.1 q (Nat.lt_of_lt_of_le h1 h.size) h2 h3).trans (h.block q h1), Nat.le_trans h.size k.2.2⟩
theorem Kept3.set {b : Nat} {cv : Value} {w w' : World} (k : Kept3 b cv w w') (i : Nat) (v : Value) : Kept3 b cv w (w'.setCell ⟨b, i, none⟩ v) :=
  ⟨fun B hB => (k.1 B hB).trans ((KeptG.set b i w' v).1 B hB), fun q h1 h2 h3 => ((KeptG.set b i w' v).2.1 q h2).trans (k.2.1 q h1 h2 h3), by simpa using k.2.2⟩
theorem DkAt.put {b g : Nat} {K : List (List UInt8)} {cv : Value} {C : List Wr} {off : Bool} {armed : Int} {bits : Nat} {writes : Int} {w w' : World} {v' : Value} {p : Nat} {s : List UInt8} (h : DkAt b g K cv C off armed bits writes w) (hg : w.grownBy w' cv.ownBlock)
    (ho : w'.ownsRow (b + 1) 165 65 v' (C.length + 1) (C.flatMap encW ++ encW (p, s))) (hp : p < K.length) (hs : s.length = 64) :
    BlkIs w' b [.slice (some ⟨g, 0, none⟩) K.length K.length, cv, .bool off, .int .i64 armed, .int .u64 (bits : Int), .int .i64 writes] 154 ∧ DkAt b g K v' (C ++ [(p, s)]) off armed bits writes (w'.setCell ⟨b, 1, none⟩ v') ∧ Kept3 b cv w (w'.setCell ⟨b, 1, none⟩ v') := by
  have hrow : ∀ q, cv.ownBlock = some q → b + 1 ≤ q := fun q hq => (h.2.2.2.lt q hq).1
  have hb1 : BlkIs w' b _ 154 := h.2.1.of (hg.block b h.2.1.lt (fun e => by have := hrow b e.symm; omega))
  have hg1 : BlkIs w' g (bcs K.flatten) 163 := h.2.2.1.of (hg.block g h.2.2.1.lt (fun e => by have := hrow g e.symm; have := h.1.1; omega))
  refine ⟨hb1, ⟨⟨h.1.1, h.1.2.1, ?_⟩, ?_, ?_, ?_⟩, ?_⟩
  · intro i hi
    rw [List.length_append, List.length_singleton] at hi
    by_cases hl : i < C.length
    · have := h.1.2.2 i hl
      rw [getElem!_pos (C ++ [(p, s)]) i (by simp; omega), List.getElem_append_left hl, ← getElem!_pos C i hl]
      exact this
    · obtain rfl : i = C.length := by omega
      rw [getElem!_pos (C ++ [(p, s)]) C.length (by simp), List.getElem_append_right (Nat.le_refl _)]
      simpa using ⟨hp, hs⟩
  · have := hb1.set (o := 1) v'
    simpa using this
  · exact (KeptG.set b 1 w' v').blk hg1 (by have := h.1.1; omega)
  · rw [List.length_append, List.length_singleton, List.flatMap_append, List.flatMap_singleton]
    exact owns_kept2 ho (KeptG.set b 1 w' v') (by omega)
  · exact Kept3.set ⟨fun B hB => (Below.refl B w).grown hg (by have := h.2.1.lt; omega) (fun q hq => by have := hrow q hq; omega), fun q h1 _ h3 => hg.block q h1 (fun e => h3 e.symm), hg.size⟩ 1 v'
theorem DkAt.cell1 {b g : Nat} {K : List (List UInt8)} {cv : Value} {C : List Wr} {off : Bool} {armed : Int} {bits : Nat} {writes : Int} {w : World} (h : DkAt b g K cv C off armed bits writes w) (armed' writes' : Int) (i : Nat) (v : Value)
    (hb : ∀ T : List Value, T = [.slice (some ⟨g, 0, none⟩) K.length K.length, cv, .bool off, .int .i64 armed, .int .u64 (bits : Int), .int .i64 writes] → T.set i v = [.slice (some ⟨g, 0, none⟩) K.length K.length, cv, .bool off, .int .i64 armed', .int .u64 (bits : Int), .int .i64 writes']) :
    DkAt b g K cv C off armed' bits writes' (w.setCell ⟨b, i, none⟩ v) :=
  h.set (KeptG.set b i w v) (by have := h.2.1.set (o := i) v; rw [hb _ rfl] at this; exact this) h.1.2.2 (owns_kept2 h.2.2.2 (KeptG.set b i w v) (by omega))
def Kept4 (b g : Nat) (cv : Value) (w w' : World) : Prop := (∀ B, B ≤ g → Below B w w') ∧ (∀ q, q < w.heap.size → q ≠ b → q ≠ g → cv.ownBlock ≠ some q → w'.heap[q]? = w.heap[q]?) ∧ w.heap.size ≤ w'.heap.size
theorem Kept3.to4 {b g : Nat} {cv : Value} {w w1 w' : World} (h : Kept3 b cv w w1) (k : Kept2 b g w1 w') (hg : g ≤ b) : Kept4 b g cv w w' :=
  ⟨fun B hB => (h.1 B (by omega)).trans (k.1 B hB), fun q h1 h2 h3 h4 => (k.2.1 q (Nat.lt_of_lt_of_le h1 h.2.2) h2 h3).trans (h.2.1 q h1 h2 h4), Nat.le_trans h.2.2 k.2.2⟩
def WritePost (b g : Nat) (K : List (List UInt8)) (cv : Value) (C : List Wr) (armed : Int) (bits : Nat) (writes : Int) (p : Nat) (s : List UInt8) (w : World) (e : Ending) (w' : World) : Prop :=
  (armed = 0 ∧ e = .returned (.int .i64 0) ∧ ∃ cv', DkAt b g K cv' (C ++ [(p, s)]) false 0 bits (writes + 1) w' ∧ Kept3 b cv w w') ∨
  (1 < armed ∧ e = .returned (.int .i64 0) ∧ ∃ cv', DkAt b g K cv' (C ++ [(p, s)]) false (armed - 1) bits (writes + 1) w' ∧ Kept3 b cv w w') ∨
  (armed = 1 ∧ e = .returned (.int .i64 5) ∧ DkAt b g (crashN bits K (C ++ [(p, s)]) (C ++ [(p, s)]).length) (.slice none 0 0) [] true 0 bits (writes + 1) w' ∧ Kept4 b g cv w w')
set_option maxHeartbeats 4000000 in
theorem dskWrite (b g : Nat) (K : List (List UInt8)) (cv : Value) (C : List Wr) (armed : Int) (bits : Nat) (writes : Int) (p : Nat) (s : List UInt8) (w : World) (h : DkAt b g K cv C false armed bits writes w) (hp : p < K.length) (hs : s.length = 64) (hK : K.length ≤ 4096) (hC : C.length ≤ 10000)
    (ha : 0 ≤ armed) (ha2 : armed ≤ 9223372036854775807) (hw0 : 0 ≤ writes) (hw1 : writes ≤ 1000000000) :
    Calls Tryd.prog 139 #[.pointer (some ⟨b, 0, none⟩), .int .i64 (p : Nat), .string ⟨s.toArray⟩] w (WritePost b g K cv C armed bits writes p s w) := by
  obtain ⟨cp, cc, rfl⟩ := cv_slice h.2.2.2
  have KC := Lib.hid (dskCheck b g K _ C armed bits writes p w h hp)
  have HD := Lib.hid h
  have hca := Lib.hid (show armed = 0 ∨ 1 < armed ∨ armed = 1 by omega)
  have hsz := szL s
  rw [hs] at hsz
  have hbz := h.2.1.lt
  have HGB := Lib.hid h.1.1
  have HBZ := Lib.hid h.2.1.lt
  have HP := Lib.hid hp
  have HOW := Lib.hid (fun x hx => (h.2.2.2.lt x hx).2)
  clear h
  go_enter Tryd.func139, Tryd.ntmps139
  go_wp2_with fail
  refine KC.out.mono ?_
  rintro e w1 ⟨rfl, rfl⟩
  have hzl := encW_len (x := (p, zeros 64)) rfl
  have HIA := Lib.hid (show (Tryd.prog.info? 165).map (·.size) = some (encW (p, zeros 64)).toArray.size by rw [List.size_toArray, hzl]; exact infoW)
  have HZA := Lib.hid (show Tryd.zeroCells165.size = (encW (p, zeros 64)).toArray.size by rw [show (encW (p, zeros 64)).toArray.size = 65 by rw [List.size_toArray]; exact hzl]; exact zc165)
  have hzs := zcSet p
  clear hzl
  go_upto_region 7 with (with_reducible refine wpList_store_new rfl 165 (.tmp 8) (.tmp 19) rfl w Tryd.zeroCells165 (encW (p, zeros 64)).toArray rfl rfl HIA.out HZA.out (encW_one _) ?_)
  clear hzs
  have hb1 := below1 w (.cells (encW (p, zeros 64)).toArray 165)
  have HQ := Lib.hid (BlkIs.alloc w (encW (p, zeros 64)) 165)
  have HD := Lib.hid (HD.out.below hb1)
  have HK := Lib.hid (show Below w.heap.size w _ from hb1)
  clear hb1
  generalize hW1 : w.alloc (.cells (encW (p, zeros 64)).toArray 165) = W1 at HQ HD HK ⊢
  generalize hqe : w.heap.size = q at HQ HK ⊢
  have HQE := Lib.hid hqe
  have HW1E := Lib.hid hW1
  have hqb : b < q := by omega
  clear hqe hW1
  have hth : W1.there q 1 s.length := HQ.out.there (by rw [hs, encW_len (x := (p, zeros 64)) rfl]; decide)
  go_wp2_with (with_reducible refine wpList_copy_string rfl (.tmp 21) (.tmp 22) 56 9 rfl 5 Tryd.underlying56 Tryd.sizeOf5 q 1 64 64 rfl s rfl (by omega) hth ?_)
  obtain ⟨i0, hi, hz0, hz1, hz2⟩ := info_parts infoW3
  have HI := Lib.hid hi
  have HZ0 := Lib.hid hz0
  have hz3 : (Value.agg Tryd.zeroCells165).cells.size = 65 := zc165
  clear hi hz0
  have HQ := Lib.hid (show BlkIs (W1.setCells q 1 (bcs s)) q (encW (p, s)) 165 by
    have := BlkIs.sets (bcs s) 1 W1 _ HQ.out (by rw [bcs_len, hs, encW_len (x := (p, zeros 64)) rfl]; decide)
    rw [encW_put p hs] at this
    exact this)
  have hk1 := KeptG.sets q 1 W1 (bcs s)
  have HD := Lib.hid (HD.out.other hk1 (by omega) (by have := HGB.out; omega) (fun e => by have := HOW.out q e; have := HQE.out; omega))
  have HK := Lib.hid (KeptG.below HK.out hk1 (Nat.le_refl _))
  clear hk1 hth
  generalize W1.setCells q 1 (bcs s) = W2 at HQ HD HK ⊢
  have hqW : q < W2.heap.size := HQ.out.lt
  have HIW := Lib.hid (show (Tryd.prog.info? 165).map (·.size) = some (encW (p, s)).length by rw [encW_len (x := (p, s)) hs]; exact infoW)
  have HD := Lib.hid (show DkAt b g K (.slice cp C.length cc) C false armed bits writes W2.drew from HD.out.below (Below.refl _ _).drew)
  obtain ⟨X1, hX1⟩ : ∃ X1, X1 = W2.drew.alloc (.cells (encW (p, s)).toArray 165) := ⟨_, rfl⟩
  have HX1E := Lib.hid hX1
  have hXb : Below W2.drew.heap.size W2.drew X1 := by rw [hX1]; exact below1 _ _
  have HXB := Lib.hid hXb
  have HD1 := Lib.hid (HD.out.below hXb)
  have HX1 := Lib.hid (show BlkIs X1 W2.heap.size (encW (p, s)) 165 by rw [hX1]; exact BlkIs.alloc W2.drew (encW (p, s)) 165)
  have X1size : X1.heap.size = W2.heap.size + 1 := by rw [hX1]; simp
  have HXS := Lib.hid X1size
  have HQ1 := Lib.hid (BlkIs.below (show BlkIs W2.drew q (encW (p, s)) 165 from HQ.out) hXb)
  have HR1 := Lib.hid HQ1.out.whole
  clear hX1 hXb X1size
  have HR0 := Lib.hid (show W2.drew.rangeAt q 0 (encW (p, s)) from (show BlkIs W2.drew q _ 165 from HQ.out).whole)
  refine wp_region_held_drew (S := fun X => X.rangeAt q 0 (encW (p, s))) (by kernel_rfl) HR0.out (fun hHeld => ?_)
  try dsimp only [List.size_toArray, List.length_cons, List.length_nil]
  refine takeL (i := 0) rfl (v := ?vg1) (by kernel_rfl) (by kernel_rfl) (by kernel_rfl) (fun _ _ _ h => h) (Or.inl ⟨by rfl, fun _w _hSw => ?hyg1⟩) (by assumption) ?restg1
  case hyg1 =>
    (try dsimp only at _hSw)
    go_simp
    try with_reducible rfl
  try simp only [Act.put, List.setIfInBounds_toArray, List.set_cons_zero, List.set_cons_succ]
  refine takeL (i := 1) rfl (v := ?vg2) (by kernel_rfl) (by kernel_rfl) (by kernel_rfl) (fun _ _ _ h => h) (Or.inl ⟨by rfl, fun _w _hSw => ?hyg2⟩) (by assumption) ?restg2
  case hyg2 =>
    (try dsimp only at _hSw)
    go_simp
    try with_reducible rfl
  try simp only [Act.put, List.setIfInBounds_toArray, List.set_cons_zero, List.set_cons_succ]
  refine takeL (i := 2) rfl (v := ?vg3) (by kernel_rfl) (by kernel_rfl) (by kernel_rfl) (fun _ _ _ h => h) (Or.inl ⟨by rfl, fun _w _hSw => ?hyg3⟩) (by assumption) ?restg3
  case hyg3 =>
    (try dsimp only at _hSw)
    go_simp
    try with_reducible rfl
  try simp only [Act.put, List.setIfInBounds_toArray, List.set_cons_zero, List.set_cons_succ]
  refine takeL (i := 3) rfl (v := ?vg4) (by kernel_rfl) (by kernel_rfl) (by kernel_rfl) (fun _ _ _ h => h) (Or.inl ⟨by rfl, fun _w _hSw => ?hyg4⟩) (by assumption) ?restg4
  case hyg4 =>
    (try dsimp only at _hSw)
    go_simp
    try with_reducible rfl
  try simp only [Act.put, List.setIfInBounds_toArray, List.set_cons_zero, List.set_cons_succ]
  refine takeL (i := 5) rfl (v := .agg (encW (p, s)).toArray) (by kernel_rfl) (by kernel_rfl) (by kernel_rfl) (fun _ _ _ h => h) (yieldsIf_load_mid (by kernel_rfl) 165 (.tmp 8) rfl q 0 rfl (encW (p, s)) _ (fun _ h => h) Tryd.underlying165 rfl HIW.out) (by assumption) ?_
  try simp only [Act.put, List.setIfInBounds_toArray, List.set_cons_zero, List.set_cons_succ]
  refine wpAnyH_ready (rs := [4, 6]) (by kernel_rfl) (by simp) (readyL rfl (fun K1 hK => ?_) (readyL rfl (fun K1 hK => ?_) AllReadyH.nil))
  ·
    have c1 : W2.drew.cell? ⟨b, 1, none⟩ = some (.slice cp C.length cc) := HD.out.2.1.cell 1
    go_simp
    refine hK.out _ _ ‹_› (fun _ => ?_)
    clear hK K1 c1
    try simp only [Act.put, List.setIfInBounds_toArray, List.set_cons_zero, List.set_cons_succ]
    refine wpAnyH_ready (rs := [6]) (by kernel_rfl) (by simp) (readyL rfl (fun K1 hK => ?_) AllReadyH.nil)
    rw [if_pos (by kernel_rfl)]
    refine wp_buildSlice 152 165 1 #[(0, .tmp 29)] rfl (encW (p, s)).toArray i0 (.agg Tryd.zeroCells165) Tryd.underlying152 HI.out HZ0.out (by rw [hz1]; decide) (by rw [hz1]; decide) (by rw [hz1, Array.toList_map]; exact fillW hs) ?_
    rw [← HX1E.out]
    refine hK.out _ _ (HR1.out) (fun _ => ?_)
    have HD := Lib.hid HD1.out
    clear hK K1
    try simp only [Act.put, List.setIfInBounds_toArray, List.set_cons_zero, List.set_cons_succ]
    refine wpAnyH_ready (rs := [7]) (by kernel_rfl) (by simp) (readyL rfl (fun K1 hK => ?_) AllReadyH.nil)
    rw [if_pos (by kernel_rfl)]
    refine wp_append_ownN (.tmp 28) (.tmp 30) 152 rfl (b + 1) 165 i0 (.agg Tryd.zeroCells165) 65 72 Tryd.underlying152 HI.out HZ0.out hz1 hz2 hz3 (by decide) _ C.length (C.flatMap encW) rfl HD.out.2.2.2 ⟨W2.heap.size, 0, none⟩ 1 1 (encW (p, s)) rfl (by rw [encW_len (x := (p, s)) hs]) ?_ ?_ (by unfold maxLen; omega) (by omega) (by rw [HXS.out]; omega) ?_
    · intro j v hj
      rw [Addr.add_mid]
      exact HX1.out.whole j v hj
    · exact fun v hv => Array.all_eq_true_iff_forall_mem.1 (encW_one (p, s)) v (by simpa using hv)
    intro v' W3 hown hgrow hwhere
    obtain ⟨vp, vc, rfl⟩ := cv_slice hown
    have hq3 : BlkIs W3 q (encW (p, s)) 165 := HQ1.out.of (hgrow.block q HQ1.out.lt (fun e => by have := HOW.out q e.symm; have := HQE.out; omega))
    have HR3 := Lib.hid hq3.whole
    obtain ⟨pb, pd, pk⟩ := DkAt.put HD.out hgrow hown HP.out hs
    have HPD := Lib.hid pd
    have HPK := Lib.hid (pk.below (w0 := w) HBZ.out ((show Below w.heap.size w W2 by rw [HQE.out]; exact HK.out).trans ((show Below W2.heap.size W2 X1 from (Below.refl W2.heap.size W2).drew.trans HXB.out).mono (by have := HQE.out; omega))))
    have c1 : W3.cell? ⟨b, 1, none⟩ = some (.slice cp C.length cc) := pb.cell 1
    have f1 := pb.frozen 1
    have HR4 := Lib.hid ((KeptG.set b 1 W3 (.slice vp (C.length + 1) vc)).blk hq3 (by omega)).whole
    refine hK.out _ _ HR3.out (fun _ => ?_)
    clear hK K1 hown hgrow hwhere pb pd pk hq3
    try simp only [Act.put, List.setIfInBounds_toArray, List.set_cons_zero, List.set_cons_succ]
    refine takeL (i := 8) rfl (v := ?vg5) (by kernel_rfl) (by kernel_rfl) (by kernel_rfl) (fun _ _ _ h => h) (Or.inl ⟨by rfl, fun _w _hSw => ?hyg5⟩) (by assumption) ?restg5
    case hyg5 =>
      (try dsimp only at _hSw)
      go_simp
      try with_reducible rfl
    try simp only [Act.put, List.setIfInBounds_toArray, List.set_cons_zero, List.set_cons_succ]
    refine takeL (i := 9) rfl (v := ?vg6) (by kernel_rfl) (by kernel_rfl) (by kernel_rfl) (fun _ _ _ h => h) (Or.inl ⟨by rfl, fun _w _hSw => ?hyg6⟩) (by assumption) ?restg6
    case hyg6 =>
      (try dsimp only at _hSw)
      go_simp
      try with_reducible rfl
    try simp only [Act.put, List.setIfInBounds_toArray, List.set_cons_zero, List.set_cons_succ]
    refine wpAnyH_ready (rs := [10]) (by kernel_rfl) (by simp) (readyL rfl (fun K1 hK => ?_) AllReadyH.nil)
    go_simp
    refine hK.out _ _ HR4.out (fun _ => ?_)
    clear hK K1 c1 f1
    try simp only [Act.put, List.setIfInBounds_toArray, List.set_cons_zero, List.set_cons_succ]
    refine wpAnyH_done (by kernel_rfl) ?_ _
    generalize W3.setCell ⟨b, 1, none⟩ (.slice vp (C.length + 1) vc) = W4 at HPD HPK ⊢
    have c5 := HPD.out.2.1.cell 5
    have c3 := HPD.out.2.1.cell 3
    have c4 := HPD.out.2.1.cell 4
    simp only [List.getElem?_cons_zero, List.getElem?_cons_succ] at c3 c4 c5
    have f5 := HPD.out.2.1.frozen 5
    have f3 := HPD.out.2.1.frozen 3
    have HPD5 := Lib.hid (HPD.out.cell1 armed (writes + 1) 5 (.int .i64 (writes + 1)) (fun T hT => by subst hT; rfl))
    have HPK5 := Lib.hid (HPK.out.set 5 (.int .i64 (writes + 1)))
    rcases hca.out with h0 | h0 | h0
    · subst h0
      go_wp2
      go_ret
      exact .inl ⟨rfl, rfl, _, HPD5.out, HPK5.out⟩
    · have HPD6 := Lib.hid (HPD5.out.cell1 (armed - 1) (writes + 1) 3 (.int .i64 (armed - 1)) (fun T hT => by subst hT; rfl))
      have HPK6 := Lib.hid (HPK5.out.set 3 (.int .i64 (armed - 1)))
      have hz1 : (armed == 0) = false := by simp; omega
      have hz2 : decide (0 < armed - 1) = true := by simp; omega
      go_wp2
      go_ret
      exact .inr (.inl ⟨h0, rfl, _, HPD6.out, HPK6.out⟩)
    · subst h0
      have HPD6 := Lib.hid (HPD5.out.cell1 0 (writes + 1) 3 (.int .i64 0) (fun T hT => by subst hT; rfl))
      have HPK6 := Lib.hid (HPK5.out.set 3 (.int .i64 0))
      go_wp2_with fail
      refine (dskCrash b g K _ _ 0 bits (writes + 1) bits _ HPD6.out hK (by simp; omega)).mono ?_
      rintro e w9 ⟨rfl, hd9, hk9⟩
      have HD9 := Lib.hid hd9
      have HK9 := Lib.hid (HPK6.out.to4 hk9 (by have := HGB.out; omega))
      clear hd9 hk9
      go_wp2
      go_ret
      exact .inr (.inr ⟨rfl, rfl, HD9.out, HK9.out⟩)
  ·
    rw [if_pos (by kernel_rfl)]
    refine wp_buildSlice 152 165 1 #[(0, .tmp 29)] rfl (encW (p, s)).toArray i0 (.agg Tryd.zeroCells165) Tryd.underlying152 HI.out HZ0.out (by rw [hz1]; decide) (by rw [hz1]; decide) (by rw [hz1, Array.toList_map]; exact fillW hs) ?_
    rw [← HX1E.out]
    refine hK.out _ _ (HR1.out) (fun _ => ?_)
    have HD := Lib.hid HD1.out
    clear hK K1
    try simp only [Act.put, List.setIfInBounds_toArray, List.set_cons_zero, List.set_cons_succ]
    refine wpAnyH_ready (rs := [4]) (by kernel_rfl) (by simp) (readyL rfl (fun K1 hK => ?_) AllReadyH.nil)
    have c1 : X1.cell? ⟨b, 1, none⟩ = some (.slice cp C.length cc) := HD.out.2.1.cell 1
    go_simp
    refine hK.out _ _ ‹_› (fun _ => ?_)
    clear hK K1 c1
    try simp only [Act.put, List.setIfInBounds_toArray, List.set_cons_zero, List.set_cons_succ]
    refine wpAnyH_ready (rs := [7]) (by kernel_rfl) (by simp) (readyL rfl (fun K1 hK => ?_) AllReadyH.nil)
    rw [if_pos (by kernel_rfl)]
    refine wp_append_ownN (.tmp 28) (.tmp 30) 152 rfl (b + 1) 165 i0 (.agg Tryd.zeroCells165) 65 72 Tryd.underlying152 HI.out HZ0.out hz1 hz2 hz3 (by decide) _ C.length (C.flatMap encW) rfl HD.out.2.2.2 ⟨W2.heap.size, 0, none⟩ 1 1 (encW (p, s)) rfl (by rw [encW_len (x := (p, s)) hs]) ?_ ?_ (by unfold maxLen; omega) (by omega) (by rw [HXS.out]; omega) ?_
    · intro j v hj
      rw [Addr.add_mid]
      exact HX1.out.whole j v hj
    · exact fun v hv => Array.all_eq_true_iff_forall_mem.1 (encW_one (p, s)) v (by simpa using hv)
    intro v' W3 hown hgrow hwhere
    obtain ⟨vp, vc, rfl⟩ := cv_slice hown
    have hq3 : BlkIs W3 q (encW (p, s)) 165 := HQ1.out.of (hgrow.block q HQ1.out.lt (fun e => by have := HOW.out q e.symm; have := HQE.out; omega))
    have HR3 := Lib.hid hq3.whole
    obtain ⟨pb, pd, pk⟩ := DkAt.put HD.out hgrow hown HP.out hs
    have HPD := Lib.hid pd
    have HPK := Lib.hid (pk.below (w0 := w) HBZ.out ((show Below w.heap.size w W2 by rw [HQE.out]; exact HK.out).trans ((show Below W2.heap.size W2 X1 from (Below.refl W2.heap.size W2).drew.trans HXB.out).mono (by have := HQE.out; omega))))
    have c1 : W3.cell? ⟨b, 1, none⟩ = some (.slice cp C.length cc) := pb.cell 1
    have f1 := pb.frozen 1
    have HR4 := Lib.hid ((KeptG.set b 1 W3 (.slice vp (C.length + 1) vc)).blk hq3 (by omega)).whole
    refine hK.out _ _ HR3.out (fun _ => ?_)
    clear hK K1 hown hgrow hwhere pb pd pk hq3
    try simp only [Act.put, List.setIfInBounds_toArray, List.set_cons_zero, List.set_cons_succ]
    refine takeL (i := 8) rfl (v := ?vg7) (by kernel_rfl) (by kernel_rfl) (by kernel_rfl) (fun _ _ _ h => h) (Or.inl ⟨by rfl, fun _w _hSw => ?hyg7⟩) (by assumption) ?restg7
    case hyg7 =>
      (try dsimp only at _hSw)
      go_simp
      try with_reducible rfl
    try simp only [Act.put, List.setIfInBounds_toArray, List.set_cons_zero, List.set_cons_succ]
    refine takeL (i := 9) rfl (v := ?vg8) (by kernel_rfl) (by kernel_rfl) (by kernel_rfl) (fun _ _ _ h => h) (Or.inl ⟨by rfl, fun _w _hSw => ?hyg8⟩) (by assumption) ?restg8
    case hyg8 =>
      (try dsimp only at _hSw)
      go_simp
      try with_reducible rfl
    try simp only [Act.put, List.setIfInBounds_toArray, List.set_cons_zero, List.set_cons_succ]
    refine wpAnyH_ready (rs := [10]) (by kernel_rfl) (by simp) (readyL rfl (fun K1 hK => ?_) AllReadyH.nil)
    go_simp
    refine hK.out _ _ HR4.out (fun _ => ?_)
    clear hK K1 c1 f1
    try simp only [Act.put, List.setIfInBounds_toArray, List.set_cons_zero, List.set_cons_succ]
    refine wpAnyH_done (by kernel_rfl) ?_ _
    generalize W3.setCell ⟨b, 1, none⟩ (.slice vp (C.length + 1) vc) = W4 at HPD HPK ⊢
    have c5 := HPD.out.2.1.cell 5
    have c3 := HPD.out.2.1.cell 3
    have c4 := HPD.out.2.1.cell 4
    simp only [List.getElem?_cons_zero, List.getElem?_cons_succ] at c3 c4 c5
    have f5 := HPD.out.2.1.frozen 5
    have f3 := HPD.out.2.1.frozen 3
    have HPD5 := Lib.hid (HPD.out.cell1 armed (writes + 1) 5 (.int .i64 (writes + 1)) (fun T hT => by subst hT; rfl))
    have HPK5 := Lib.hid (HPK.out.set 5 (.int .i64 (writes + 1)))
    rcases hca.out with h0 | h0 | h0
    · subst h0
      go_wp2
      go_ret
      exact .inl ⟨rfl, rfl, _, HPD5.out, HPK5.out⟩
    · have HPD6 := Lib.hid (HPD5.out.cell1 (armed - 1) (writes + 1) 3 (.int .i64 (armed - 1)) (fun T hT => by subst hT; rfl))
      have HPK6 := Lib.hid (HPK5.out.set 3 (.int .i64 (armed - 1)))
      have hz1 : (armed == 0) = false := by simp; omega
      have hz2 : decide (0 < armed - 1) = true := by simp; omega
      go_wp2
      go_ret
      exact .inr (.inl ⟨h0, rfl, _, HPD6.out, HPK6.out⟩)
    · subst h0
      have HPD6 := Lib.hid (HPD5.out.cell1 0 (writes + 1) 3 (.int .i64 0) (fun T hT => by subst hT; rfl))
      have HPK6 := Lib.hid (HPK5.out.set 3 (.int .i64 0))
      go_wp2_with fail
      refine (dskCrash b g K _ _ 0 bits (writes + 1) bits _ HPD6.out hK (by simp; omega)).mono ?_
      rintro e w9 ⟨rfl, hd9, hk9⟩
      have HD9 := Lib.hid hd9
      have HK9 := Lib.hid (HPK6.out.to4 hk9 (by have := HGB.out; omega))
      clear hd9 hk9
      go_wp2
      go_ret
      exact .inr (.inr ⟨rfl, rfl, HD9.out, HK9.out⟩)
end Go.Proofs.YtbbcicengfmhiaaDoor

/- A codec.Writer's builder: its first check, a text written, all told. The builder lies in the writer's own block. No condition but its size. -/
import Derived.Test.YtefnkoofgpmmmaaGreatDoorFrameD
import Derived.Test.YtefnkoofgpmmmaaGreatDoorSh
import Derived.RegionTactic
import Derived.ChangeAlike
import Derived.BigRegion
import Derived.Test.YtefnkoofgpmmmaaGreatDoorN1
namespace Go.Proofs.YtefnkoofgpmmmaaGreatDoor
open Go.RowKit

theorem infoB : (Tryz.prog.info? 159).map (·.size) = some 2 := by kernel_rfl
theorem liesB : liesAt Tryz.prog Tryz.prog.depth 161 (2 / Tryz.prog.cellsOf 161) 0 159 1 = true := by kernel_rfl
set_option maxRecDepth 100000 in
theorem copyFresh (b : Nat) (w : World) (h0 : w.cell? ⟨b, 0, none⟩ = some (.pointer none)) (hsh : w.shape? b = some (161, 2)) (hfz : w.frozen? ⟨b, 0, none⟩ = false) :
    Calls Tryz.prog 169 #[.pointer (some ⟨b, 0, none⟩)] w fun e w' => e = .returned (.tuple #[]) ∧ w' = w.setCell ⟨b, 0, none⟩ (.pointer (some ⟨b, 0, none⟩)) := by
  obtain ⟨j, hj, hjs⟩ := Option.map_eq_some_iff.1 infoB
  have e1 := Lib.run_to_unsafe (P := Tryz.prog) w ⟨b, 0, none⟩ Tryz.underlying157 Tryz.underlying245 hj (by rw [hjs]; decide) hsh (Nat.zero_lt_succ 1)
  have e2 := Lib.run_from_unsafe (P := Tryz.prog) w ⟨b, 0, none⟩ Tryz.underlying245 Tryz.underlying157 hj hsh liesB
  go_enter Tryz.func169, Tryz.ntmps169
  go_wp2_with fail
  rw [run_callFunc_extern Tryz.func216 (by kernel_rfl) (by kernel_rfl) (by kernel_rfl) (e := Extern.AbiNoEscape.same) (by kernel_rfl)]
  rw [Lib.run_noEscape]
  simp only [Result.andThen]
  rw [Oper.upon_value]
  go_wp2
  go_end0
  exact ⟨rfl, rfl⟩

set_option maxRecDepth 100000 in
theorem copyUsed (b : Nat) (w : World) (h0 : w.cell? ⟨b, 0, none⟩ = some (.pointer (some ⟨b, 0, none⟩))) :
    Calls Tryz.prog 169 #[.pointer (some ⟨b, 0, none⟩)] w fun e w' => e = .returned (.tuple #[]) ∧ w' = w := by
  obtain ⟨j, hj, hjs⟩ := Option.map_eq_some_iff.1 infoB
  go_enter Tryz.func169, Tryz.ntmps169
  go_wp2
  rw [Lib.run_neq_ptr_same w _ Tryz.underlying157 hj]
  go_wp2
  go_end0
  exact ⟨rfl, rfl⟩

/-- a writer that lies at b, its row at R or behind it and ahead of T, holds the bytes l -/
def WrAt (R T b : Nat) (l : List UInt8) (w : World) : Prop :=
  (b < R ∧ R ≤ w.heap.size ∧ T ≤ w.heap.size) ∧ ∃ p v, (p = .pointer none ∨ p = .pointer (some ⟨b, 0, none⟩)) ∧ w.heap[b]? = some (.cells #[p, v] 161 (0, 0)) ∧ w.ownsRow R 5 1 v l.length (Lib.byteCells l) ∧ ∀ k, v.ownBlock = some k → k < T
/-- a block that is no row of bytes -/
def Safe (w : World) (q : Nat) : Prop := ∃ c t z, w.heap[q]? = some (.cells c t z) ∧ t ≠ 5
theorem Safe.of {w w' : World} {q : Nat} (h : Safe w q) (e : w'.heap[q]? = w.heap[q]?) : Safe w' q := by
  obtain ⟨c, t, z, h1, h2⟩ := h
  exact ⟨c, t, z, e.trans h1, h2⟩
theorem Safe.lt {w : World} {q : Nat} (h : Safe w q) : q < w.heap.size := by
  obtain ⟨c, t, z, h1, _⟩ := h
  exact (Array.getElem?_eq_some_iff.1 h1).1
theorem Safe.below {w w' : World} {q : Nat} (h : Safe w q) (hb : Below w.heap.size w w') : Safe w' q := h.of (hb.block q h.lt)
theorem Safe.alloc (w : World) (c : Array Value) {t : TypeId} (ht : t ≠ 5) : Safe (w.alloc (.cells c t)) w.heap.size := ⟨c, t, (0, 0), (MapKept.heap_alloc w _).1, ht⟩
/-- what a write leaves as it was -/
def KeptW (R b : Nat) (w w' : World) : Prop := (∀ B, B ≤ b → Below B w w') ∧ (∀ q, (q < R ∨ Safe w q) → q ≠ b → w'.heap[q]? = w.heap[q]?) ∧ w.heap.size ≤ w'.heap.size
theorem KeptW.safe {R b : Nat} {w w' : World} (h : KeptW R b w w') {q : Nat} (hq : Safe w q) (hne : q ≠ b) : Safe w' q := hq.of (h.2.1 q (.inr hq) hne)
theorem KeptW.trans {R b : Nat} {w w1 w2 : World} (h : KeptW R b w w1) (k : KeptW R b w1 w2) : KeptW R b w w2 :=
  ⟨fun B hB => (h.1 B hB).trans (k.1 B hB), fun q h1 h2 => (k.2.1 q (h1.imp id fun hs => h.safe hs h2) h2).trans (h.2.1 q h1 h2), Nat.le_trans h.2.2 k.2.2⟩
theorem KeptW.of {R b : Nat} {w w' : World} (hR : R ≤ w.heap.size) (hb : b < R) (h : Below w.heap.size w w') : KeptW R b w w' :=
  ⟨fun B hB => h.mono (by omega), fun q h1 _ => h.block q (by rcases h1 with h1 | h1 <;> first | omega | exact h1.lt), h.size⟩
theorem KeptW.refl (R b : Nat) (w : World) : KeptW R b w w := ⟨fun B _ => Below.refl B _, fun _ _ _ => rfl, Nat.le_refl _⟩
theorem KeptW.cell {R b : Nat} {w w' : World} (h : KeptW R b w w') {q o : Nat} (h1 : q < R) (h2 : q ≠ b) : w'.cell? ⟨q, o, none⟩ = w.cell? ⟨q, o, none⟩ := World.cell?_of_block (h.2.1 q (.inl h1) h2)
theorem KeptW.cellS {R b : Nat} {w w' : World} (h : KeptW R b w w') {q o : Nat} (h1 : Safe w q) (h2 : q ≠ b) : w'.cell? ⟨q, o, none⟩ = w.cell? ⟨q, o, none⟩ := World.cell?_of_block (h.2.1 q (.inr h1) h2)
theorem KeptW.frozenS {R b : Nat} {w w' : World} (h : KeptW R b w w') {q o : Nat} (h1 : Safe w q) (h2 : q ≠ b) : w'.frozen? ⟨q, o, none⟩ = w.frozen? ⟨q, o, none⟩ := World.frozen?_of_block (h.2.1 q (.inr h1) h2)
theorem WrAt.below {R T b : Nat} {l : List UInt8} {w w' : World} (h : WrAt R T b l w) (hb : Below w.heap.size w w') : WrAt R T b l w' := by
  obtain ⟨⟨h1, h2, h3⟩, p, v, hp, hbk, hown, hT⟩ := h
  exact ⟨⟨h1, Nat.le_trans h2 hb.size, Nat.le_trans h3 hb.size⟩, p, v, hp, (hb.block b (by omega)).trans hbk, owns_below hown hb, hT⟩
/-- a row kept by what keeps its block -/
theorem owns_kept {w w' : World} {base : Nat} {e : TypeId} {size : Nat} {v : Value} {n : Nat} {xs : List Value} (h : w.ownsRow base e size v n xs) (hk : ∀ k, v.ownBlock = some k → w'.heap[k]? = w.heap[k]?) : w'.ownsRow base e size v n xs := by
  obtain ⟨h1, h2⟩ := h
  refine ⟨h1, ?_⟩
  rcases h2 with h2 | ⟨g, cap, cur, rfl, hg, hh, hr⟩
  · exact .inl h2
  · exact .inr ⟨g, cap, cur, rfl, hg, (hk g (by simp [Value.ownBlock])).trans hh, hr⟩
/-- another writer's write leaves it as it was -/
theorem WrAt.kept {R T b R2 b2 : Nat} {l : List UInt8} {w w' : World} (h : WrAt R T b l w) (hk : KeptW R2 b2 w w') (h1 : T ≤ R2) (h2 : b ≠ b2) (h3 : b2 < R) (h4 : R ≤ R2) : WrAt R T b l w' := by
  obtain ⟨⟨q1, q2, q3⟩, p, v, hp, hbk, hown, hT⟩ := h
  refine ⟨⟨q1, Nat.le_trans q2 hk.2.2, Nat.le_trans q3 hk.2.2⟩, p, v, hp, (hk.2.1 b (.inl (by omega)) h2).trans hbk, owns_kept hown (fun k hkk => ?_), hT⟩
  have := owns_block hown k hkk
  exact hk.2.1 k (.inl (by have := hT k hkk; omega)) (by omega)
/-- what a writer's telling leaves as it was -/
def KeptS (R T : Nat) (w w' : World) : Prop := Below R w w' ∧ ∀ q, q < R ∨ T ≤ q → w'.heap[q]? = w.heap[q]?
theorem WrAt.keptS {R T b R2 T2 : Nat} {l : List UInt8} {w w' : World} (h : WrAt R T b l w) (hk : KeptS R2 T2 w w') (h1 : b < R2) (h2 : T2 ≤ R) : WrAt R T b l w' := by
  obtain ⟨⟨q1, q2, q3⟩, p, v, hp, hbk, hown, hT⟩ := h
  refine ⟨⟨q1, Nat.le_trans q2 hk.1.size, Nat.le_trans q3 hk.1.size⟩, p, v, hp, (hk.2 b (.inl h1)).trans hbk, owns_kept hown (fun k hkk => ?_), hT⟩
  have := owns_block hown k hkk
  exact hk.2 k (.inr (by omega))
theorem WrAt.fresh {w : World} {b : Nat} (R : Nat) (hb : b < R) (hR : R ≤ w.heap.size) (h : w.heap[b]? = some (.cells #[.pointer none, .slice none 0 0] 161 (0, 0))) : WrAt R R b [] w :=
  ⟨⟨hb, hR, hR⟩, _, _, .inl rfl, h, ⟨by simp [Lib.byteCells], .inl ⟨rfl, rfl⟩⟩, fun k hk => by simp [Value.ownBlock] at hk⟩
theorem freeze_block (w : World) (a : Addr) (n q : Nat) (h : q ≠ a.block) : (w.freeze a n).heap[q]? = w.heap[q]? := by
  unfold World.freeze
  split
  · rfl
  · simp only [Array.getElem?_modify]
    rw [if_neg (fun e => h e.symm)]
theorem infoByte : (Tryz.prog.info? 5).map (fun i => (i.zero, i.size, i.bytes)) = some (some (.int .u8 0), 1, 1) := by kernel_rfl

theorem copyCheck (R T b : Nat) (l : List UInt8) (w : World) (h : WrAt R T b l w) :
    Calls Tryz.prog 169 #[.pointer (some ⟨b, 0, none⟩)] w fun e w' => e = .returned (.tuple #[]) ∧ KeptW R b w w' ∧ R ≤ w'.heap.size ∧ ∃ v, w'.heap[b]? = some (.cells #[.pointer (some ⟨b, 0, none⟩), v] 161 (0, 0)) ∧ w'.ownsRow R 5 1 v l.length (Lib.byteCells l) := by
  obtain ⟨⟨h1, h2, _⟩, p, v, hp, hbk, hown, _⟩ := h
  rcases hp with rfl | rfl
  · refine (copyFresh b w (by rw [Lib.cell_of_heap hbk]; rfl) (by simp [World.shape?, hbk]) (Lib.frozen_of_heap hbk 0)).mono ?_
    rintro e w' ⟨rfl, rfl⟩
    refine ⟨rfl, ⟨fun B hB => (Below.refl B w).setCell (p := ⟨b, 0, none⟩) hB _, fun q _ h => Below.heap_setCell _ _ _ _ h, by simp⟩, by simpa using h2, v, ?_, ?_⟩
    · rw [Joins.block_setCell hbk]; rfl
    · obtain ⟨o1, o2⟩ := hown
      refine ⟨o1, ?_⟩
      rcases o2 with o2 | ⟨g, cap, cur, hv, hg, hh, hr⟩
      · exact .inl o2
      · exact .inr ⟨g, cap, cur, hv, hg, by rw [Below.heap_setCell _ _ _ _ (show g ≠ b by omega)]; exact hh, hr⟩
  · refine (copyUsed b w (by rw [Lib.cell_of_heap hbk]; rfl)).mono ?_
    rintro e w' ⟨rfl, rfl⟩
    exact ⟨rfl, ⟨fun B _ => Below.refl B _, fun _ _ _ => rfl, Nat.le_refl _⟩, h2, v, hbk, hown⟩

set_option maxRecDepth 100000 in
set_option maxHeartbeats 1000000 in
theorem writeString (R T b : Nat) (l : List UInt8) (s : ByteArray) (w : World) (h : WrAt R T b l w) (hlen : l.length + s.size ≤ 140737488355328) :
    Calls Tryz.prog 122 #[.pointer (some ⟨b, 0, none⟩), .string s] w fun e w' => e = .returned (.tuple #[.int .i64 s.size, .nilIface]) ∧ WrAt R w'.heap.size b (l ++ s.data.toList) w' ∧ KeptW R b w w' := by
  obtain ⟨i0, hi, hz0, hz1, hz2⟩ := info_parts infoByte
  have hbR := h.1.1
  go_enter Tryz.func122, Tryz.ntmps122
  go_wp2_with fail
  refine (copyCheck R T b l _ h).mono ?_
  rintro e w1 ⟨rfl, hk, hR1, v, hbk, hown⟩
  have HK := Lib.hid hk
  clear hk
  have c0 : w1.cell? ⟨b, 0, none⟩ = some (.pointer (some ⟨b, 0, none⟩)) := by rw [Lib.cell_of_heap hbk]; rfl
  have c1 : w1.cell? ⟨b, 1, none⟩ = some v := by rw [Lib.cell_of_heap hbk]; rfl
  go_wp2_with (at_builtin; refine Lib.wpList_append_own_string _ rfl _ _ 52 9 rfl R 5 i0 Tryz.underlying52 Tryz.underlying9 hi hz0 hz1 hz2 _ _ _ rfl hown s rfl ?c3 ?c4 ?c5 ?_)
  case c3 => unfold maxLen; omega
  case c4 => omega
  case c5 => omega
  intro v' w2 hown' hgrow _
  have hlt : b < w1.heap.size := by omega
  have hne : v.ownBlock ≠ some b := fun e => by
    have := owns_block hown b e
    omega
  have hb2 : w2.heap[b]? = some (.cells #[.pointer (some ⟨b, 0, none⟩), v] 161 (0, 0)) := by
    rw [hgrow.block b hlt (fun e => hne e.symm)]
    exact hbk
  have d0 : w2.cell? ⟨b, 0, none⟩ = some (.pointer (some ⟨b, 0, none⟩)) := by rw [Lib.cell_of_heap hb2]; rfl
  have d1 : w2.cell? ⟨b, 1, none⟩ = some v := by rw [Lib.cell_of_heap hb2]; rfl
  have f1 : w2.frozen? ⟨b, 1, none⟩ = false := Lib.frozen_of_heap hb2 1
  obtain ⟨ao, n', cap, rfl⟩ : ∃ ao n' cap, v' = .slice ao n' cap := by
    rcases hown'.2 with ⟨hv, _⟩ | ⟨g, cap, cur, hv, _⟩
    · exact ⟨_, _, _, hv⟩
    · exact ⟨_, _, _, hv⟩
  have HW := Lib.hid hown'
  have HB2 := Lib.hid hb2
  have HG := Lib.hid hgrow
  clear hown' hb2 hgrow
  go_wp2
  go_ret2
  have hsz := HG.out.size
  have hb3 : (w2.setCell ⟨b, 1, none⟩ (.slice ao n' cap)).heap[b]? = some (.cells #[.pointer (some ⟨b, 0, none⟩), .slice ao n' cap] 161 (0, 0)) := by rw [Joins.block_setCell HB2.out]; rfl
  have hw : w2.ownsRow R 5 1 (.slice ao n' cap) (l ++ s.data.toList).length (Lib.byteCells (l ++ s.data.toList)) := by
    have := HW.out
    rw [Lib.strCells_eq] at this
    simpa [Lib.byteCells] using this
  have hw2 : ∀ k, (Value.slice ao n' cap).ownBlock = some k → R ≤ k ∧ k < w2.heap.size := fun k hk => by
    refine ⟨owns_block hw k hk, ?_⟩
    rcases hw.2 with ⟨e, _⟩ | ⟨g, cap', cur, e, _, hh, _⟩
    · rw [e] at hk; simp [Value.ownBlock] at hk
    · rw [e] at hk
      simp [Value.ownBlock] at hk
      subst hk
      exact (Array.getElem?_eq_some_iff.1 hh).1
  refine ⟨rfl, ⟨⟨hbR, by simp; omega, Nat.le_refl _⟩, _, _, .inr rfl, hb3, owns_kept hw (fun k hk => Below.heap_setCell _ _ _ _ (show k ≠ b by have := hw2 k hk; omega)), fun k hk => by simpa using (hw2 k hk).2⟩, HK.out.trans ⟨fun B hB => ?_, fun q h1 h2 => ?_, by simpa using hsz⟩⟩
  · refine ((Below.refl B w1).grown HG.out (by omega) (fun k hk => ?_)).setCell (p := ⟨b, 1, none⟩) hB _
    have := owns_block hown k hk
    omega
  · rw [Below.heap_setCell _ _ _ _ h2]
    refine HG.out.block q (by rcases h1 with h1 | h1 <;> first | omega | exact h1.lt) (fun e => ?_)
    rcases h1 with h1 | ⟨c, ty, z, h1, h3⟩
    · have := owns_block hown q e.symm
      omega
    · rcases hown.2 with ⟨e2, _⟩ | ⟨g, cap', cur, e2, _, hh, _⟩
      · rw [e2] at e; simp [Value.ownBlock] at e
      · rw [e2] at e
        simp [Value.ownBlock] at e
        subst e
        rw [h1] at hh
        cases hh
        exact h3 rfl

set_option maxRecDepth 100000 in
set_option maxHeartbeats 2000000 in
/-- String of a builder that holds a byte at least -/
theorem builderString (R T b : Nat) (l : List UInt8) (w : World) (h : WrAt R T b l w) (h0 : l ≠ []) :
    Calls Tryz.prog 127 #[.pointer (some ⟨b, 0, none⟩)] w fun e w' => e = .returned (.string ⟨l.toArray⟩) ∧ KeptS R T w w' := by
  obtain ⟨⟨hbR, hRs, _⟩, p, v, hp, hbk, hown, hT⟩ := h
  have hl0 : l.length ≠ 0 := by simpa using h0
  obtain ⟨g, cap, cur, rfl, hbg, hg, hnc, hcm, hcs, htake⟩ : ∃ g cap cur, v = .slice (some ⟨g, 0, none⟩) l.length cap ∧ R ≤ g ∧ w.heap[g]? = some (.cells cur 5 (0, 0)) ∧ l.length ≤ cap ∧ cap ≤ maxLen ∧ cur.size = cap * 1 ∧ cur.toList.take (l.length * 1) = Lib.byteCells l := by
    rcases hown.2 with ⟨_, hz⟩ | ⟨g, cap, cur, hv, r⟩
    · exact absurd hz hl0
    · exact ⟨g, cap, cur, hv, r⟩
  have c1 : w.drew.cell? ⟨b, 1, none⟩ = some (.slice (some ⟨g, 0, none⟩) l.length cap) := by
    have : w.drew.heap[b]? = some (.cells #[p, .slice (some ⟨g, 0, none⟩) l.length cap] 161 (0, 0)) := hbk
    rw [Lib.cell_of_heap this]; rfl
  have hSD : ∀ ty, (Builtin.unsafeSliceData_ #[52] ty #[.slice (some ⟨g, 0, none⟩) l.length cap]).run Tryz.prog w.drew = .ok (.pointer (some ⟨g, 0, none⟩)) w.drew := fun ty =>
    Lib.run_unsafeSliceData_row _ _ _ _ _ _ (by omega)
  have hUS : (Builtin.unsafeString_ #[287, 3] 9 #[.pointer (some ⟨g, 0, none⟩), .int .i64 l.length]).run Tryz.prog w.drew = .ok (.string ⟨l.toArray⟩) (w.drew.freeze ⟨g, 0, none⟩ l.length) := by
    refine Lib.run_unsafeString_row w.drew 287 3 9 5 Tryz.underlying287 (by kernel_rfl) g cur.size (by have hg' : w.drew.heap[g]? = some (.cells cur 5 (0, 0)) := hg; simp [World.shape?, hg']) l h0 (by omega) (by unfold maxLen at hcm; omega) ?_
    intro j x hx
    have := hown.cells (g := g) rfl j (.int .u8 x.toNat) (by simp [Lib.byteCells, hx])
    exact this
  have hgT : g < T := hT g (by simp [Value.ownBlock])
  go_enter Tryz.func127, Tryz.ntmps127
  go_wp2_with fail
  go_region
  all_goals (go_wp2; go_ret; exact ⟨rfl, Lib.below_freeze (Below.drew (Below.refl R w)) (p := ⟨g, 0, none⟩) hbg _, fun q hq => freeze_block w.drew _ _ _ (show q ≠ g by omega)⟩)
end Go.Proofs.YtefnkoofgpmmmaaGreatDoor

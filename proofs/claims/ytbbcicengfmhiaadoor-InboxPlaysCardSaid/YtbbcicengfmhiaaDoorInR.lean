/- A row of releases of one's own: cells put, cells cleared, the row cut. No program here but a type's number. -/
import Derived.Test.YtbbcicengfmhiaaDoorIn3
import Derived.Test.YtbbcicengfmhiaaDoorRel2
import Derived.Lib.SliceRun
namespace Go.Proofs.YtbbcicengfmhiaaDoor
set_option maxRecDepth 100000
open Go.RowKit

/-- the block holds the releases and something behind -/
def RowR (g : Nat) (xs : List Rel) (J : List Value) (w : World) : Prop := BlkIs w g (xs.flatMap encR ++ J) 75
theorem RowR.below {g : Nat} {xs : List Rel} {J : List Value} {w w' : World} (h : RowR g xs J w) (hb : Below w.heap.size w w') : RowR g xs J w' := BlkIs.below h hb
theorem RowR.cell {g : Nat} {xs : List Rel} {J : List Value} {w : World} (h : RowR g xs J w) {i j : Nat} (hi : i < xs.length) (hj : j < 5) {u : Value} (hu : (encR xs[i]!)[j]? = some u) : w.cell? ⟨g, i * 5 + j, none⟩ = some u := by
  rw [BlkIs.cell h, flat_cell xs J i j hi hj, hu]
theorem RowR.set {g : Nat} {xs : List Rel} {J : List Value} {w : World} (h : RowR g xs J w) {i : Nat} (hi : i < xs.length) (x : Rel) :
    RowR g (xs.set i x) J (((((w.setCell ⟨g, i * 5, none⟩ (.int .i64 x.1)).setCell ⟨g, i * 5 + 1, none⟩ (.int .i64 x.2.1)).setCell ⟨g, i * 5 + 1 + 1, none⟩ (.int .i64 x.2.2.1)).setCell ⟨g, i * 5 + 1 + 1 + 1, none⟩ (.int .i64 x.2.2.2.1)).setCell ⟨g, i * 5 + 1 + 1 + 1 + 1, none⟩ (.string x.2.2.2.2)) := by
  have := ((((BlkIs.set (o := i * 5) h (.int .i64 x.1)).set (o := i * 5 + 1) (.int .i64 x.2.1)).set (o := i * 5 + 1 + 1) (.int .i64 x.2.2.1)).set (o := i * 5 + 1 + 1 + 1) (.int .i64 x.2.2.2.1)).set (o := i * 5 + 1 + 1 + 1 + 1) (.string x.2.2.2.2)
  unfold RowR
  rw [← flat_set xs i x hi J]
  exact this
theorem below_set5 {B g o : Nat} {w0 w : World} (h : Below B w0 w) (hB : B ≤ g) (a b c d e : Value) : Below B w0 (((((w.setCell ⟨g, o, none⟩ a).setCell ⟨g, o + 1, none⟩ b).setCell ⟨g, o + 1 + 1, none⟩ c).setCell ⟨g, o + 1 + 1 + 1, none⟩ d).setCell ⟨g, o + 1 + 1 + 1 + 1, none⟩ e) :=
  ((((h.setCell (p := ⟨g, o, none⟩) hB a).setCell (p := ⟨g, o + 1, none⟩) hB b).setCell (p := ⟨g, o + 1 + 1, none⟩) hB c).setCell (p := ⟨g, o + 1 + 1 + 1, none⟩) hB d).setCell (p := ⟨g, o + 1 + 1 + 1 + 1, none⟩) hB e
/-- a row of one's own: none, or a block -/
theorem RowR.of_owns {w : World} {B : Nat} {v : Value} {xs : List Rel} (h : w.ownsRow B 75 5 v xs.length (xs.flatMap encR)) : (v = .slice none 0 0 ∧ xs = []) ∨ ∃ g cap J, v = .slice (some ⟨g, 0, none⟩) xs.length cap ∧ B ≤ g ∧ RowR g xs J w ∧ xs.length ≤ cap ∧ cap ≤ maxLen ∧ (xs.flatMap encR ++ J).length = cap * 5 := by
  rcases h.2 with ⟨hv, h0⟩ | ⟨g, cap, cur, hv, hB, hg, h1, h2, h3, h4⟩
  · exact .inl ⟨hv, List.eq_nil_of_length_eq_zero h0⟩
  · refine .inr ⟨g, cap, cur.toList.drop (xs.length * 5), hv, hB, ?_, h1, h2, ?_⟩
    · show w.heap[g]? = _
      rw [← h4, List.take_append_drop, Array.toArray_toList]
      exact hg
    · rw [← h4, List.take_append_drop]
      simpa using h3
theorem RowR.owns {w : World} {B g n cap : Nat} {xs ys : List Rel} {J : List Value} (h : RowR g xs J w) (hB : B ≤ g) (hn : n = ys.length) (hy : ys = xs.take n) (hle : n ≤ xs.length) (hc : xs.length ≤ cap) (hm : cap ≤ maxLen) (hl : (xs.flatMap encR ++ J).length = cap * 5) :
    w.ownsRow B 75 5 (.slice (some ⟨g, 0, none⟩) n cap) ys.length (ys.flatMap encR) := by
  have hfl := flat_length (enc := encR) encR_len ys
  refine ⟨hfl, .inr ⟨g, cap, (xs.flatMap encR ++ J).toArray, by rw [hn], hB, h, by omega, hm, by simpa using hl, ?_⟩⟩
  subst hn
  conv => lhs; rw [← List.take_append_drop ys.length xs, ← hy]
  simp only [List.flatMap_append, List.append_assoc]
  rw [← show (ys.flatMap encR).length = ys.length * 5 from hfl]
  simp
/-- 'clear' over a row: something else lies there, nothing else turns -/
theorem run_clear_row {P : Program} {n : Nat} (w : World) (t e ty : TypeId) (z : Value) (ht : P.underlying t = some (.slice e)) (hv : ∀ w, (zeroValue e).run P w = .ok z w) (h1 : ∀ v ∈ (Builtin.zeroCells z.cells n).toList, v.oneCell' = true) (b o c : Nat) (cs : List Value) (T : TypeId) (hB : BlkIs w b cs T)
    (hfit : o + n * z.cells.size ≤ cs.length) :
    (Builtin.clear_ #[t] ty #[.slice (some ⟨b, o, none⟩) n c]).run P w = .ok (.tuple #[]) (w.setCells b o (Builtin.zeroCells z.cells n).toList) := by
  have hlen : (Builtin.zeroCells z.cells n).toList.length = n * z.cells.size := by simp [size_zeroCells]
  have hth := hB.there (o := o) (n := n * z.cells.size) hfit
  have hst := run_storeCells_cells (P := P) b o (Builtin.zeroCells z.cells n).toList 0 w (fun j hj => by have := (hth j (by omega)).1; simpa using this) (fun j hj => by have := (hth j (by omega)).2; simpa using this) h1
  simp only [Nat.add_zero] at hst
  cases n with
  | zero =>
    simp [Builtin.clear_, run_underlying ht, Builtin.zeroCells, World.setCells]
  | succ m => simp [Builtin.clear_, run_underlying ht, hv, hst]
theorem zero_one (z : Array Value) (h : z.all (·.oneCell') = true) (hz : 0 < z.size) (n : Nat) : ∀ v ∈ (Builtin.zeroCells z n).toList, v.oneCell' = true := by
  intro v hv
  simp only [Builtin.zeroCells, Array.toList_map, List.mem_map] at hv
  obtain ⟨i, _, rfl⟩ := hv
  have hm : i % z.size < z.size := Nat.mod_lt _ hz
  rw [getElem!_pos z _ hm]
  exact Array.all_eq_true_iff_forall_mem.1 h _ (Array.getElem_mem hm)
/-- called over any world that has the old blocks, the predicate tells -/
def PredU (P : Program) (g : Nat) (lb : Array Value) (p : Rel → Bool) (B : Nat) (w0 : World) : Prop :=
  ∀ (W : World) (x : Rel), Below B w0 W → Calls P g (#[.agg (encR x).toArray] ++ lb) W fun e w' => e = .returned (.bool (p x)) ∧ Below W.heap.size W w'
theorem PredU.at {P : Program} {g : Nat} {lb : Array Value} {p : Rel → Bool} {B : Nat} {w0 w : World} (h : PredU P g lb p B w0) (hb : Below B w0 w) (hB : B ≤ w.heap.size) : PredB P g lb encR p w :=
  fun W x h2 => (h W x (hb.trans (h2.mono hB))).mono fun _ _ ⟨h3, h4⟩ => ⟨h3, h2.trans (h4.mono h2.size)⟩
theorem lateU (p : Nat) (now : Int) (B : Nat) (w0 : World) (hp : p < B) (h1 : w0.cell? ⟨p, 0, none⟩ = some (.int .i64 now)) : PredU Tryd.prog 94 #[.pointer (some ⟨p, 0, none⟩)] (fun r => decide (now ≤ r.1)) B w0 := by
  intro W x hb
  obtain ⟨a, b, c, d, s⟩ := x
  have hx := below1 W (.cells #[.int .i64 a, .int .i64 b, .int .i64 c, .int .i64 d, .string s] 75)
  have g1 := (hb.cell (p := ⟨p, 0, none⟩) hp).trans h1
  have d1 := (hx.cell (p := ⟨p, 0, none⟩) (cellW_lt g1)).trans g1
  have HX := Lib.hid hx
  clear hx h1 hp g1
  show Calls Tryd.prog 94 #[.agg #[.int .i64 a, .int .i64 b, .int .i64 c, .int .i64 d, .string s], .pointer (some ⟨p, 0, none⟩)] W fun e w' => e = .returned (.bool (decide (now ≤ a))) ∧ Below W.heap.size W w'
  go_enter Tryd.func94, Tryd.ntmps94
  by_cases e1 : now ≤ a
  · have HR := Lib.hid (show decide (now ≤ a) = true by simpa using e1)
    go_wp2
    go_ret
    exact ⟨by rw [HR.out]; rfl, HX.out⟩
  · have HR := Lib.hid (show decide (now ≤ a) = false by simpa using e1)
    go_wp2
    go_ret
    exact ⟨by rw [HR.out]; rfl, HX.out⟩
end Go.Proofs.YtbbcicengfmhiaaDoor

/- A gate's vote. Conditions: said at each. -/
import Derived.Test.YtefnkoofgpmmmaaGreatDoorGat1
import Derived.Test.YtefnkoofgpmmmaaGreatDoorHasI
import Derived.RegionTactic
import Derived.ChangeAlike
import Derived.BigRegion
import Derived.Laws.EntriesVeiled
import Derived.Lib.SmallJoins
namespace Go.Proofs.YtefnkoofgpmmmaaGreatDoor
open Go.RowKit

set_option maxHeartbeats 1000000 in
theorem cloneI (v : Value) (xs : List Int) (w : World) (hS : SlAt 1 encI w v xs) (hbig : xs.length ≤ 1000) :
    Calls Tryz.prog 193 #[v] w fun e w' => ∃ v', e = .returned v' ∧ w'.ownsRow w.heap.size 3 1 v' xs.length (flat encI xs) ∧ Below w.heap.size w w' := by
  obtain ⟨pp, c, rfl, hn, hcell⟩ := hS
  have q22 : ∀ (w : World) (a : Option Addr) (n c n' c' : Nat), (binOp .eql 53 (.slice a n c) (.slice none n' c')).run Tryz.prog w = .ok (.bool a.isNone) w := fun w a n c n' c' => Lib.run_eql_slice_nil w _ _ a n c n' c' Tryz.underlying53
  obtain ⟨i0, hi, hz0, hz1, hz2⟩ := info_int
  have HI := Lib.hid hi
  have HZ := Lib.hid hz0
  have HC := Lib.hid hcell
  have HNI := Lib.hid hn
  clear hi hz0 hcell hn
  have hlen : (flat encI xs).length = xs.length * 1 := flat_length (enc := encI) (fun _ => rfl) xs
  go_enter Tryz.func193, Tryz.ntmps193
  cases pp with
  | none =>
    obtain ⟨rfl, rfl⟩ := HNI.out.2 rfl
    go_wp2
    go_ret
    exact ⟨_, rfl, ⟨by simp [flat], .inl ⟨rfl, rfl⟩⟩, Below.refl _ _⟩
  | some ad =>
    go_wp2_with (at_builtin; refine wpList_append_own _ rfl _ _ 53 rfl w.heap.size 3 i0 (.int .i64 0) 1 8 Tryz.underlying53 HI.out HZ.out hz1 hz2 rfl (by decide) _ _ _ rfl (World.ownsRow_made w #[] 0 (Nat.le_refl _) (Nat.zero_le _) (by simp)) ad xs.length c (flat encI xs) rfl ?qc1 ?qc2 ?qc3 ?qc4 ?qc5 ?qc6 ?_)
    case qc1 => exact hlen
    case qc2 =>
      intro j u hj
      have hpos : 0 < xs.length := by
        have := (List.getElem?_eq_some_iff.1 hj).1
        omega
      obtain ⟨b, off, hp, hb, hc⟩ := HC.out hpos
      obtain rfl : ad = ⟨b, off, none⟩ := by simpa using hp
      rw [Go.WideShapes.add_plain]
      exact Lib.cell?_alloc_some _ (SlAt.flat_cells (enc := encI) (by decide) (fun _ => rfl) hc j u hj)
    case qc3 => rw [flatI]; exact oneI xs
    case qc4 => rw [Nat.zero_add]; unfold maxLen; omega
    case qc5 => omega
    case qc6 => simp
    intro v' w1 hown hgrow hnil
    go_wp2
    go_ret
    refine ⟨v', rfl, by simpa using hown, ?_⟩
    exact ((Below.refl _ w).alloc (Nat.le_refl _) _).grown hgrow (by simp) (by intro k hk; simp [Value.ownBlock] at hk; omega)

theorem gateHas (x : Int) (v : Value) (no : Bool) (xs : List Int) (w : World) (hS : SlAt 1 encI w v xs) (hbig : xs.length ≤ 9223372036854775807) :
    Calls Tryz.prog 227 #[.agg #[v, .bool no], .int .i64 x] w fun e w' => e = .returned (.bool (xs.any fun y => x == y)) ∧ Below w.heap.size w w' := by
  obtain ⟨p, c, rfl, _, _⟩ := id hS
  have HS := Lib.hid (hasI x _ xs (w.alloc (.cells #[.slice p xs.length c, .bool no] 221)) (hS.below (below1 _ _)) hbig)
  clear hS
  go_enter Tryz.func227, Tryz.ntmps227
  go_wp2_with fail
  refine HS.out.mono ?_
  rintro e w' ⟨rfl, rfl⟩
  go_wp2
  go_ret
  exact ⟨rfl, below1 _ _⟩

/-- the first place of one behind him, or the end -/
def posL (xs : List Int) (who : Int) : Nat := match xs.findIdx? (fun k => decide (who < k)) with | some i => i | none => xs.length
theorem posL_le (xs : List Int) (who : Int) : posL xs who ≤ xs.length := by
  unfold posL
  cases h : xs.findIdx? (fun k => decide (who < k)) with
  | none => exact Nat.le_refl _
  | some i =>
    obtain ⟨hi, _⟩ := List.findIdx?_eq_some_iff_getElem.1 h
    exact Nat.le_of_lt hi
/-- asked of a predicate over ints -/
def PredI (g : Nat) (lb : Array Value) (p : Int → Bool) (w : World) : Prop :=
  ∀ (W : World) (x : Int), Below w.heap.size w W → Calls Tryz.prog g (#[.int .i64 x] ++ lb) W fun e w' => e = .returned (.bool (p x)) ∧ Below w.heap.size w w'
set_option maxRecDepth 100000 in
theorem pred79 (B : Nat) (who : Int) (w : World) (hB : B < w.heap.size) (hc : w.cell? ⟨B, 0, none⟩ = some (.int .i64 who)) :
    PredI 253 #[.pointer (some ⟨B, 0, none⟩)] (fun k => decide (who < k)) w := fun W x hb => by
  have hc' := (hb.cell (p := ⟨B, 0, none⟩) hB).trans hc
  have h2 : Calls Tryz.prog 253 #[.int .i64 x, .pointer (some ⟨B, 0, none⟩)] W fun e w' => e = .returned (.bool (decide (who < x))) ∧ Below w.heap.size w w' := by
    go_enter Tryz.func253, Tryz.ntmps253
    go_wp2
    go_ret
    exact ⟨rfl, hb⟩
  exact h2
theorem eg79 : ∀ args w, (callFunc 253 args).run Tryz.prog w = .ok (.enter 253 args) w := enters_of Tryz.func253 (by kernel_rfl) rfl
set_option maxHeartbeats 1000000 in
theorem idxFuncI (p : Int → Bool) (g : Nat) (lb : Array Value) (eg : ∀ args w, (callFunc g args).run Tryz.prog w = .ok (.enter g args) w) (v : Value) (xs : List Int) (w : World)
    (hS : SlAt 1 encI w v xs) (hbig : xs.length ≤ 9223372036854775807) (hp : PredI g lb p w) :
    Calls Tryz.prog 229 #[v, .func (.func g) #[] lb] w fun e w' => e = .returned (.int .i64 (idxI p xs)) ∧ Below w.heap.size w w' := by
  obtain ⟨pp, c, rfl, hn, hcell⟩ := hS
  have HC := Lib.hid hcell
  have HP := Lib.hid hp
  clear hn hcell hp
  generalize hlen : xs.length = n at hbig
  have HL := Lib.hid hlen
  clear hlen
  go_enter Tryz.func229, Tryz.ntmps229
  go_wp2
  go_loopw [5, 8] (fun _ i wr => ∃ j : Nat, j ≤ n ∧ i = .int .i64 j ∧ Below w.heap.size w wr ∧ ∀ k, k < j → p xs[k]! = false) (fun _ i _ => n - (intOf i).toNat)
  case atStart => exact ⟨0, by omega, rfl, Below.refl _ _, fun k hk => absurd hk (by omega)⟩
  case round =>
    obtain ⟨j, hj, rfl, hB, hall⟩ := hrel
    have HB := Lib.hid hB
    have HA := Lib.hid hall
    clear hB hall
    by_cases hlt : j < n
    · have hltz : (j : Int) < (n : Int) := by omega
      obtain ⟨b, off, rfl, hb, hc⟩ := HC.out (by have := HL.out; omega)
      have hc0 : wr.cell? ⟨b, off + j, none⟩ = some (.int .i64 xs[j]!) := (HB.out.cell (p := ⟨b, off + j, none⟩) hb).trans (by have := hc j (by have := HL.out; omega) 0 _ rfl; simpa using this)
      clear hc
      have hcall := HP.out wr xs[j]! HB.out
      cases hq : p xs[j]!
      · rw [hq] at hcall
        have HQ := Lib.hid hq
        clear hq
        generalize xs[j]! = x at hc0 hcall
        go_wp2_with (go_at_fn g; refine hcall.mono ?_; rintro e w' ⟨rfl, hb'⟩)
        go_roundw
        case rel => exact ⟨j + 1, by omega, by go_num, hb', fun k hk => by by_cases e : k = j; (subst e; exact HQ.out); exact HA.out k (by omega)⟩
        case measure => simp [intOf] <;> omega
      · rw [hq] at hcall
        have HQ := Lib.hid hq
        clear hq
        have hres := idxI_hit (by have := HL.out; omega) HQ.out HA.out
        generalize xs[j]! = x at hc0 hcall
        go_wp2_with (go_at_fn g; refine hcall.mono ?_; rintro e w' ⟨rfl, hb'⟩)
        go_ret
        exact ⟨by rw [hres]; rfl, hb'⟩
    · obtain rfl : j = n := by omega
      have hres := idxI_miss (p := p) (xs := xs) (by have := HL.out; have := HA.out; subst j; exact HA.out)
      go_wp2
      go_ret
      exact ⟨by rw [hres]; rfl, HB.out⟩

/-- who is for it behind a vote -/
def voteL (xs : List Int) (who : Int) (yes : Bool) : List Int := if (yes && (inR 12 who && !xs.any fun y => who == y)) = true then insL xs (posL xs who) who else xs
theorem SlAt.set {α : Type} [Inhabited α] {k : Nat} {enc : α → List Value} {w : World} {v : Value} {xs : List α} (h : SlAt k enc w v xs) {q : Nat} (i : Nat) (u : Value) (hne : v.ownBlock ≠ some q) : SlAt k enc (w.setCell ⟨q, i, none⟩ u) v xs := by
  obtain ⟨p, c, rfl, hn, hc⟩ := h
  refine ⟨p, c, rfl, hn, fun hl => ?_⟩
  obtain ⟨b, off, rfl, hlt, hcell⟩ := hc hl
  have hb : b ≠ q := fun e => hne (by simp [Value.ownBlock, e])
  exact ⟨b, off, rfl, by simpa using hlt, fun j hj m u' hu => (World.cell?_of_block (w := w) (Below.heap_setCell _ _ _ _ hb)).trans (hcell j hj m u' hu)⟩
/-- the boxes of a vote under way -/
def BoxV (w wr : World) (v : Value) (no : Bool) (who : Int) : Prop :=
  Below w.heap.size w wr ∧ w.heap.size + 2 < wr.heap.size ∧ (wr.heap[w.heap.size]? = some (.cells #[v, .bool no] 221 (0, 0))) ∧ (wr.heap[w.heap.size + 1]? = some (.cells #[.int .i64 who] 3 (0, 0))) ∧ ∃ a b, wr.heap[w.heap.size + 2]? = some (.cells #[a, b] 221 (0, 0))
theorem BoxV.next {w wr w2 : World} {v : Value} {no : Bool} {who : Int} {B : Nat} (h : BoxV w wr v no who) (hb : Below B wr w2) (hB : w.heap.size + 2 < B) : BoxV w w2 v no who := by
  obtain ⟨h1, h2, h3, h4, a, b, h5⟩ := h
  exact ⟨h1.trans (hb.mono (by omega)), Nat.lt_of_lt_of_le h2 hb.size, (hb.block _ (by omega)).trans h3, (hb.block _ (by omega)).trans h4, a, b, (hb.block _ (by omega)).trans h5⟩
theorem BoxV.setV {w wr : World} {v v' : Value} {no : Bool} {who : Int} (h : BoxV w wr v no who) : BoxV w (wr.setCell ⟨w.heap.size, 0, none⟩ v') v' no who := by
  obtain ⟨h1, h2, h3, h4, a, b, h5⟩ := h
  refine ⟨h1.setCell (p := ⟨w.heap.size, 0, none⟩) (Nat.le_refl _) _, by simpa using h2, ?_, ?_, a, b, ?_⟩
  · rw [Joins.block_setCell h3]; rfl
  · rw [Below.heap_setCell _ _ _ _ (show w.heap.size + 1 ≠ w.heap.size by omega)]; exact h4
  · rw [Below.heap_setCell _ _ _ _ (show w.heap.size + 2 ≠ w.heap.size by omega)]; exact h5
theorem BoxV.setNo {w wr : World} {v : Value} {no no' : Bool} {who : Int} (h : BoxV w wr v no who) : BoxV w (wr.setCell ⟨w.heap.size, 1, none⟩ (.bool no')) v no' who := by
  obtain ⟨h1, h2, h3, h4, a, b, h5⟩ := h
  refine ⟨h1.setCell (p := ⟨w.heap.size, 1, none⟩) (Nat.le_refl _) _, by simpa using h2, ?_, ?_, a, b, ?_⟩
  · rw [Joins.block_setCell h3]; rfl
  · rw [Below.heap_setCell _ _ _ _ (show w.heap.size + 1 ≠ w.heap.size by omega)]; exact h4
  · rw [Below.heap_setCell _ _ _ _ (show w.heap.size + 2 ≠ w.heap.size by omega)]; exact h5
end Go.Proofs.YtefnkoofgpmmmaaGreatDoor

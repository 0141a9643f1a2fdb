/- A list of a codec's calls: among the arguments; may it be played? -/
import Derived.Test.YtpkmgdpnimecfabDoorCbk2
import Derived.Test.YtpkmgdpnimecfabDoorSl
import Derived.Deep.Slices
namespace Go.Proofs.YtpkmgdpnimecfabDoor
open Go.ChangeShapes Go.WideShapes Go.ChangeAt Go.RowKit Go.Deep Go.Joins
section
variable {H : Type} {enc : TypeId × Value → H} {w : World} {base : Nat} {spare : Nat → Bool} {held : Bool}
/-- a slice of structs among the arguments -/
theorem open_structs {α : Type} [Inhabited α] {k : Nat} {encA : α → List Value} (hk0 : 0 < k) (hk : ∀ x, (encA x).length = k) {ok : α → Prop} {t e : TypeId} {v : Value} {d : DataW H} {p : List MemPlace}
    (ht : Tryd.prog.underlying t = some (.slice e)) (hC : Tryd.prog.cellsOf e = k)
    (hel : ∀ (n : Nat) (cs : List Value) (y : DataW H × List MemPlace), DataW.trod enc Tryd.prog w base spare held n e cs = some y → ∃ x : α, ok x ∧ cs = encA x)
    (hc1 : v.cells.toList = [v]) (h : DataW.Trod enc Tryd.prog w base spare held t v d p) : ∃ xs : List α, SlAt k encA w v xs ∧ (∀ j, j < xs.length → ok xs[j]!) ∧ xs.length ≤ maxLen := by
  obtain ⟨fuel, hf⟩ := h
  rcases open_slice ht hf with ⟨h0, _⟩ | ⟨a, len, cap, m, n, D, Pl, hcs, hb, hl, hm, hmm, hx, hi⟩
  · rw [hc1] at h0
    simp only [List.cons.injEq, and_true] at h0
    subst h0
    exact ⟨[], SlAt.nil _ _ _, fun j hj => absurd hj (by simp), by simp⟩
  · rw [hc1] at hcs
    simp only [List.cons.injEq, and_true] at hcs
    subst hcs
    have hlm : len ≤ m := by rw [hmm]; split <;> omega
    have each : ∀ i, i < len → ∃ x : α, ok x ∧ ∀ (q : Nat) (u : Value), (encA x)[q]? = some u → w.cell? (a.add (i * k + q)) = some u := by
      intro i hi'
      obtain ⟨cs', hc, ht'⟩ := hi i (by omega)
      obtain ⟨x, hok, rfl⟩ := hel _ _ _ ht'
      refine ⟨x, hok, fun q u hu => ?_⟩
      obtain ⟨_, hcl, hat⟩ := World.cells?_some hc
      have hq : q < Tryd.prog.cellsOf e := by rw [hC, ← hk x]; exact (List.getElem?_eq_some_iff.1 hu).1
      have := hat q hq
      rw [← Go.Deep.add_add, ← hC, this, hu]
    have : ∃ xs : List α, xs.length = len ∧ ∀ i, i < len → ok xs[i]! ∧ ∀ (q : Nat) (u : Value), (encA xs[i]!)[q]? = some u → w.cell? (a.add (i * k + q)) = some u := by
      clear hi hx hmm hlm hl hf hc1
      induction len with
      | zero => exact ⟨[], rfl, fun i hi => absurd hi (by omega)⟩
      | succ len ih =>
        obtain ⟨xs, hxl, hxs⟩ := ih (fun i hi => each i (by omega))
        obtain ⟨x, hok, hx⟩ := each len (by omega)
        refine ⟨xs ++ [x], by simp [hxl], fun i hi => ?_⟩
        by_cases e : i = len
        · subst e
          have : (xs ++ [x])[i]! = x := by rw [getElem!_pos _ _ (by simp [hxl])]; simp [hxl]
          rw [this]
          exact ⟨hok, hx⟩
        · have : (xs ++ [x])[i]! = xs[i]! := by rw [getElem!_pos _ _ (by simp; omega), getElem!_pos xs i (by omega)]; rw [List.getElem_append_left (by omega)]
          rw [this]
          exact hxs i (by omega)
    obtain ⟨xs, rfl, hxs⟩ := this
    refine ⟨xs, ⟨some a, cap, rfl, ⟨hl, fun h => nomatch h⟩, fun hpos => ?_⟩, fun j hj => (hxs j hj).1, by omega⟩
    have h00 : 0 < (encA xs[0]!).length := by rw [hk]; exact hk0
    have hc0 := (hxs 0 hpos).2 0 _ (List.getElem?_eq_getElem h00)
    obtain ⟨b, off, spot⟩ := a
    have hspot : spot = none := by simpa [Addr.add] using World.cell?_spot hc0
    subst hspot
    have hblt : b < w.heap.size := by
      rw [Go.WideShapes.add_plain] at hc0
      exact cellW_lt hc0
    refine ⟨b, off, rfl, hblt, fun j hj i u hu => ?_⟩
    have := (hxs j hj).2 i u hu
    rw [Go.WideShapes.add_plain] at this
    rw [Nat.add_assoc]
    exact this
end
instance : Inhabited OpV := ⟨⟨0, 0, 0, 0, ⟨#[]⟩, 0, 0⟩⟩
def fewB (xs : List OpV) : Bool := xs.all (fun o => decide (o.s.size ≤ 300)) && decide (xs.length ≤ 100)
theorem few_yes {xs : List OpV} (h : ∀ j, j < xs.length → xs[j]!.s.size ≤ 300) : xs.all (fun o => decide (o.s.size ≤ 300)) = true := by
  rw [List.all_eq_true]
  intro o ho
  obtain ⟨j, hj, rfl⟩ := List.getElem_of_mem ho
  have := h j hj
  rw [getElem!_pos xs j hj] at this
  simpa using this
theorem few_no {xs : List OpV} {j : Nat} (hj : j < xs.length) (h : ¬ xs[j]!.s.size ≤ 300) : fewB xs = false := by
  unfold fewB
  have : xs.all (fun o => decide (o.s.size ≤ 300)) = false := by
    rw [List.all_eq_false]
    refine ⟨xs[j], List.getElem_mem hj, ?_⟩
    rw [getElem!_pos xs j hj] at h
    simpa using h
  rw [this]
  rfl
set_option maxRecDepth 100000 in
set_option maxHeartbeats 4000000 in
theorem few06 (v : Value) (xs : List OpV) (w : World) (hL : SlAt 7 encO w v xs) (hn : xs.length ≤ maxLen) : Calls Tryd.prog 48 #[v] w fun e w' => e = .returned (.bool (fewB xs)) ∧ Below w.heap.size w w' := by
  have HL := Lib.hid hL
  obtain ⟨pl, cl, rfl, _, _⟩ := id hL
  have hmx : xs.length ≤ 9223372036854775807 := by unfold maxLen at hn; omega
  clear hn
  have HN := Lib.hid (fun j hj (h : ¬ xs[j]!.s.size ≤ 300) => few_no (xs := xs) (j := j) hj h)
  have HY := Lib.hid (fun (h : ∀ j, j < xs.length → xs[j]!.s.size ≤ 300) => show fewB xs = decide (xs.length ≤ 100) by unfold fewB; rw [few_yes h]; rfl)
  generalize fewB xs = R at HN HY ⊢
  clear hL
  go_enter Tryd.func48, Tryd.ntmps48
  go_wp2
  go_loopw [7] (fun i wr => ∃ k : Nat, k ≤ xs.length ∧ i = .int .i64 k ∧ Below w.heap.size w wr ∧ ∀ j, j < k → xs[j]!.s.size ≤ 300) (fun i _ => xs.length - (intOf i).toNat)
  case atStart => exact ⟨0, by omega, rfl, Below.refl _ _, fun j hj => absurd hj (by omega)⟩
  case round =>
    obtain ⟨k, hk, rfl, hb, hall⟩ := hrel
    have HB := Lib.hid hb
    have HA := Lib.hid hall
    clear hb hall
    by_cases hlt : k < xs.length
    · have hltz : (k : Int) < (xs.length : Int) := by omega
      obtain ⟨p', c', hv, _, hc⟩ := HL.out.below HB.out
      simp only [Value.slice.injEq] at hv
      obtain ⟨rfl, _, rfl⟩ := hv
      obtain ⟨bk, off, rfl, hb, hcell⟩ := hc (by omega)
      have d0 := hcell k hlt 0 _ rfl
      have d1 := hcell k hlt 1 _ rfl
      have d2 := hcell k hlt 2 _ rfl
      have d3 := hcell k hlt 3 _ rfl
      have d4 := hcell k hlt 4 _ rfl
      have d5 := hcell k hlt 5 _ rfl
      have d6 : wr.cell? ⟨bk, off + k * 7 + 5 + 1, none⟩ = some (.int .u16 (xs[k]!.set : Int)) := hcell k hlt 6 _ rfl
      rw [Nat.add_zero] at d0
      have HA1 := Lib.hid (fun (h : xs[k]!.s.size ≤ 300) => show ∀ j, j < k + 1 → xs[j]!.s.size ≤ 300 from fun j hj => by
        by_cases e : j = k
        · subst e; exact h
        · exact HA.out j (by omega))
      have HN1 := Lib.hid (HN.out k hlt)
      clear hcell hc
      generalize xs[k]! = o at d0 d1 d2 d3 d4 d5 d6 HA1 HN1
      obtain ⟨k0, n0, lo0, hi0, s0, lv0, x0⟩ := o
      simp only at d0 d1 d2 d3 d4 d5 d6 HA1 HN1
      by_cases hs : s0.size ≤ 300
      · have hsz : ¬ (300 : Int) < (s0.size : Int) := by omega
        go_wp2
        go_roundw
        case rel =>
          have r1 := HB.out.alloc HB.out.size (.cells #[.int .i64 k0, .int .i64 n0, .int .i64 lo0, .int .i64 hi0, .string s0, .int .i64 lv0, .int .u16 (x0 : Int)] 76)
          first | exact ⟨k + 1, by omega, by go_num, r1, HA1.out hs⟩ | ((repeat apply Exists.intro); exact ⟨⟨k + 1, by omega, by go_num, r1, HA1.out hs⟩, rfl⟩)
        case measure => simp [intOf] <;> omega
      · have hsz : (300 : Int) < (s0.size : Int) := by omega
        have HR := Lib.hid (HN1.out hs)
        go_wp2
        go_ret
        exact ⟨by rw [HR.out]; rfl, HB.out.alloc HB.out.size _⟩
    · obtain rfl : k = xs.length := by omega
      have HR := Lib.hid (HY.out HA.out)
      clear HN HY HA
      cases h1 : decide (xs.length ≤ 100) with
      | true =>
        have hz : (xs.length : Int) ≤ 100 := by simp at h1; omega
        go_wp2
        go_ret
        exact ⟨by rw [HR.out, h1]; rfl, HB.out⟩
      | false =>
        have hz : ¬ (xs.length : Int) ≤ 100 := by simp at h1; omega
        go_wp2
        go_ret
        exact ⟨by rw [HR.out, h1]; rfl, HB.out⟩
end Go.Proofs.YtpkmgdpnimecfabDoor

/- The library's functions over []int that a gate calls: one laid into a row of the call's own. Conditions: said at each. -/
import Derived.Test.YtefnkoofgpmmmaaGreatDoorSamI
import Derived.Test.YtefnkoofgpmmmaaGreatDoorIns
namespace Go.Proofs.YtefnkoofgpmmmaaGreatDoor
open Go.RowKit

theorem below_setsG {B b : Nat} (hb : B ≤ b) : ∀ (vs : List Value) (o : Nat) (w0 w : World), Below B w0 w → Below B w0 (w.setCells b o vs)
  | [], _, _, _, h => h
  | v :: r, o, w0, w, h => by rw [World.setCells]; exact below_setsG hb r (o + 1) w0 _ (h.setCell (p := ⟨b, o, none⟩) hb _)
theorem sz_sets (b : Nat) : ∀ (vs : List Value) (o : Nat) (w : World), (w.setCells b o vs).heap.size = w.heap.size
  | [], _, _ => rfl
  | v :: r, o, w => by rw [World.setCells, sz_sets b r]; simp
theorem some_sets (b : Nat) (vs : List Value) (o : Nat) (w : World) (h : ∀ j, j < vs.length → (w.cell? ⟨b, o + j, none⟩).isSome = true) (k : Nat) (hk : (w.cell? ⟨b, k, none⟩).isSome = true) : ((w.setCells b o vs).cell? ⟨b, k, none⟩).isSome = true := by
  by_cases hin : o ≤ k ∧ k < o + vs.length
  · have := World.cell?_setCells_in b vs o w h (k - o) (by omega)
    rw [show o + (k - o) = k by omega] at this
    rw [this]; rfl
  · rw [World.cell?_setCells_out b vs o w ⟨b, k, none⟩ (fun _ _ => by show k < o ∨ o + vs.length ≤ k; omega)]
    exact hk
theorem cell_lt1 {w : World} {b o : Nat} {v : Value} (h : w.cell? ⟨b, o, none⟩ = some v) : b < w.heap.size := by
  unfold World.cell? at h
  cases hh : w.heap[b]? with
  | none => simp [hh] at h
  | some x => exact (Array.getElem?_eq_some_iff.1 hh).1
/-- a number laid in at a place -/
def insL (xs : List Int) (i : Nat) (x : Int) : List Int := xs.take i ++ x :: xs.drop i
theorem insL_len {xs : List Int} {i : Nat} (hi : i ≤ xs.length) (x : Int) : (insL xs i x).length = xs.length + 1 := by simp [insL]; omega
theorem insL_lo {xs : List Int} {i : Nat} (hi : i ≤ xs.length) (x : Int) {j : Nat} (hj : j < i) : (insL xs i x)[j]! = xs[j]! := by
  rw [getElem!_pos _ _ (by rw [insL_len hi]; omega), getElem!_pos xs j (by omega)]
  unfold insL
  rw [List.getElem_append_left (by simp; omega), List.getElem_take]
theorem insL_at {xs : List Int} {i : Nat} (hi : i ≤ xs.length) (x : Int) : (insL xs i x)[i]! = x := by
  rw [getElem!_pos _ _ (by rw [insL_len hi]; omega)]
  unfold insL
  rw [List.getElem_append_right (by simp; omega)]
  simp [show min i xs.length = i by omega]
theorem insL_hi {xs : List Int} {i : Nat} (hi : i ≤ xs.length) (x : Int) {j : Nat} (hj : i < j) (hn : j ≤ xs.length) : (insL xs i x)[j]! = xs[j - 1]! := by
  rw [getElem!_pos _ _ (by rw [insL_len hi]; omega), getElem!_pos xs (j - 1) (by omega)]
  unfold insL
  rw [List.getElem_append_right (by simp; omega)]
  simp only [List.length_take, show min i xs.length = i by omega]
  rw [List.getElem_cons, dif_neg (by omega), List.getElem_drop]
  congr 1
  omega
theorem slI_of {w : World} {b n c : Nat} {ys : List Int} (hn : n = ys.length) (hc : n ≤ c) (hb : b < w.heap.size) (h : ∀ j, j < ys.length → w.cell? ⟨b, j, none⟩ = some (.int .i64 ys[j]!)) : SlAt 1 encI w (.slice (some ⟨b, 0, none⟩) n c) ys := by
  subst hn
  refine ⟨_, _, rfl, ⟨hc, fun h => nomatch h⟩, fun _ => ⟨b, 0, rfl, hb, fun j hj i u hu => ?_⟩⟩
  have hi : i = 0 := by
    have := (List.getElem?_eq_some_iff.1 hu).1
    simp [encI] at this
    exact this
  subst hi
  simp [encI] at hu
  subst hu
  have := h j hj
  simpa using this
theorem flatI (xs : List Int) : flat encI xs = xs.map fun x => Value.int .i64 x := by
  induction xs with
  | nil => rfl
  | cons x r ih => simp only [flat, List.flatMap_cons, encI, List.map_cons] at ih ⊢; rw [ih]; rfl
theorem oneI (xs : List Int) : ∀ u ∈ xs.map (fun x => Value.int .i64 x), u.oneCell' = true := by
  intro u hu
  obtain ⟨x, _, rfl⟩ := List.mem_map.1 hu
  rfl
theorem mapI_get {xs : List Int} {j : Nat} (hj : j < xs.length) : (xs.map fun x => Value.int .i64 x)[j]? = some (.int .i64 xs[j]!) := by
  rw [List.getElem?_map, List.getElem?_eq_getElem hj, getElem!_pos xs j hj]; rfl

theorem rowGet (l : List Value) (Z : Array Value) {j : Nat} (hj : j < l.length) : (l.toArray ++ Z)[j]? = l[j]? := by
  rw [Array.getElem?_append_left (by simpa using hj)]
  simp
set_option maxRecDepth 100000 in
theorem insertI (B : Nat) (v : Value) (xs : List Int) (i : Nat) (x : Int) (vb : Nat) (w : World) (hown : w.ownsRow B 3 1 v xs.length (flat encI xs)) (hB : B ≤ w.heap.size) (hi : i ≤ xs.length) (hlen : xs.length ≤ 1000)
    (hv : w.heap[vb]? = some (.cells #[.int .i64 x] 3 (0, 0))) (hvo : v.ownBlock ≠ some vb) :
    Calls Tryz.prog 254 #[v, .int .i64 i, .slice (some ⟨vb, 0, none⟩) 1 1] w fun e w' => ∃ v', e = .returned v' ∧ SlAt 1 encI w' v' (insL xs i x) ∧ Below B w w' ∧ ∀ k, v'.ownBlock = some k → B ≤ k := by
  have hown0 := hown
  have hvs : ∀ j u, [Value.int .i64 x][j]? = some u → w.cell? ⟨vb, 0 + j, none⟩ = some u := by
    intro j u hj
    match j, hj with
    | 0, hj =>
      simp at hj
      subst hj
      rw [Lib.cell_of_heap hv]; rfl
  have h1v : ∀ u ∈ [Value.int .i64 x], u.oneCell' = true := by simp [Value.oneCell']
  rw [flatI] at hown
  have hvl : vb < w.heap.size := (Array.getElem?_eq_some_iff.1 hv).1
  obtain ⟨o1, o2⟩ := hown
  rcases o2 with ⟨rfl, h0⟩ | ⟨g, cap, cur, rfl, hg, hh, hcap, hcm, hcs, htake⟩
  · have hx : xs = [] := List.eq_nil_of_length_eq_zero h0
    subst hx
    obtain rfl : i = 0 := by simpa using hi
    have := Any2.slices_Insert_int_end_grow Tryz.laysIns none 0 0 vb 0 1 1 [] [.int .i64 x] w (by decide) (by decide) (by decide) (by decide) rfl rfl (fun _ => rfl) (fun a h => by cases h) hvs h1v
    refine this.mono ?_
    rintro e w' ⟨rfl, hw⟩
    have hgc := grownCap_ge w (0 + 1) 0 (Tryz.laysIns_ren.t 3)
    refine ⟨_, rfl, ?_, by subst hw; exact ((Below.refl B w).drew).alloc hB _, fun k hk => by simp [Value.ownBlock] at hk; omega⟩
    refine slI_of (ys := insL [] 0 x) rfl hgc (by subst hw; simp) fun j hj => ?_
    obtain rfl : j = 0 := by simp [insL] at hj; exact hj
    subst hw
    rw [World.cell?_alloc_at (w := w.drew) _ _ w.heap.size 0 rfl, rowGet _ _ (by simp)]
    rfl
  · have hcl : (xs.map fun x => Value.int .i64 x).length = xs.length := by simp
    have hcell : ∀ j, j < xs.length → w.cell? ⟨g, 0 + j, none⟩ = some (.int .i64 xs[j]!) := fun j hj => by
      have := hown0.cells (g := g) rfl j (.int .i64 xs[j]!) (by rw [flatI]; exact mapI_get hj)
      rw [Go.WideShapes.add_plain] at this
      exact this
    have hcells : ∀ j u, (xs.map fun x => Value.int .i64 x)[j]? = some u → w.cell? ⟨g, 0 + j, none⟩ = some u := fun j u hj => by
      have hjl : j < xs.length := by have := (List.getElem?_eq_some_iff.1 hj).1; simpa using this
      rw [mapI_get hjl] at hj
      rw [hcell j hjl]
      exact hj
    have hgl : g < w.heap.size := (Array.getElem?_eq_some_iff.1 hh).1
    have hsome : ∀ j, j < cap → (w.cell? ⟨g, j, none⟩).isSome = true := fun j hj => by
      rw [Lib.cell_of_heap hh, Array.getElem?_eq_getElem (by omega)]; rfl
    have hfz : ∀ j, w.frozen? ⟨g, j, none⟩ = false := fun j => Lib.frozen_of_heap hh j
    have hcl0 : ∀ j, j < xs.length → w.cell? ⟨g, j, none⟩ = some (.int .i64 xs[j]!) := fun j hj => by have := hcell j hj; rwa [Nat.zero_add] at this
    rcases Nat.lt_or_ge i xs.length with hlt | hge
    · rcases Nat.lt_or_ge cap (xs.length + 1) with hroom | hroom
      · have := Any2.slices_Insert_int_grow Tryz.laysIns g 0 xs.length cap i vb 0 1 1 (xs.map fun x => Value.int .i64 x) [.int .i64 x] w hlt (by decide) hcap hroom (by omega) hcl rfl hcells hvs (oneI xs) h1v
        refine this.mono ?_
        rintro e w' ⟨rfl, hw⟩
        have hgc := grownCap_ge w (xs.length + 1) cap (Tryz.laysIns_ren.t 3)
        generalize grownCap w (xs.length + 1) cap (Tryz.laysIns_ren.t 3) = G at hw hgc ⊢
        obtain ⟨ROW, hR⟩ : ∃ R : Array Value, R = (((xs.map fun x => Value.int .i64 x).take i).toArray ++ Builtin.zeroCells (Value.int .i64 0).cells (xs.length + 1 - i)) ++ Builtin.zeroCells (Value.int .i64 0).cells (G - (xs.length + 1)) := ⟨_, rfl⟩
        rw [← hR] at hw
        have hRs : xs.length + 1 ≤ ROW.size := by
          rw [hR]
          simp [Builtin.zeroCells, Value.cells]
          omega
        have hRl : ∀ j, j < i → ROW[j]? = some (.int .i64 xs[j]!) := fun j hj => by
          rw [hR, Array.append_assoc, rowGet _ _ (by simp; omega), List.getElem?_take, if_pos hj]
          exact mapI_get (by omega)
        have hA : ∀ j, ((w.alloc (.cells ROW (Tryz.laysIns_ren.t 3))).drew).cell? ⟨w.heap.size, j, none⟩ = ROW[j]? := fun j => World.cell?_alloc_at (w := w) ROW _ w.heap.size j rfl
        have hAs : ∀ j, j < xs.length + 1 → (((w.alloc (.cells ROW (Tryz.laysIns_ren.t 3))).drew).cell? ⟨w.heap.size, j, none⟩).isSome = true := fun j hj => by rw [hA, Array.getElem?_eq_getElem (by omega)]; rfl
        have hb1 : Below B w (w.alloc (.cells ROW (Tryz.laysIns_ren.t 3))).drew := ((Below.refl B w).alloc hB _).drew
        generalize (w.alloc (.cells ROW (Tryz.laysIns_ren.t 3))).drew = W1 at hw hA hAs hb1
        have hs1 : ∀ j, j < xs.length + 1 → (((W1.setCells w.heap.size i [.int .i64 x]).drew).cell? ⟨w.heap.size, j, none⟩).isSome = true := fun j hj => some_sets _ _ _ W1 (fun t ht => hAs _ (by simp at ht; omega)) _ (hAs _ hj)
        refine ⟨_, rfl, ?_, by subst hw; exact below_setsG hB _ _ _ _ ((below_setsG hB _ _ _ _ hb1).drew), fun k hk => by simp [Value.ownBlock] at hk; omega⟩
        refine slI_of (ys := insL xs i x) (by rw [insL_len hi]) hgc (by
          subst hw
          rw [sz_sets]
          show w.heap.size < (W1.setCells w.heap.size i [.int .i64 x]).heap.size
          rw [sz_sets]
          have := hAs 0 (by omega)
          obtain ⟨u, hu⟩ := Option.isSome_iff_exists.1 this
          exact cell_lt1 hu) fun j hj => ?_
        rw [insL_len hi] at hj
        subst hw
        rcases Nat.lt_trichotomy j i with h1 | h1 | h1
        · rw [insL_lo hi x h1, World.cell?_setCells_out _ _ _ _ _ (fun _ _ => .inl (by show j < i + 1; omega))]
          show (W1.setCells w.heap.size i [.int .i64 x]).cell? _ = _
          rw [World.cell?_setCells_out _ _ _ _ _ (fun _ _ => .inl (by show j < i; omega)), hA]
          exact hRl j h1
        · subst h1
          rw [insL_at hi x, World.cell?_setCells_out _ _ _ _ _ (fun _ _ => .inl (by show j < j + 1; omega))]
          show (W1.setCells w.heap.size j [.int .i64 x]).cell? _ = _
          have := World.cell?_setCells_in w.heap.size [.int .i64 x] j W1 (fun t ht => hAs _ (by simp at ht; omega)) 0 (by simp)
          exact this
        · rw [insL_hi hi x h1 (by omega)]
          have := World.cell?_setCells_in w.heap.size ((xs.map fun x => Value.int .i64 x).drop i) (i + 1) ((W1.setCells w.heap.size i [.int .i64 x]).drew) (fun t ht => hs1 _ (by simp at ht; omega)) (j - (i + 1)) (by simp; omega)
          rw [show i + 1 + (j - (i + 1)) = j by omega] at this
          rw [this, List.getElem_drop, List.getElem_map, getElem!_pos xs (j - 1) (by omega)]
          congr 3
          omega
      · have hshape : w.shape? vb = some (3, 1) := by simp [World.shape?, hv]
        have hshape2 : w.shape? g = some (3, cur.size) := by simp [World.shape?, hh]
        have := Any2.slices_Insert_int_shift Tryz.laysIns g 0 xs.length cap i vb 0 1 1 (xs.map fun x => Value.int .i64 x) [.int .i64 x] w hlt (by decide) hroom (by unfold maxLen at hcm; omega) (fun e => hvo (by simp [Value.ownBlock, e])) hcl rfl hcells
          (fun j hj => by rw [Nat.zero_add]; exact hsome j (by omega)) (fun j _ => hfz _) hvs (oneI xs) h1v 3 3 1 cur.size hshape hshape2 (by omega) (Lib.frozen_of_heap hv 0) (Lib.frozen_of_heap hv 1)
        refine this.mono ?_
        rintro e w' ⟨rfl, hw⟩
        have hs0 : ∀ j, j < cap → (w.drew.cell? ⟨g, j, none⟩).isSome = true := hsome
        have hs1 : ∀ j, j < cap → ((w.drew.setCells g (0 + (i + 1)) ((xs.map fun x => Value.int .i64 x).drop i)).cell? ⟨g, j, none⟩).isSome = true := fun j hj => some_sets _ _ _ w.drew (fun t ht => hs0 _ (by simp at ht; omega)) _ (hs0 _ hj)
        refine ⟨_, rfl, ?_, by subst hw; exact below_setsG hg _ _ _ _ (below_setsG hg _ _ _ _ (Below.refl B w).drew), fun k hk => by simp [Value.ownBlock] at hk; omega⟩
        refine slI_of (ys := insL xs i x) (by rw [insL_len hi]) hroom (by subst hw; rw [sz_sets, sz_sets]; exact hgl) fun j hj => ?_
        rw [insL_len hi] at hj
        subst hw
        rcases Nat.lt_trichotomy j i with h1 | h1 | h1
        · rw [insL_lo hi x h1, World.cell?_setCells_out _ _ _ _ _ (fun _ _ => .inl (by show j < 0 + i; omega)), World.cell?_setCells_out _ _ _ _ _ (fun _ _ => .inl (by show j < 0 + (i + 1); omega))]
          exact hcl0 j (by omega)
        · subst h1
          rw [insL_at hi x]
          have := World.cell?_setCells_in g [.int .i64 x] (0 + j) (w.drew.setCells g (0 + (j + 1)) ((xs.map fun x => Value.int .i64 x).drop j)) (fun t ht => hs1 _ (by simp at ht; omega)) 0 (by simp)
          rw [show 0 + j + 0 = j by omega] at this
          exact this
        · rw [insL_hi hi x h1 (by omega), World.cell?_setCells_out _ _ _ _ _ (fun _ _ => .inr (by show 0 + i + 1 ≤ j; omega))]
          have := World.cell?_setCells_in g ((xs.map fun x => Value.int .i64 x).drop i) (0 + (i + 1)) w.drew (fun t ht => hs0 _ (by simp at ht; omega)) (j - (i + 1)) (by simp; omega)
          rw [show 0 + (i + 1) + (j - (i + 1)) = j by omega] at this
          rw [this, List.getElem_drop, List.getElem_map, getElem!_pos xs (j - 1) (by omega)]
          congr 3
          omega
    · obtain rfl : i = xs.length := by omega
      rcases Nat.lt_or_ge cap (xs.length + 1) with hroom | hroom
      · have := Any2.slices_Insert_int_end_grow Tryz.laysIns (some ⟨g, 0, none⟩) xs.length cap vb 0 1 1 (xs.map fun x => Value.int .i64 x) [.int .i64 x] w (by decide) hcap hroom (by omega) hcl rfl (fun h => by cases h)
          (fun a ha j u hj => by
            cases ha
            rw [Go.WideShapes.add_plain]
            exact hcells j u hj) hvs h1v
        refine this.mono ?_
        rintro e w' ⟨rfl, hw⟩
        have hgc := grownCap_ge w (xs.length + 1) cap (Tryz.laysIns_ren.t 3)
        refine ⟨_, rfl, ?_, by subst hw; exact ((Below.refl B w).drew).alloc hB _, fun k hk => by simp [Value.ownBlock] at hk; omega⟩
        refine slI_of (ys := insL xs xs.length x) (by rw [insL_len hi]) hgc (by subst hw; simp) fun j hj => ?_
        rw [insL_len hi] at hj
        subst hw
        rw [World.cell?_alloc_at (w := w.drew) _ _ w.heap.size j rfl, rowGet _ _ (by simp; omega)]
        rcases Nat.lt_or_ge j xs.length with h1 | h1
        · rw [insL_lo hi x h1, List.getElem?_append_left (by simpa using h1)]
          exact mapI_get h1
        · obtain rfl : j = xs.length := by omega
          rw [insL_at hi x, List.getElem?_append_right (by simp)]
          simp
      · have := Any2.slices_Insert_int_end_room Tryz.laysIns g 0 xs.length cap vb 0 1 1 [.int .i64 x] w (by decide) hroom (by unfold maxLen at hcm; omega) rfl (fun j hj => by rw [Nat.zero_add]; exact hsome _ (by omega)) (fun j _ => hfz _) hvs h1v
        refine this.mono ?_
        rintro e w' ⟨rfl, hw⟩
        refine ⟨_, rfl, ?_, by subst hw; exact below_setsG hg _ _ _ _ (Below.refl B w), fun k hk => by simp [Value.ownBlock] at hk; omega⟩
        refine slI_of (ys := insL xs xs.length x) (by rw [insL_len hi]) hroom (by subst hw; rw [sz_sets]; exact hgl) fun j hj => ?_
        rw [insL_len hi] at hj
        subst hw
        rcases Nat.lt_or_ge j xs.length with h1 | h1
        · rw [insL_lo hi x h1, World.cell?_setCells_out _ _ _ _ _ (fun _ _ => .inl (by show j < 0 + xs.length; omega))]
          exact hcl0 j h1
        · obtain rfl : j = xs.length := by omega
          rw [insL_at hi x]
          have := World.cell?_setCells_in g [.int .i64 x] (0 + xs.length) w (fun t ht => hsome _ (by simp at ht; omega)) 0 (by simp)
          rw [show 0 + xs.length + 0 = xs.length by omega] at this
          exact this
end Go.Proofs.YtefnkoofgpmmmaaGreatDoor

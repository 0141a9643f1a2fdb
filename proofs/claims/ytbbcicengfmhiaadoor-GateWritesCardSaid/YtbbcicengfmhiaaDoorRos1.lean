/- The library's searches over labels and people. Conditions: said at each. -/
import Derived.Test.YtbbcicengfmhiaaDoorEnc
import Derived.Test.YtbbcicengfmhiaaDoorLbl
import Derived.Shelf.Abstract
import Derived.Lib.SliceRun
import Derived.OwnWalk
import Derived.Lib.Walk
namespace Go.Proofs.YtbbcicengfmhiaaDoor
set_option maxRecDepth 100000
open Go.RowKit


set_option maxHeartbeats 1000000 in
theorem idxFuncL (p : Int × Nat → Bool) (g : Nat) (lb : Array Value) (eg : ∀ args w, (callFunc g args).run Tryd.prog w = .ok (.enter g args) w) (v : Value) (xs : List (Int × Nat)) (w : World)
    (hS : SlAt 2 encL w v xs) (hbig : xs.length ≤ 9223372036854775807) (hp : PredB Tryd.prog g lb encL p w) :
    Calls Tryd.prog 109 #[v, .func (.func g) #[] lb] w fun e w' => e = .returned (.int .i64 (idxI p xs)) ∧ Below w.heap.size w w' := by
  obtain ⟨pp, c, rfl, hn, hcell⟩ := hS
  have HN := Lib.hid hn
  have HC := Lib.hid hcell
  have HP := Lib.hid hp
  clear hn hcell hp
  generalize hlen : xs.length = n at hbig
  have HL := Lib.hid hlen
  clear hlen
  go_enter Tryd.func109, Tryd.ntmps109
  go_wp2
  go_loopw [5, 8] (fun _ i wr => ∃ j : Nat, j ≤ n ∧ i = .int .i64 j ∧ Below w.heap.size w wr ∧ ∀ k, k < j → p xs[k]! = false) (fun _ i _ => n - (intOf i).toNat)
  case atStart => exact ⟨0, by omega, rfl, Below.refl _ _, fun k hk => absurd hk (by omega)⟩
  case round =>
    obtain ⟨j, hj, rfl, hB, hall⟩ := hrel
    have HB := Lib.hid hB
    have HA := Lib.hid hall
    clear hB hall
    by_cases hlt : j < n
    · obtain ⟨b, off, rfl, hb, hc⟩ := HC.out (by have := HL.out; omega)
      have hc0 := (HB.out.cell (p := ⟨b, off + j * 2, none⟩) hb).trans (hc j (by have := HL.out; omega) 0 _ rfl)
      have hc1 := (HB.out.cell (p := ⟨b, off + j * 2 + 1, none⟩) hb).trans (hc j (by have := HL.out; omega) 1 _ rfl)
      clear hc
      have hcall := HP.out wr xs[j]! HB.out
      cases hq : p xs[j]!
      · rw [hq] at hcall
        have HQ := Lib.hid hq
        clear hq
        simp only [encL] at hcall
        generalize xs[j]! = x at hc0 hc1 hcall
        go_wp2_with (go_at_fn g; refine hcall.mono ?_; rintro e w' ⟨rfl, hb'⟩)
        go_roundw
        case rel => exact ⟨j + 1, by omega, by go_num, hb', fun k hk => by by_cases e : k = j; (subst e; exact HQ.out); exact HA.out k (by omega)⟩
        case measure => simp [intOf] <;> omega
      · rw [hq] at hcall
        have HQ := Lib.hid hq
        clear hq
        have hres := idxI_hit (by have := HL.out; omega) HQ.out HA.out
        simp only [encL] at hcall
        generalize xs[j]! = x at hc0 hc1 hcall
        go_wp2_with (go_at_fn g; refine hcall.mono ?_; rintro e w' ⟨rfl, hb'⟩)
        go_ret
        exact ⟨by rw [hres]; rfl, hb'⟩
    · obtain rfl : j = n := by omega
      have hres := idxI_miss (p := p) (xs := xs) (by have := HL.out; have := HA.out; subst j; exact HA.out)
      go_wp2
      go_ret
      exact ⟨by rw [hres]; rfl, HB.out⟩
set_option maxHeartbeats 1000000 in
theorem idxFuncP (p : Int × Int × Nat → Bool) (g : Nat) (lb : Array Value) (eg : ∀ args w, (callFunc g args).run Tryd.prog w = .ok (.enter g args) w) (v : Value) (xs : List (Int × Int × Nat)) (w : World)
    (hS : SlAt 3 encP w v xs) (hbig : xs.length ≤ 9223372036854775807) (hp : PredB Tryd.prog g lb encP p w) :
    Calls Tryd.prog 110 #[v, .func (.func g) #[] lb] w fun e w' => e = .returned (.int .i64 (idxI p xs)) ∧ Below w.heap.size w w' := by
  obtain ⟨pp, c, rfl, hn, hcell⟩ := hS
  have HN := Lib.hid hn
  have HC := Lib.hid hcell
  have HP := Lib.hid hp
  clear hn hcell hp
  generalize hlen : xs.length = n at hbig
  have HL := Lib.hid hlen
  clear hlen
  go_enter Tryd.func110, Tryd.ntmps110
  go_wp2
  go_loopw [5, 8] (fun _ i wr => ∃ j : Nat, j ≤ n ∧ i = .int .i64 j ∧ Below w.heap.size w wr ∧ ∀ k, k < j → p xs[k]! = false) (fun _ i _ => n - (intOf i).toNat)
  case atStart => exact ⟨0, by omega, rfl, Below.refl _ _, fun k hk => absurd hk (by omega)⟩
  case round =>
    obtain ⟨j, hj, rfl, hB, hall⟩ := hrel
    have HB := Lib.hid hB
    have HA := Lib.hid hall
    clear hB hall
    by_cases hlt : j < n
    · obtain ⟨b, off, rfl, hb, hc⟩ := HC.out (by have := HL.out; omega)
      have hc0 := (HB.out.cell (p := ⟨b, off + j * 3, none⟩) hb).trans (hc j (by have := HL.out; omega) 0 _ rfl)
      have hc2 := (HB.out.cell (p := ⟨b, off + j * 3 + 2, none⟩) hb).trans (hc j (by have := HL.out; omega) 2 _ rfl)
      have hc1 := (HB.out.cell (p := ⟨b, off + j * 3 + 1, none⟩) hb).trans (hc j (by have := HL.out; omega) 1 _ rfl)
      clear hc
      have hcall := HP.out wr xs[j]! HB.out
      cases hq : p xs[j]!
      · rw [hq] at hcall
        have HQ := Lib.hid hq
        clear hq
        simp only [encP] at hcall
        generalize xs[j]! = x at hc0 hc1 hc2 hcall
        go_wp2_with (go_at_fn g; refine hcall.mono ?_; rintro e w' ⟨rfl, hb'⟩)
        go_roundw
        case rel => exact ⟨j + 1, by omega, by go_num, hb', fun k hk => by by_cases e : k = j; (subst e; exact HQ.out); exact HA.out k (by omega)⟩
        case measure => simp [intOf] <;> omega
      · rw [hq] at hcall
        have HQ := Lib.hid hq
        clear hq
        have hres := idxI_hit (by have := HL.out; omega) HQ.out HA.out
        simp only [encP] at hcall
        generalize xs[j]! = x at hc0 hc1 hc2 hcall
        go_wp2_with (go_at_fn g; refine hcall.mono ?_; rintro e w' ⟨rfl, hb'⟩)
        go_ret
        exact ⟨by rw [hres]; rfl, hb'⟩
    · obtain rfl : j = n := by omega
      have hres := idxI_miss (p := p) (xs := xs) (by have := HL.out; have := HA.out; subst j; exact HA.out)
      go_wp2
      go_ret
      exact ⟨by rw [hres]; rfl, HB.out⟩

set_option maxHeartbeats 1000000 in
theorem idxL (a : Int) (x : Nat) (v : Value) (xs : List (Int × Nat)) (w : World) (hS : SlAt 2 encL w v xs) (hbig : xs.length ≤ 9223372036854775807) :
    Calls Tryd.prog 111 #[v, (.agg #[.int .i64 (a), .int .u16 ((x : Nat) : Int)])] w fun e w' => e = .returned (.int .i64 (idxI (fun y => a == y.1 && x == y.2) xs)) ∧ Below w.heap.size w w' := by
  obtain ⟨pp, c, rfl, hn, hcell⟩ := hS
  have HN := Lib.hid hn
  have HC := Lib.hid hcell
  clear hn hcell
  generalize hlen : xs.length = n at hbig
  have HL := Lib.hid hlen
  clear hlen
  have heq := run_eqL
  have hgu := eqGuardL
  go_enter Tryd.func111, Tryd.ntmps111
  go_wp2
  go_loopw [5, 8] (fun _ i wr => ∃ j : Nat, j ≤ n ∧ i = .int .i64 j ∧ Below w.heap.size w wr ∧ w.heap.size < wr.heap.size ∧ (wr.cell? ⟨w.heap.size, 0, none⟩ = some (.int .i64 a) ∧ wr.cell? ⟨w.heap.size, 1, none⟩ = some (.int .u16 (x : Int))) ∧ ∀ k, k < j → (a == xs[k]!.1 && x == xs[k]!.2) = false) (fun _ i _ => n - (intOf i).toNat)
  case atStart => exact ⟨0, by omega, rfl, below1 _ _, by simp, ⟨by go_simp, by go_simp⟩, fun k hk => absurd hk (by omega)⟩
  case round =>
    obtain ⟨j, hj, rfl, hB, hsz, ⟨d0, d1⟩, hall⟩ := hrel
    have HB := Lib.hid hB
    have HA := Lib.hid hall
    clear hB hall
    by_cases hlt : j < n
    · obtain ⟨b, off, rfl, hb, hc⟩ := HC.out (by have := HL.out; omega)
      have hc0 := (HB.out.cell (p := ⟨b, off + j * 2, none⟩) hb).trans (hc j (by have := HL.out; omega) 0 _ rfl)
      have hc1 := (HB.out.cell (p := ⟨b, off + j * 2 + 1, none⟩) hb).trans (hc j (by have := HL.out; omega) 1 _ rfl)
      clear hc
      have hltz : (j : Int) < (n : Int) := by omega
      cases hq : (a == xs[j]!.1 && x == xs[j]!.2)
      · have HQ := Lib.hid hq
        have hE : ∀ W, (binOp .eql 41 (.agg #[.int .i64 (a), .int .u16 ((x : Nat) : Int)]) (.agg #[.int .i64 (xs[j]!.1), .int .u16 ((xs[j]!.2 : Nat) : Int)])).run Tryd.prog W = .ok (.bool false) W := fun W => by rw [run_eqL, hq]
        clear hq heq
        generalize xs[j]!.1 = x1 at hc0 hc1 hE
        generalize xs[j]!.2 = x2 at hc0 hc1 hE
        go_wp2_with fail
        go_quiet (fail)
        go_wp2
        go_roundw
        case rel => first | exact ⟨j + 1, by omega, by go_num, belowN HB.out _, hsz, ⟨d0, d1⟩, fun k hk => by by_cases e : k = j; (subst e; exact HQ.out); exact HA.out k (by omega)⟩ | trace_state
        case measure => simp [intOf] <;> omega
      · have HQ := Lib.hid hq
        have hE : ∀ W, (binOp .eql 41 (.agg #[.int .i64 (a), .int .u16 ((x : Nat) : Int)]) (.agg #[.int .i64 (xs[j]!.1), .int .u16 ((xs[j]!.2 : Nat) : Int)])).run Tryd.prog W = .ok (.bool true) W := fun W => by rw [run_eqL, hq]
        clear hq heq
        have hres := idxI_hit (p := fun y : Int × Nat => a == y.1 && x == y.2) (by have := HL.out; omega) HQ.out HA.out
        generalize xs[j]!.1 = x1 at hc0 hc1 hE
        generalize xs[j]!.2 = x2 at hc0 hc1 hE
        go_wp2_with fail
        go_quiet (fail)
        go_wp2
        go_ret
        exact ⟨by rw [hres]; rfl, belowN HB.out _⟩
    · obtain rfl : j = n := by omega
      have hres := idxI_miss (p := fun y : Int × Nat => a == y.1 && x == y.2) (xs := xs) (by have := HL.out; have := HA.out; subst j; exact HA.out)
      clear heq
      go_wp2
      go_ret
      exact ⟨by rw [hres]; rfl, HB.out⟩

set_option maxHeartbeats 400000 in
theorem hasL (a : Int) (x : Nat) (v : Value) (xs : List (Int × Nat)) (w : World) (hS : SlAt 2 encL w v xs) (hbig : xs.length ≤ 9223372036854775807) :
    Calls Tryd.prog 64 #[v, (.agg #[.int .i64 (a), .int .u16 ((x : Nat) : Int)])] w fun e w' => e = .returned (.bool (xs.any fun y => a == y.1 && x == y.2)) ∧ Below w.heap.size w w' := by
  have hc := idxL a x v xs (w.alloc (.cells #[.int .i64 a, .int .u16 (x : Int)] 41)) (hS.below (below1 _ _)) hbig
  rw [← idxI_any]
  generalize idxI (fun y : Int × Nat => a == y.1 && x == y.2) xs = r at hc ⊢
  go_enter Tryd.func64, Tryd.ntmps64
  go_wp2_with (go_at_call 111; refine hc.mono ?_; rintro e w' ⟨rfl, hb'⟩)
  go_ret
  exact ⟨rfl, (below1 _ _).trans (hb'.mono (by simp))⟩

set_option maxHeartbeats 400000 in
theorem anyFuncL (p : Int × Nat → Bool) (g : Nat) (lb : Array Value) (eg : ∀ args w, (callFunc g args).run Tryd.prog w = .ok (.enter g args) w) (v : Value) (xs : List (Int × Nat)) (w : World)
    (hS : SlAt 2 encL w v xs) (hbig : xs.length ≤ 9223372036854775807) (hp : PredB Tryd.prog g lb encL p w) :
    Calls Tryd.prog 61 #[v, .func (.func g) #[] lb] w fun e w' => e = .returned (.bool (xs.any p)) ∧ Below w.heap.size w w' := by
  have hc := idxFuncL p g lb eg v xs w hS hbig hp
  rw [← idxI_any]
  generalize idxI p xs = r at hc ⊢
  go_enter Tryd.func61, Tryd.ntmps61
  go_wp2_with (first | (go_at_call 109; refine hc.mono ?_; rintro e w' ⟨rfl, hb'⟩) | (go_at_call 110; refine hc.mono ?_; rintro e w' ⟨rfl, hb'⟩))
  go_ret
  exact ⟨rfl, hb'⟩

set_option maxHeartbeats 400000 in
theorem anyFuncP (p : Int × Int × Nat → Bool) (g : Nat) (lb : Array Value) (eg : ∀ args w, (callFunc g args).run Tryd.prog w = .ok (.enter g args) w) (v : Value) (xs : List (Int × Int × Nat)) (w : World)
    (hS : SlAt 3 encP w v xs) (hbig : xs.length ≤ 9223372036854775807) (hp : PredB Tryd.prog g lb encP p w) :
    Calls Tryd.prog 62 #[v, .func (.func g) #[] lb] w fun e w' => e = .returned (.bool (xs.any p)) ∧ Below w.heap.size w w' := by
  have hc := idxFuncP p g lb eg v xs w hS hbig hp
  rw [← idxI_any]
  generalize idxI p xs = r at hc ⊢
  go_enter Tryd.func62, Tryd.ntmps62
  go_wp2_with (first | (go_at_call 109; refine hc.mono ?_; rintro e w' ⟨rfl, hb'⟩) | (go_at_call 110; refine hc.mono ?_; rintro e w' ⟨rfl, hb'⟩))
  go_ret
  exact ⟨rfl, hb'⟩

theorem info_cloneL : ∃ (i : TypeInfo) (z : Value), Tryd.prog.info? 41 = some i ∧ i.zero = some z ∧ i.size = 2 ∧ i.bytes = 16 ∧ z.cells.size = 2 := by
  have h : ((Tryd.prog.info? 41).map fun i => (i.size, i.bytes, i.zero.map fun z => z.cells.size)) = some (2, 16, some 2) := by kernel_rfl
  cases hi : Tryd.prog.info? 41 with
  | none => rw [hi] at h; cases h
  | some i =>
    rw [hi] at h
    simp only [Option.map_some, Option.some.injEq, Prod.mk.injEq] at h
    obtain ⟨h1, h2, h3⟩ := h
    cases hz : i.zero with
    | none => rw [hz] at h3; cases h3
    | some z => rw [hz] at h3; exact ⟨i, z, rfl, hz, h1, h2, by simpa using h3⟩
theorem one_encL (xs : List (Int × Nat)) : ∀ u ∈ flat encL xs, u.oneCell' = true := by
  intro u hu
  simp only [flat, List.mem_flatMap] at hu
  obtain ⟨x, _, hx⟩ := hu
  simp [encL] at hx
  rcases hx with rfl | rfl | rfl <;> rfl

set_option maxHeartbeats 1000000 in
theorem cloneL (v : Value) (xs : List (Int × Nat)) (w : World) (hS : SlAt 2 encL w v xs) (hbig : xs.length ≤ 1000) :
    Calls Tryd.prog 66 #[v] w fun e w' => ∃ v', e = .returned v' ∧ SlAt 2 encL w' v' xs ∧ Below w.heap.size w w' := by
  obtain ⟨pp, c, rfl, hn, hcell⟩ := hS
  have q22 : ∀ (w : World) (a : Option Addr) (n c n' c' : Nat), (binOp .eql 25 (.slice a n c) (.slice none n' c')).run Tryd.prog w = .ok (.bool a.isNone) w := fun w a n c n' c' => Lib.run_eql_slice_nil w _ _ a n c n' c' Tryd.underlying25
  obtain ⟨i0, z, hi, hz0, hz1, hz2, hzs⟩ := info_cloneL
  have HI := Lib.hid hi
  have HZ := Lib.hid hz0
  have HC := Lib.hid hcell
  have HNI := Lib.hid hn
  clear hi hz0 hcell hn
  have hlen : (flat encL xs).length = xs.length * 2 := flat_length (enc := encL) (fun _ => rfl) xs
  go_enter Tryd.func66, Tryd.ntmps66
  cases pp with
  | none =>
    obtain ⟨rfl, rfl⟩ := HNI.out.2 rfl
    go_wp2
    go_ret
    exact ⟨_, rfl, SlAt.nil _ _ _, Below.refl _ _⟩
  | some ad =>
    go_wp2_with (at_builtin; refine wpList_append_own _ rfl _ _ 25 rfl w.heap.size 41 i0 z 2 16 Tryd.underlying25 HI.out HZ.out hz1 hz2 hzs (by decide) _ _ _ rfl (World.ownsRow_made w #[] 0 (Nat.le_refl _) (Nat.zero_le _) (by simp)) ad xs.length c (flat encL xs) rfl ?qc1 ?qc2 ?qc3 ?qc4 ?qc5 ?qc6 ?_)
    case qc1 => exact hlen
    case qc2 =>
      intro j u hj
      have hpos : 0 < xs.length := by
        have := (List.getElem?_eq_some_iff.1 hj).1
        omega
      obtain ⟨b, off, hp, hb, hc⟩ := HC.out hpos
      obtain rfl : ad = ⟨b, off, none⟩ := by simpa using hp
      rw [Go.WideShapes.add_plain]
      exact Lib.cell?_alloc_some _ (SlAt.flat_cells (enc := encL) (by decide) (fun _ => rfl) hc j u hj)
    case qc3 => exact one_encL xs
    case qc4 => rw [Nat.zero_add]; unfold maxLen; omega
    case qc5 => omega
    case qc6 => simp
    intro v' w1 hown hgrow hnil
    go_wp2
    go_ret
    refine ⟨v', rfl, SlAt.of_owns (enc := encL) (fun _ => rfl) (by simpa using hown), ?_⟩
    exact ((Below.refl _ w).alloc (Nat.le_refl _) _).grown hgrow (by simp) (by intro k hk; simp [Value.ownBlock] at hk; omega)

theorem info_cloneP : ∃ (i : TypeInfo) (z : Value), Tryd.prog.info? 47 = some i ∧ i.zero = some z ∧ i.size = 3 ∧ i.bytes = 24 ∧ z.cells.size = 3 := by
  have h : ((Tryd.prog.info? 47).map fun i => (i.size, i.bytes, i.zero.map fun z => z.cells.size)) = some (3, 24, some 3) := by kernel_rfl
  cases hi : Tryd.prog.info? 47 with
  | none => rw [hi] at h; cases h
  | some i =>
    rw [hi] at h
    simp only [Option.map_some, Option.some.injEq, Prod.mk.injEq] at h
    obtain ⟨h1, h2, h3⟩ := h
    cases hz : i.zero with
    | none => rw [hz] at h3; cases h3
    | some z => rw [hz] at h3; exact ⟨i, z, rfl, hz, h1, h2, by simpa using h3⟩
theorem one_encP (xs : List (Int × Int × Nat)) : ∀ u ∈ flat encP xs, u.oneCell' = true := by
  intro u hu
  simp only [flat, List.mem_flatMap] at hu
  obtain ⟨x, _, hx⟩ := hu
  simp [encP] at hx
  rcases hx with rfl | rfl | rfl <;> rfl

set_option maxHeartbeats 1000000 in
theorem cloneP (v : Value) (xs : List (Int × Int × Nat)) (w : World) (hS : SlAt 3 encP w v xs) (hbig : xs.length ≤ 1000) :
    Calls Tryd.prog 67 #[v] w fun e w' => ∃ v', e = .returned v' ∧ SlAt 3 encP w' v' xs ∧ Below w.heap.size w w' := by
  obtain ⟨pp, c, rfl, hn, hcell⟩ := hS
  have q22 : ∀ (w : World) (a : Option Addr) (n c n' c' : Nat), (binOp .eql 26 (.slice a n c) (.slice none n' c')).run Tryd.prog w = .ok (.bool a.isNone) w := fun w a n c n' c' => Lib.run_eql_slice_nil w _ _ a n c n' c' Tryd.underlying26
  obtain ⟨i0, z, hi, hz0, hz1, hz2, hzs⟩ := info_cloneP
  have HI := Lib.hid hi
  have HZ := Lib.hid hz0
  have HC := Lib.hid hcell
  have HNI := Lib.hid hn
  clear hi hz0 hcell hn
  have hlen : (flat encP xs).length = xs.length * 3 := flat_length (enc := encP) (fun _ => rfl) xs
  go_enter Tryd.func67, Tryd.ntmps67
  cases pp with
  | none =>
    obtain ⟨rfl, rfl⟩ := HNI.out.2 rfl
    go_wp2
    go_ret
    exact ⟨_, rfl, SlAt.nil _ _ _, Below.refl _ _⟩
  | some ad =>
    go_wp2_with (at_builtin; refine wpList_append_own _ rfl _ _ 26 rfl w.heap.size 47 i0 z 3 24 Tryd.underlying26 HI.out HZ.out hz1 hz2 hzs (by decide) _ _ _ rfl (World.ownsRow_made w #[] 0 (Nat.le_refl _) (Nat.zero_le _) (by simp)) ad xs.length c (flat encP xs) rfl ?qc1 ?qc2 ?qc3 ?qc4 ?qc5 ?qc6 ?_)
    case qc1 => exact hlen
    case qc2 =>
      intro j u hj
      have hpos : 0 < xs.length := by
        have := (List.getElem?_eq_some_iff.1 hj).1
        omega
      obtain ⟨b, off, hp, hb, hc⟩ := HC.out hpos
      obtain rfl : ad = ⟨b, off, none⟩ := by simpa using hp
      rw [Go.WideShapes.add_plain]
      exact Lib.cell?_alloc_some _ (SlAt.flat_cells (enc := encP) (by decide) (fun _ => rfl) hc j u hj)
    case qc3 => exact one_encP xs
    case qc4 => rw [Nat.zero_add]; unfold maxLen; omega
    case qc5 => omega
    case qc6 => simp
    intro v' w1 hown hgrow hnil
    go_wp2
    go_ret
    refine ⟨v', rfl, SlAt.of_owns (enc := encP) (fun _ => rfl) (by simpa using hown), ?_⟩
    exact ((Below.refl _ w).alloc (Nat.le_refl _) _).grown hgrow (by simp) (by intro k hk; simp [Value.ownBlock] at hk; omega)
end Go.Proofs.YtbbcicengfmhiaaDoor

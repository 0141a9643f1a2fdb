/- ClockPlays' own walk. No condition. -/
import Derived.Test.YtbbcicengfmhiaaDoorClk4
namespace Go.Proofs.YtbbcicengfmhiaaDoor
set_option maxRecDepth 100000
open Go.RowKit

abbrev Cut := Int × Nat
def encT (x : Cut) : List Value := [.int .i64 x.1, .int .u64 (x.2 : Int)]
/-- what is told of the disk and of the clock that lies open, or of the one that would be opened -/
def ClkOf (b : Nat) (cv : Value) (time boot : Int) (maybe : Bool) (k : Ck) (w : World) : Prop :=
  (∃ c, cv = .pointer (some ⟨c, 0, none⟩) ∧ maybe = false ∧ b < c ∧ CkAt c b 0 k w ∧ k.time = time ∧ k.boot = boot) ∨
  (cv = .pointer none ∧ (k.time = time ∨ (maybe = true ∧ k.time = time + 1)) ∧ boot ≤ k.boot)
def DkOf (b g : Nat) (k : Ck) (i : Nat) (armed : Int) (off : Bool) (w : World) : Prop :=
  ∃ (K : List (List UInt8)) (bits : Nat) (writes : Int), K.length = 2 ∧ DkAt b g K (.slice none 0 0) [] off armed bits writes w ∧ (0 ≤ writes ∧ writes ≤ i) ∧ InvC K[0]! K[1]! k
theorem DkOf.below {b g i : Nat} {k : Ck} {armed : Int} {off : Bool} {w w' : World} (h : DkOf b g k i armed off w) (hb : Below w.heap.size w w') : DkOf b g k i armed off w' := by
  obtain ⟨K, bits, writes, h1, h2, h3⟩ := h
  exact ⟨K, bits, writes, h1, h2.below hb, h3⟩
theorem ClkOf.below {b : Nat} {cv : Value} {time boot : Int} {maybe : Bool} {k : Ck} {w w' : World} (h : ClkOf b cv time boot maybe k w) (hb : Below w.heap.size w w') : ClkOf b cv time boot maybe k w' := by
  rcases h with ⟨c, h1, h2, h3, h4, h5⟩ | h
  · exact .inl ⟨c, h1, h2, h3, h4.below hb, h5⟩
  · exact .inr h
theorem ofArm {b g i : Nat} {k : Ck} {armed : Int} {off : Bool} {w : World} (a : Int) (bt : Nat) (h : DkOf b g k i armed off w) :
    Calls Tryd.prog 55 #[.pointer (some ⟨b, 0, none⟩), .agg #[.int .i64 a, .int .u64 (bt : Int)]] w fun e w' => e = .returned (.tuple #[]) ∧ DkOf b g k i (max a 0) off w' ∧ KeptB b w w' ∧ g < b := by
  obtain ⟨K, bits, writes, h1, h2, h3⟩ := h
  have hg := h2.1.1
  refine (dskArm b g K _ _ off armed bits writes a bt w h2).mono ?_
  rintro e w' ⟨he, hd, hk⟩
  exact ⟨he, ⟨K, bt, writes, h1, hd, h3⟩, hk, hg⟩
theorem ofStart {b g i : Nat} {k : Ck} {armed : Int} {off : Bool} {w : World} (h : DkOf b g k i armed off w) :
    Calls Tryd.prog 56 #[.pointer (some ⟨b, 0, none⟩)] w fun e w' => e = .returned (.tuple #[]) ∧ DkOf b g k i 0 false w' ∧ KeptG b w w' ∧ g < b := by
  obtain ⟨K, bits, writes, h1, h2, h3⟩ := h
  have hg := h2.1.1
  refine (dskStart b g K _ _ off armed bits writes w h2).mono ?_
  rintro e w' ⟨he, hd, hk⟩
  exact ⟨he, ⟨K, bits, writes, h1, hd, h3⟩, hk, hg⟩
theorem DkOf.lt {b g i : Nat} {k : Ck} {armed : Int} {off : Bool} {w : World} (h : DkOf b g k i armed off w) : g < b := by
  obtain ⟨K, bits, writes, h1, h2, h3⟩ := h
  exact h2.1.1
theorem ofOpen {b g i : Nat} {k : Ck} {A : Int} {w : World} (h : DkOf b g k i A false w) (hkn : k.n ≤ 200) (hkb : k.boot ≤ 200) (hi : i ≤ 200) (hM : Met w) (h9 : 9 ≤ g) (ha : 0 ≤ A) (ha2 : A ≤ 9223372036854775807) :
    Calls Tryd.prog 49 #[.pointer (some ⟨b, 0, none⟩), .int .i64 0] w fun e w' => KeptO b g w w' ∧
      ((e = .returned (.tuple #[.pointer none, .int .i64 5]) ∧ (DkOf b g ⟨k.n + 1, k.time, k.boot + 1⟩ (i + 1) 0 true w' ∨ DkOf b g k (i + 1) 0 true w')) ∨
       (∃ c A', (b < c ∧ w.heap.size ≤ c) ∧ e = .returned (.tuple #[.pointer (some ⟨c, 0, none⟩), .int .i64 0]) ∧ DkOf b g ⟨k.n + 1, k.time, k.boot + 1⟩ (i + 1) A' false w' ∧ CkAt c b 0 ⟨k.n + 1, k.time, k.boot + 1⟩ w')) := by
  obtain ⟨K, bits, writes, h1, h2, h3, h4⟩ := h
  refine (clkOpen b g 0 k K A bits writes w h2 h4 (by omega) (by omega) (by omega) hM h9 ha ha2 h3.1 (by omega)).mono ?_
  rintro e w' ⟨hp, hk⟩
  refine ⟨hk, ?_⟩
  have hI := h4.2.2
  have hAll := h2.1.2.1
  rcases hp with ⟨_, he, hd⟩ | ⟨_, c, hc, he, hd, hck⟩
  · refine .inl ⟨he, ?_⟩
    rcases InvC.crash (base := 0) (t := k.time) (b := k.boot + 1) h4 hAll (by omega) hI.1 (by have := hI.2.1; omega) (by omega) bits 0 with hc | hc
    · exact .inl ⟨_, bits, writes + 1, by rw [crash1_len]; exact h1, hd, by omega, hc⟩
    · exact .inr ⟨_, bits, writes + 1, by rw [crash1_len]; exact h1, hd, by omega, hc⟩
  · exact .inr ⟨c, _, hc, he, ⟨_, bits, writes + 1, (List.length_set ..).trans h1, hd, by omega, InvC.set (base := 0) h4 (by omega) hI.1 (by have := hI.2.1; omega) (by omega)⟩, hck⟩
theorem ofTick {b g c i : Nat} {k : Ck} {A : Int} {w : World} (h : DkOf b g k i A false w) (hc : CkAt c b 0 k w) (hbc : b < c) (hkn : k.n ≤ 200) (hkt : k.time ≤ 200) (hi : i ≤ 200) (hM : Met w) (h9 : 9 ≤ g) (ha : 0 ≤ A) (ha2 : A ≤ 9223372036854775807) :
    Calls Tryd.prog 52 #[.pointer (some ⟨c, 0, none⟩)] w fun e w' => KeptC b g c w w' ∧
      ((e = .returned (.int .i64 5) ∧ (DkOf b g ⟨k.n + 1, k.time + 1, k.boot⟩ (i + 1) 0 true w' ∨ DkOf b g k (i + 1) 0 true w')) ∨
       (∃ A', e = .returned (.int .i64 0) ∧ DkOf b g ⟨k.n + 1, k.time + 1, k.boot⟩ (i + 1) A' false w' ∧ CkAt c b 0 ⟨k.n + 1, k.time + 1, k.boot⟩ w')) := by
  obtain ⟨K, bits, writes, h1, h2, h3, h4⟩ := h
  have hI := h4.2.2
  have hAll := h2.1.2.1
  refine (clkTick c b g 0 k K A bits writes w hc h2 (by omega) (by omega) (by omega) hM h9 hbc ha ha2 h3.1 (by omega) ⟨hI.1.1, by omega⟩ hI.2.1).mono ?_
  rintro e w' ⟨hp, hk⟩
  refine ⟨hk, ?_⟩
  rcases hp with ⟨_, he, hd, _⟩ | ⟨_, he, hd, hck⟩
  · refine .inl ⟨he, ?_⟩
    rcases InvC.crash (base := 0) (t := k.time + 1) (b := k.boot) h4 hAll (by omega) (by have := hI.1; omega) hI.2.1 (by omega) bits 0 with hc | hc
    · exact .inl ⟨_, bits, writes + 1, by rw [crash1_len]; exact h1, hd, by omega, hc⟩
    · exact .inr ⟨_, bits, writes + 1, by rw [crash1_len]; exact h1, hd, by omega, hc⟩
  · exact .inr ⟨_, he, ⟨_, bits, writes + 1, (List.length_set ..).trans h1, hd, by omega, InvC.set (base := 0) h4 (by omega) (by have := hI.1; omega) hI.2.1 (by omega)⟩, hck⟩
end Go.Proofs.YtbbcicengfmhiaaDoor

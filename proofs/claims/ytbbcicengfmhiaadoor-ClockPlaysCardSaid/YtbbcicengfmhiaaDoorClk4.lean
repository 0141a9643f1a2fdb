/- The clock's two sectors behind a save or a torn one, as the disk's list; a clock that ticks without a cut. -/
import Derived.Test.YtbbcicengfmhiaaDoorAwk17
namespace Go.Proofs.YtbbcicengfmhiaaDoor
set_option maxRecDepth 100000
open Go.RowKit

theorem set_bang {α : Type} [Inhabited α] {K : List α} {i j : Nat} {x : α} (hi : i < K.length) : (K.set i x)[j]! = if i = j then x else K[j]! := by
  simp only [List.getElem!_eq_getElem?_getD, List.getElem?_set]
  by_cases h : i = j
  · subst h; simp [hi]
  · simp [h]
theorem InvC.set {K : List (List UInt8)} {base : Nat} {c : Ck} (h : InvC K[base]! K[base + 1]! c) (hp : base + 1 < K.length) {t b : Int} (ht : 0 ≤ t ∧ t ≤ 1000) (hb : 0 ≤ b ∧ b ≤ 2147483648) (hn : c.n + 1 ≤ 4611686018427387904) :
    InvC (K.set (base + (c.n + 1) % 2) (secOf (c.n + 1) t b))[base]! (K.set (base + (c.n + 1) % 2) (secOf (c.n + 1) t b))[base + 1]! ⟨c.n + 1, t, b⟩ := by
  have hs := h.saved ht hb (clkL_len ht hb) hn
  by_cases hm : (c.n + 1) % 2 = 0
  · simp only [hm, if_true, Nat.add_zero] at hs ⊢
    rw [set_bang (by omega), set_bang (by omega), if_pos rfl, if_neg (by omega)]
    exact hs
  · have hm1 : (c.n + 1) % 2 = 1 := by omega
    simp only [hm, if_false] at hs
    rw [hm1, set_bang (by omega), set_bang (by omega), if_pos rfl, if_neg (by omega)]
    exact hs
theorem InvC.setTorn {K : List (List UInt8)} {base : Nat} {c : Ck} (h : InvC K[base]! K[base + 1]! c) (hp : base + 1 < K.length) {x : List UInt8} (hx : x.length = 64) {k : Nat} (hk : k ≤ 56) :
    InvC (K.set (base + (c.n + 1) % 2) (x.take k ++ (K[base + (c.n + 1) % 2]!).drop k))[base]! (K.set (base + (c.n + 1) % 2) (x.take k ++ (K[base + (c.n + 1) % 2]!).drop k))[base + 1]! c := by
  have hs := h.torn hx hk
  by_cases hm : (c.n + 1) % 2 = 0
  · simp only [hm, if_true, Nat.add_zero] at hs ⊢
    rw [set_bang (by omega), set_bang (by omega), if_pos rfl, if_neg (by omega)]
    exact hs
  · have hm1 : (c.n + 1) % 2 = 1 := by omega
    simp only [hm, if_false] at hs
    rw [hm1, set_bang (by omega), set_bang (by omega), if_pos rfl, if_neg (by omega)]
    exact hs
theorem bang_len {K : List (List UInt8)} (hA : AllS K) {p : Nat} (hp : p < K.length) : (K[p]!).length = 64 := by
  exact hA _ hp
/-- a save that the cut met: kept whole, or not at all told -/
theorem InvC.crash {K : List (List UInt8)} {base : Nat} {c : Ck} (h : InvC K[base]! K[base + 1]! c) (hA : AllS K) (hp : base + 1 < K.length) {t b : Int} (ht : 0 ≤ t ∧ t ≤ 1000) (hb : 0 ≤ b ∧ b ≤ 2147483648) (hn : c.n + 1 ≤ 4611686018427387904) (bits i : Nat) :
    InvC (crash1 bits K (base + (c.n + 1) % 2, secOf (c.n + 1) t b) i)[base]! (crash1 bits K (base + (c.n + 1) % 2, secOf (c.n + 1) t b) i)[base + 1]! ⟨c.n + 1, t, b⟩ ∨
    InvC (crash1 bits K (base + (c.n + 1) % 2, secOf (c.n + 1) t b) i)[base]! (crash1 bits K (base + (c.n + 1) % 2, secOf (c.n + 1) t b) i)[base + 1]! c := by
  have hl := secOf_len (n := c.n + 1) (clkL_len ht hb)
  unfold crash1
  rcases fateN_cases bits i with hf | hf
  · left
    have e : (secOf (c.n + 1) t b).take (fateN bits i) ++ (K[base + (c.n + 1) % 2]!).drop (fateN bits i) = secOf (c.n + 1) t b := by
      rw [hf, List.take_of_length_le (by omega), List.drop_eq_nil_of_le (by rw [bang_len hA (by omega)]; exact Nat.le_refl _), List.append_nil]
    simp only [e]
    exact h.set hp ht hb hn
  · right
    exact h.setTorn hp hl (by omega)
def Tik (b g c : Nat) (i : Nat) (w : World) : Prop :=
  ∃ K : List (List UInt8), K.length = 2 ∧ DkAt b g K (.slice none 0 0) [] false 0 0 ((i : Int) + 1) w ∧ InvC K[0]! K[1]! ⟨i + 1, (i : Int), 1⟩ ∧ CkAt c b 0 ⟨i + 1, (i : Int), 1⟩ w
theorem Tik.below {b g c i : Nat} {w w' : World} (h : Tik b g c i w) (hb : Below w.heap.size w w') : Tik b g c i w' := by
  obtain ⟨K, h1, h2, h3, h4⟩ := h
  exact ⟨K, h1, h2.below hb, h3, h4.below hb⟩
theorem tikNow {b g c i : Nat} {w : World} (h : Tik b g c i w) : Calls Tryd.prog 51 #[.pointer (some ⟨c, 0, none⟩)] w fun e w' => e = .returned (.int .i64 (i : Int)) ∧ w = w' := by
  obtain ⟨K, h1, h2, h3, h4⟩ := h
  exact clkNow c b 0 _ w h4
theorem tikTick {b g c i : Nat} {w : World} (h : Tik b g c i w) (hi : i < 1000) (hM : Met w) (h9 : 9 ≤ g) (hbc : b < c) :
    Calls Tryd.prog 52 #[.pointer (some ⟨c, 0, none⟩)] w fun e w' => e = .returned (.int .i64 0) ∧ Tik b g c (i + 1) w' ∧ Below g w w' ∧ Met w' := by
  obtain ⟨K, h1, h2, h3, h4⟩ := h
  refine (clkTick c b g 0 ⟨i + 1, (i : Int), 1⟩ K 0 0 ((i : Int) + 1) w h4 h2 (by omega) (by omega) (by simp; omega) hM h9 hbc (by decide) (by decide) (by omega) (by omega) (show 0 ≤ (i : Int) ∧ (i : Int) < 1000 by omega) (show (0 : Int) ≤ 1 ∧ (1 : Int) ≤ 2147483648 by decide)).mono ?_
  intro e w' hp
  obtain ⟨he, hd, hc, hk⟩ := saveOk hp
  have hs := h3.set (base := 0) (t := (i : Int) + 1) (b := 1) (by omega) (by omega) (by decide) (by simp; omega)
  have e1 : (((i + 1 : Nat) : Int)) = (i : Int) + 1 := by omega
  refine ⟨he, ?_, hk.1 g (Nat.le_refl _), hM.belowB (hk.1 g (Nat.le_refl _)) h9⟩
  unfold Tik
  rw [e1]
  exact ⟨K.set (0 + (i + 1 + 1) % 2) (secOf (i + 1 + 1) ((i : Int) + 1) 1), (List.length_set ..).trans h1, hd, hs, hc⟩
theorem tikEnd {b g c : Nat} {w : World} (h : Tik b g c 1000 w) : Calls Tryd.prog 52 #[.pointer (some ⟨c, 0, none⟩)] w fun e w' => e = .returned (.int .i64 13) ∧ w = w' := by
  obtain ⟨K, h1, h2, h3, h4⟩ := h
  exact clkTickEnd c b 0 _ w h4 (by decide)
end Go.Proofs.YtbbcicengfmhiaaDoor

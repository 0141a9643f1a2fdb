/- A codec.Reader: what it takes. No condition but the text's size. A codec.Reader takes a number, a text. No condition but the text's size. -/
import Derived.Test.YtefnkoofgpmmmaaGreatDoorCod2
import Derived.Test.YtefnkoofgpmmmaaGreatDoorNum
namespace Go.Proofs.YtefnkoofgpmmmaaGreatDoor
open Go.RowKit

/-- a reader at b: what is left, whether something was wrong -/
def RdAt (b : Nat) (s : List UInt8) (bad : Bool) (w : World) : Prop :=
  b < w.heap.size ∧ (w.cell? ⟨b, 0, none⟩ = some (.string ⟨s.toArray⟩) ∧ w.cell? ⟨b, 1, none⟩ = some (.bool bad)) ∧ w.frozen? ⟨b, 0, none⟩ = false ∧ w.frozen? ⟨b, 1, none⟩ = false
def KeptB (b : Nat) (w w' : World) : Prop := (∀ B, B ≤ b → Below B w w') ∧ (∀ q, q < w.heap.size → q ≠ b → w'.heap[q]? = w.heap[q]?) ∧ w.heap.size ≤ w'.heap.size
theorem KeptB.refl (b : Nat) (w : World) : KeptB b w w := ⟨fun B _ => Below.refl B _, fun _ _ _ => rfl, Nat.le_refl _⟩
theorem KeptB.trans {b : Nat} {w w1 w2 : World} (h : KeptB b w w1) (k : KeptB b w1 w2) : KeptB b w w2 :=
  ⟨fun B hB => (h.1 B hB).trans (k.1 B hB), fun q h1 h2 => (k.2.1 q (Nat.lt_of_lt_of_le h1 h.2.2) h2).trans (h.2.1 q h1 h2), Nat.le_trans h.2.2 k.2.2⟩
theorem KeptB.of {b : Nat} {w w' : World} (hb : b < w.heap.size) (h : Below w.heap.size w w') : KeptB b w w' :=
  ⟨fun B hB => h.mono (by omega), fun q h1 _ => h.block q h1, h.size⟩
theorem KeptB.met {b : Nat} {w w' : World} (h : KeptB b w w') (hM : Met w) (h5 : 9 ≤ b) : Met w' := hM.belowB (h.1 b (Nat.le_refl _)) h5
theorem RdAt.below {b : Nat} {s : List UInt8} {bad : Bool} {w w' : World} (h : RdAt b s bad w) (hb : Below w.heap.size w w') : RdAt b s bad w' := by
  obtain ⟨h0, ⟨h1, h2⟩, h3, h4⟩ := h
  exact ⟨Nat.lt_of_lt_of_le h0 hb.size, ⟨(hb.cell (p := ⟨b, 0, none⟩) h0).trans h1, (hb.cell (p := ⟨b, 1, none⟩) h0).trans h2⟩, (hb.frozen (p := ⟨b, 0, none⟩) h0).trans h3, (hb.frozen (p := ⟨b, 1, none⟩) h0).trans h4⟩
theorem RdAt.kept {b c : Nat} {s : List UInt8} {bad : Bool} {w w' : World} (h : RdAt b s bad w) (hk : KeptB c w w') (hne : b ≠ c) : RdAt b s bad w' := by
  obtain ⟨h0, ⟨h1, h2⟩, h3, h4⟩ := h
  have hb := hk.2.1 b h0 hne
  exact ⟨Nat.lt_of_lt_of_le h0 hk.2.2, ⟨(World.cell?_of_block hb).trans h1, (World.cell?_of_block hb).trans h2⟩, by rw [← h3]; simp only [World.frozen?, hb], by rw [← h4]; simp only [World.frozen?, hb]⟩
theorem RdAt.setBad {b : Nat} {s : List UInt8} {bad : Bool} {w : World} (h : RdAt b s bad w) : RdAt b s true (w.setCell ⟨b, 1, none⟩ (.bool true)) := by
  obtain ⟨h0, ⟨h1, h2⟩, h3, h4⟩ := h
  refine ⟨by simpa using h0, ⟨?_, ?_⟩, ?_, ?_⟩ <;> go_simp
theorem RdAt.setText {b : Nat} {s t : List UInt8} {bad : Bool} {w : World} (h : RdAt b s bad w) : RdAt b t bad (w.setCell ⟨b, 0, none⟩ (.string ⟨t.toArray⟩)) := by
  obtain ⟨h0, ⟨h1, h2⟩, h3, h4⟩ := h
  refine ⟨by simpa using h0, ⟨?_, ?_⟩, ?_, ?_⟩ <;> go_simp
theorem KeptB.set {b : Nat} {w : World} (i : Nat) (v : Value) : KeptB b w (w.setCell ⟨b, i, none⟩ v) :=
  ⟨fun B hB => (Below.refl B w).setCell (p := ⟨b, i, none⟩) hB _, fun q _ h => Below.heap_setCell _ _ _ _ h, by simp⟩

theorem readerNew (s : ByteArray) (w : World) :
    Calls Tryz.prog 69 #[.string s] w fun e w' => e = .returned (.pointer (some ⟨w.heap.size, 0, none⟩)) ∧ RdAt w.heap.size s.data.toList false w' ∧ Below w.heap.size w w' := by
  have hr : RdAt w.heap.size s.data.toList false (w.alloc (.cells #[.string s, .bool false] 212)) := by
    refine ⟨by simp, ⟨?_, ?_⟩, ?_, ?_⟩ <;> go_simp
  have HR := Lib.hid hr
  clear hr
  go_enter Tryz.func69, Tryz.ntmps69
  go_wp2
  go_ret
  exact ⟨rfl, HR.out, below1 _ _⟩
theorem readerFail (b : Nat) (s : List UInt8) (bad : Bool) (w : World) (h : RdAt b s bad w) :
    Calls Tryz.prog 115 #[.pointer (some ⟨b, 0, none⟩)] w fun e w' => e = .returned (.int .i64 0) ∧ RdAt b s true w' ∧ KeptB b w w' := by
  have HR := Lib.hid h
  obtain ⟨h0, ⟨h1, h2⟩, h3, h4⟩ := h
  go_enter Tryz.func115, Tryz.ntmps115
  go_wp2
  go_ret
  exact ⟨rfl, HR.out.setBad, KeptB.set _ _⟩
theorem readerOk (b : Nat) (s : List UInt8) (bad : Bool) (w : World) (h : RdAt b s bad w) :
    Calls Tryz.prog 116 #[.pointer (some ⟨b, 0, none⟩)] w fun e w' => e = .returned (.bool (!bad)) ∧ w = w' := by
  obtain ⟨h0, ⟨h1, h2⟩, h3, h4⟩ := h
  go_enter Tryz.func116, Tryz.ntmps116
  go_wp2
  go_ret
  exact ⟨rfl, rfl⟩
theorem cutC (s : List UInt8) (w : World) (hM : Met w) (hs : s.length < 4294967281) :
    Calls Tryz.prog 98 #[.string ⟨s.toArray⟩, .string ⟨#[44]⟩] w fun e w' => e = .returned (.tuple #[.string ⟨(Lib.cut s [44]).1.toArray⟩, .string ⟨(Lib.cut s [44]).2.1.toArray⟩, .bool (Lib.cut s [44]).2.2]) ∧ Below w.heap.size w w' := by
  obtain ⟨m, hm⟩ := hM.2.2.2.1
  refine (Tryz.strings_Cut ⟨s.toArray⟩ ⟨#[44]⟩ m w (by simpa [ByteArray.size] using hs) hm).mono ?_
  rintro e w' ⟨h1, n, rfl⟩
  exact ⟨h1, below_drewN (Below.refl _ _) _⟩
theorem atoiC (h : List UInt8) (w : World) (hM : Met w) (hs : h.length ≤ 281474976710656) :
    Calls Tryz.prog 92 #[.string ⟨h.toArray⟩] w fun e w' => Below w.heap.size w w' ∧
      match Lib.atoiAll h with
      | .ok v => e = .returned (.tuple #[.int .i64 v, .nilIface])
      | _ => ∃ v N, e = .returned (.tuple #[.int .i64 v, .iface 310 (.pointer (some ⟨N, 0, none⟩))]) := by
  obtain ⟨_, ⟨a, h2⟩, ⟨b, h3⟩, _⟩ := hM
  have hs' : (⟨h.toArray⟩ : ByteArray).size ≤ 281474976710656 := by simpa [ByteArray.size] using hs
  have c2 : w.cell? ⟨1, 0, none⟩ = some (.iface 363 (.pointer (some a))) := by simpa using World.var?_cell gSyn h2 0
  have c3 : w.cell? ⟨2, 0, none⟩ = some (.iface 363 (.pointer (some b))) := by simpa using World.var?_cell gRng h3 0
  rcases hq : Lib.atoiAll h with v | _ | _
  · refine (Tryz.strconv_Atoi_ok ⟨h.toArray⟩ (by omega) v hq w).mono ?_
    rintro e w' ⟨h1, hw⟩
    refine ⟨?_, h1⟩
    rcases hw with rfl | ⟨t, rfl⟩
    · exact Below.refl _ _
    · unfold Lib.bytesWorld
      exact Lib.below_freeze (((Below.refl _ _).drew).alloc (Nat.le_refl _) _) (Nat.le_refl _) _
  · refine (Tryz.strconv_Atoi_syntax ⟨h.toArray⟩ hs' hq _ w c2 (.inr ⟨_, _, rfl⟩)).mono ?_
    rintro e w' ⟨N, h1, _, _, hb⟩
    exact ⟨hb, _, _, h1⟩
  · refine (Tryz.strconv_Atoi_range ⟨h.toArray⟩ hs' hq _ w c3 (.inr ⟨_, _, rfl⟩)).mono ?_
    rintro e w' ⟨N, h1, _, _, hb⟩
    exact ⟨hb, _, _, h1⟩
end Go.Proofs.YtefnkoofgpmmmaaGreatDoor

namespace Go.Proofs.YtefnkoofgpmmmaaGreatDoor
open Go.RowKit

def rdStep (s : List UInt8) (bad : Bool) (lo hi : Int) : Int × List UInt8 × Bool :=
  if bad = true then (0, s, true) else match rdInt s lo hi with | some (n, r) => (n, r, false) | none => (0, s, true)
theorem rdStep_none {s : List UInt8} {lo hi : Int} (h : rdInt s lo hi = none) : rdStep s false lo hi = (0, s, true) := by simp [rdStep, h]
theorem rdStep_some {s r : List UInt8} {lo hi n : Int} (h : rdInt s lo hi = some (n, r)) : rdStep s false lo hi = (n, r, false) := by simp [rdStep, h]
theorem cut_len (s : List UInt8) : (Lib.cut s [44]).1.length ≤ s.length := by
  unfold Lib.cut
  split
  · simp; omega
  · simp
def IntPost (b : Nat) (s : List UInt8) (bad : Bool) (lo hi : Int) (w : World) (e : Ending) (w' : World) : Prop :=
  e = .returned (.int .i64 (rdStep s bad lo hi).1) ∧ RdAt b (rdStep s bad lo hi).2.1 (rdStep s bad lo hi).2.2 w' ∧ KeptB b w w'
theorem IntPost.none {b : Nat} {s : List UInt8} {lo hi : Int} {w w' : World} (h : rdInt s lo hi = none) (hr : RdAt b s true w') (hk : KeptB b w w') : IntPost b s false lo hi w (.returned (.int .i64 0)) w' := by
  unfold IntPost
  rw [rdStep_none h]
  exact ⟨rfl, hr, hk⟩
theorem IntPost.some {b : Nat} {s r : List UInt8} {lo hi n : Int} {w w' : World} (h : rdInt s lo hi = some (n, r)) (hr : RdAt b r false w') (hk : KeptB b w w') : IntPost b s false lo hi w (.returned (.int .i64 n)) w' := by
  unfold IntPost
  rw [rdStep_some h]
  exact ⟨rfl, hr, hk⟩

set_option maxRecDepth 100000 in
set_option maxHeartbeats 2000000 in
theorem readerInt (b : Nat) (s : List UInt8) (bad : Bool) (lo hi : Int) (w : World) (h : RdAt b s bad w) (hM : Met w) (h5 : 9 ≤ b) (hs : s.length < 4294967281) :
    Calls Tryz.prog 70 #[.pointer (some ⟨b, 0, none⟩), .int .i64 lo, .int .i64 hi] w (IntPost b s bad lo hi w) := by
  have HR := Lib.hid h
  have HM := Lib.hid hM
  obtain ⟨h0, ⟨h1, h2⟩, h3, h4⟩ := h
  clear hM
  cases bad with
  | true =>
    go_enter Tryz.func70, Tryz.ntmps70
    go_wp2
    go_ret
    exact ⟨rfl, HR.out, KeptB.refl _ _⟩
  | false =>
    have hc := cutC s
    have hl := cut_len s
    have HI := Lib.hid (show rdInt s lo hi = rdInt s lo hi from rfl)
    obtain ⟨X, hX⟩ : ∃ X, X = rdInt s lo hi := ⟨_, rfl⟩
    have HX := Lib.hid hX
    rw [rdInt] at hX
    generalize Lib.cut s [44] = cu at hc hl hX
    obtain ⟨p, r, ok⟩ := cu
    dsimp only at hc hl hX
    have HC := Lib.hid hc
    have HX2 := Lib.hid hX
    clear hc hX
    go_enter Tryz.func70, Tryz.ntmps70
    go_wp2_with fail
    refine (HC.out _ HM.out hs).mono ?_
    rintro e w1 ⟨rfl, hb⟩
    have HK := Lib.hid (KeptB.of h0 hb)
    have HR1 := Lib.hid (HR.out.below hb)
    have HM1 := Lib.hid (HM.out.below hb)
    clear hb h1 h2 h3 h4
    cases ok with
    | false =>
      have hN : rdInt s lo hi = none := by rw [← HX.out, HX2.out]; rfl
      have HN := Lib.hid hN
      clear hN
      go_wp2_with fail
      refine (readerFail b s false _ HR1.out).mono ?_
      rintro e w2 ⟨rfl, hr2, hk2⟩
      have H2 := Lib.hid (And.intro hr2 (HK.out.trans hk2))
      clear hr2 hk2
      go_wp2
      go_ret
      exact IntPost.none HN.out H2.out.1 H2.out.2
    | true =>
      go_wp2_with fail
      refine (atoiC p _ HM1.out (by omega)).mono ?_
      rintro e w2 ⟨hb, hq⟩
      have HK2 := Lib.hid (HK.out.trans (KeptB.of HR1.out.1 hb))
      have HR2 := Lib.hid (HR1.out.below hb)
      have HM2 := Lib.hid (HM1.out.below hb)
      clear hb
      have hX3 := HX2.out
      simp only [if_true] at hX3
      rcases ha : Lib.atoiAll p with v | _ | _
      rotate_left
      · skip
        rw [ha] at hq hX3
        obtain ⟨v, N, rfl⟩ := hq
        have HN := Lib.hid (show rdInt s lo hi = none by rw [← HX.out, hX3])
        clear hX3 ha
        go_wp2_with fail
        refine (readerFail b s false _ HR2.out).mono ?_
        rintro e w3 ⟨rfl, hr2, hk2⟩
        have H2 := Lib.hid (And.intro hr2 (HK2.out.trans hk2))
        clear hr2 hk2
        go_wp2
        go_ret
        exact IntPost.none HN.out H2.out.1 H2.out.2
      · skip
        rw [ha] at hq hX3
        obtain ⟨v, N, rfl⟩ := hq
        have HN := Lib.hid (show rdInt s lo hi = none by rw [← HX.out, hX3])
        clear hX3 ha
        go_wp2_with fail
        refine (readerFail b s false _ HR2.out).mono ?_
        rintro e w3 ⟨rfl, hr2, hk2⟩
        have H2 := Lib.hid (And.intro hr2 (HK2.out.trans hk2))
        clear hr2 hk2
        go_wp2
        go_ret
        exact IntPost.none HN.out H2.out.1 H2.out.2
      · skip
        rw [ha] at hq hX3
        subst hq
        have hv := Lib.atoiAll_bounds ha
        clear ha
        dsimp only at hX3
        go_wp2_with fail
        refine (itoaC v hv _ HM2.out).mono ?_
        rintro e w3 ⟨rfl, hb⟩
        have HK3 := Lib.hid (HK2.out.trans (KeptB.of HR2.out.1 hb))
        have HR3 := Lib.hid (HR2.out.below hb)
        clear hb
        by_cases he : Lib.itoa v = p
        · have hX4 : X = if lo ≤ v ∧ v ≤ hi then some (v, r) else none := by rw [hX3]; simp only [he, true_and]
          clear hX3
          subst he
          generalize (⟨(Lib.itoa v).toArray⟩ : ByteArray) = sx
          cases t1 : decide (v < lo) with
          | true =>
            have HN := Lib.hid (show rdInt s lo hi = none by
              rw [← HX.out, hX4, if_neg (by simp only [decide_eq_true_eq] at t1; omega)])
            clear hX4
            go_wp2_with fail
            refine (readerFail b s false _ HR3.out).mono ?_
            rintro e w4 ⟨rfl, hr2, hk2⟩
            have H2 := Lib.hid (And.intro hr2 (HK3.out.trans hk2))
            clear hr2 hk2
            go_wp2
            go_ret
            exact IntPost.none HN.out H2.out.1 H2.out.2
          | false =>
            cases t2 : decide (hi < v) with
            | true =>
              have HN := Lib.hid (show rdInt s lo hi = none by
                rw [← HX.out, hX4, if_neg (by simp only [decide_eq_true_eq] at t2; omega)])
              clear hX4
              go_wp2_with fail
              refine (readerFail b s false _ HR3.out).mono ?_
              rintro e w4 ⟨rfl, hr2, hk2⟩
              have H2 := Lib.hid (And.intro hr2 (HK3.out.trans hk2))
              clear hr2 hk2
              go_wp2
              go_ret
              exact IntPost.none HN.out H2.out.1 H2.out.2
            | false =>
              have HN := Lib.hid (show rdInt s lo hi = some (v, r) by
                rw [← HX.out, hX4, if_pos (by simp only [decide_eq_false_iff_not] at t1 t2; omega)])
              clear hX4
              have hf := HR3.out.2.2.1
              have hc0 := HR3.out.2.1.1
              have hz := HR3.out.1
              have H2 := Lib.hid (HR3.out.setText (t := r))
              go_wp2
              go_ret
              exact IntPost.some HN.out H2.out (HK3.out.trans (KeptB.set _ _))
        · have hX4 : X = none := by rw [hX3]; simp only [he, false_and, if_false]
          have HN := Lib.hid (show rdInt s lo hi = none by rw [← HX.out, hX4])
          have e1 : ¬ ((⟨(Lib.itoa v).toArray⟩ : ByteArray).toList = (⟨p.toArray⟩ : ByteArray).toList) := by
            rw [ByteArray.toList_eq, ByteArray.toList_eq]
            simpa using he
          clear hX3 hX4 he
          generalize (⟨(Lib.itoa v).toArray⟩ : ByteArray) = sx at e1 ⊢
          generalize (⟨p.toArray⟩ : ByteArray) = sp at e1 ⊢
          go_wp2_with fail
          refine (readerFail b s false _ HR3.out).mono ?_
          rintro e w4 ⟨rfl, hr2, hk2⟩
          have H2 := Lib.hid (And.intro hr2 (HK3.out.trans hk2))
          clear hr2 hk2
          go_wp2
          go_ret
          exact IntPost.none HN.out H2.out.1 H2.out.2

/-- what is taken as a text -/
def rdText (s : List UInt8) (bad : Bool) (most : Int) : List UInt8 × List UInt8 × Bool :=
  if (rdStep s bad 0 most).2.2 = true then ([], (rdStep s bad 0 most).2.1, true)
  else if ((rdStep s bad 0 most).2.1.length : Int) < (rdStep s bad 0 most).1 then ([], (rdStep s bad 0 most).2.1, true)
  else ((rdStep s bad 0 most).2.1.take (rdStep s bad 0 most).1.toNat, (rdStep s bad 0 most).2.1.drop (rdStep s bad 0 most).1.toNat, false)

def TextPost (b : Nat) (s : List UInt8) (bad : Bool) (most : Int) (w : World) (e : Ending) (w' : World) : Prop :=
  e = .returned (.string ⟨(rdText s bad most).1.toArray⟩) ∧ RdAt b (rdText s bad most).2.1 (rdText s bad most).2.2 w' ∧ KeptB b w w'
theorem rdStep_bounds {s : List UInt8} {bad : Bool} {lo hi : Int} (h : (rdStep s bad lo hi).2.2 = false) : lo ≤ (rdStep s bad lo hi).1 ∧ (rdStep s bad lo hi).1 ≤ hi ∧ (rdStep s bad lo hi).2.1.length ≤ s.length := by
  unfold rdStep at h ⊢
  split at h
  · cases h
  · rename_i hb
    rw [if_neg hb]
    cases hr : rdInt s lo hi with
    | none => rw [hr] at h; cases h
    | some nr =>
      obtain ⟨n, r⟩ := nr
      simp only
      unfold rdInt at hr
      split at hr
      · split at hr
        · split at hr
          · rename_i h3
            injection hr with hr
            injection hr with h4 h5
            subst h4
            refine ⟨h3.2.1, h3.2.2, ?_⟩
            rw [← h5]
            unfold Lib.cut
            split <;> simp
          · cases hr
        · cases hr
        · cases hr
      · cases hr

set_option maxRecDepth 100000 in
set_option maxHeartbeats 2000000 in
theorem readerText (b : Nat) (s : List UInt8) (bad : Bool) (most : Int) (w : World) (h : RdAt b s bad w) (hM : Met w) (h5 : 9 ≤ b) (hs : s.length < 4294967281) :
    Calls Tryz.prog 71 #[.pointer (some ⟨b, 0, none⟩), .int .i64 most] w (TextPost b s bad most w) := by
  have hbd := rdStep_bounds (s := s) (bad := bad) (lo := 0) (hi := most)
  have HI := Lib.hid (readerInt b s bad 0 most w h hM h5 hs)
  obtain ⟨X, hX⟩ : ∃ X, X = rdText s bad most := ⟨_, rfl⟩
  have HX := Lib.hid hX
  rw [rdText] at hX
  unfold IntPost at HI
  generalize rdStep s bad 0 most = st at hbd HI hX
  obtain ⟨n, r, bd⟩ := st
  dsimp only at hbd HI hX
  have HX2 := Lib.hid hX
  clear hX
  go_enter Tryz.func71, Tryz.ntmps71
  go_wp2_with fail
  refine HI.out.mono ?_
  rintro e w1 ⟨rfl, hr, hk⟩
  have HR := Lib.hid hr
  have HK := Lib.hid hk
  clear hr hk h hM
  go_wp2_with fail
  refine (readerOk b r bd _ HR.out).mono ?_
  rintro e w2 ⟨rfl, rfl⟩
  cases bd with
  | true =>
    have HE := Lib.hid (show rdText s bad most = ([], r, true) by rw [← HX.out, HX2.out]; rfl)
    go_wp2
    go_ret
    unfold TextPost
    rw [HE.out]
    exact ⟨rfl, HR.out, HK.out⟩
  | false =>
    obtain ⟨b0, b1, b2⟩ := hbd rfl
    obtain ⟨k, rfl⟩ : ∃ k : Nat, n = k := ⟨n.toNat, by omega⟩
    have hc0 := HR.out.2.1.1
    have hz := HR.out.1
    have hf := HR.out.2.2.1
    have hsz : ((⟨r.toArray⟩ : ByteArray).size : Int) = (r.length : Int) := by simp [ByteArray.size]
    cases t1 : decide (r.length < k) with
    | true =>
      have HE := Lib.hid (show rdText s bad most = ([], r, true) by
        rw [← HX.out, HX2.out]
        simp only [Bool.false_eq_true, if_false]
        rw [if_pos (by simp only [decide_eq_true_eq] at t1; omega)])
      go_wp2_with fail
      refine (readerFail b r false _ HR.out).mono ?_
      rintro e w2 ⟨rfl, hr2, hk2⟩
      have H2 := Lib.hid (And.intro hr2 (HK.out.trans hk2))
      clear hr2 hk2
      go_wp2
      go_ret
      unfold TextPost
      rw [HE.out]
      exact ⟨rfl, H2.out.1, H2.out.2⟩
    | false =>
      have HE := Lib.hid (show rdText s bad most = (r.take k, r.drop k, false) by
        rw [← HX.out, HX2.out]
        simp only [Bool.false_eq_true, if_false]
        rw [if_neg (by simp only [decide_eq_false_iff_not] at t1; omega)]
        simp)
      have H2 := Lib.hid (HR.out.setText (t := r.drop k))
      have hkr : k ≤ r.length := by simp only [decide_eq_false_iff_not] at t1; omega
      have x1 : (⟨r.toArray⟩ : ByteArray).extract 0 k = ⟨(r.take k).toArray⟩ := by
        apply ByteArray.ext
        simp [ByteArray.data_extract]
      have x2 : (⟨r.toArray⟩ : ByteArray).extract k r.length = ⟨(r.drop k).toArray⟩ := by
        apply ByteArray.ext
        simp only [ByteArray.data_extract, List.extract_toArray, List.extract_eq_take_drop]
        rw [List.take_of_length_le (by simp)]
      have X1 := Lib.hid x1
      have X2 := Lib.hid x2
      clear x1 x2
      go_wp2
      rw [X1.out, X2.out]
      go_ret
      unfold TextPost
      rw [HE.out]
      exact ⟨rfl, H2.out, HK.out.trans (KeptB.set _ _)⟩
end Go.Proofs.YtefnkoofgpmmmaaGreatDoor

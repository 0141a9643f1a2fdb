/- A codec.Reader: what it takes. No condition but the text's size. -/
import Derived.Test.YtbbcicengfmhiaaDoorCod2
import Derived.Test.YtbbcicengfmhiaaDoorNum
namespace Go.Proofs.YtbbcicengfmhiaaDoor
open Go.RowKit

/-- a reader at b: what is left, whether something was wrong -/
def RdAt (b : Nat) (s : List UInt8) (bad : Bool) (w : World) : Prop :=
  b < w.heap.size ∧ (w.cell? ⟨b, 0, none⟩ = some (.string ⟨s.toArray⟩) ∧ w.cell? ⟨b, 1, none⟩ = some (.bool bad)) ∧ w.frozen? ⟨b, 0, none⟩ = false ∧ w.frozen? ⟨b, 1, none⟩ = false
def KeptB (b : Nat) (w w' : World) : Prop := (∀ B, B ≤ b → Below B w w') ∧ (∀ q, q < w.heap.size → q ≠ b → w'.heap[q]? = w.heap[q]?) ∧ w.heap.size ≤ w'.heap.size
theorem KeptB.refl (b : Nat) (w : World) : KeptB b w w := ⟨fun B _ => Below.refl B _, fun _ _ _ => rfl, Nat.le_refl _⟩
theorem KeptB.trans {b : Nat} {w w1 w2 : World} (h : KeptB b w w1) (k : KeptB b w1 w2) : KeptB b w w2 :=
  ⟨fun B hB => (h.1 B hB).trans (k.1 B hB), fun q h1 h2 => (k.2.1 q (Nat.lt_of_lt_of_le h1 h.2.2) h2).trans (h.2.1 q h1 h2), Nat.le_trans h.2.2 k.2.2⟩
theorem KeptB.of {b : Nat} {w w' : World} (hb : b < w.heap.size) (h : Below w.heap.size w w') : KeptB b w w' :=
  ⟨fun B hB => h.mono (by omega), fun q h1 _ => h.block q h1, h.size⟩
theorem KeptB.met {b : Nat} {w w' : World} (h : KeptB b w w') (hM : Met w) (h5 : 9 ≤ b) : Met w' := hM.belowB (h.1 b (Nat.le_refl _)) h5
theorem RdAt.below {b : Nat} {s : List UInt8} {bad : Bool} {w w' : World} (h : RdAt b s bad w) (hb : Below w.heap.size w w') : RdAt b s bad w' := by
  obtain ⟨h0, ⟨h1, h2⟩, h3, h4⟩ := h
  exact ⟨Nat.lt_of_lt_of_le h0 hb.size, ⟨(hb.cell (p := ⟨b, 0, none⟩) h0).trans h1, (hb.cell (p := ⟨b, 1, none⟩) h0).trans h2⟩, (hb.frozen (p := ⟨b, 0, none⟩) h0).trans h3, (hb.frozen (p := ⟨b, 1, none⟩) h0).trans h4⟩
theorem RdAt.kept {b c : Nat} {s : List UInt8} {bad : Bool} {w w' : World} (h : RdAt b s bad w) (hk : KeptB c w w') (hne : b ≠ c) : RdAt b s bad w' := by
  obtain ⟨h0, ⟨h1, h2⟩, h3, h4⟩ := h
  have hb := hk.2.1 b h0 hne
  exact ⟨Nat.lt_of_lt_of_le h0 hk.2.2, ⟨(World.cell?_of_block hb).trans h1, (World.cell?_of_block hb).trans h2⟩, by rw [← h3]; simp only [World.frozen?, hb], by rw [← h4]; simp only [World.frozen?, hb]⟩
theorem RdAt.setBad {b : Nat} {s : List UInt8} {bad : Bool} {w : World} (h : RdAt b s bad w) : RdAt b s true (w.setCell ⟨b, 1, none⟩ (.bool true)) := by
  obtain ⟨h0, ⟨h1, h2⟩, h3, h4⟩ := h
  refine ⟨by simpa using h0, ⟨?_, ?_⟩, ?_, ?_⟩ <;> go_simp
theorem RdAt.setText {b : Nat} {s t : List UInt8} {bad : Bool} {w : World} (h : RdAt b s bad w) : RdAt b t bad (w.setCell ⟨b, 0, none⟩ (.string ⟨t.toArray⟩)) := by
  obtain ⟨h0, ⟨h1, h2⟩, h3, h4⟩ := h
  refine ⟨by simpa using h0, ⟨?_, ?_⟩, ?_, ?_⟩ <;> go_simp
theorem KeptB.set {b : Nat} {w : World} (i : Nat) (v : Value) : KeptB b w (w.setCell ⟨b, i, none⟩ v) :=
  ⟨fun B hB => (Below.refl B w).setCell (p := ⟨b, i, none⟩) hB _, fun q _ h => Below.heap_setCell _ _ _ _ h, by simp⟩

theorem readerNew (s : ByteArray) (w : World) :
    Calls Tryd.prog 25 #[.string s] w fun e w' => e = .returned (.pointer (some ⟨w.heap.size, 0, none⟩)) ∧ RdAt w.heap.size s.data.toList false w' ∧ Below w.heap.size w w' := by
  have hr : RdAt w.heap.size s.data.toList false (w.alloc (.cells #[.string s, .bool false] 136)) := by
    refine ⟨by simp, ⟨?_, ?_⟩, ?_, ?_⟩ <;> go_simp
  have HR := Lib.hid hr
  clear hr
  go_enter Tryd.func25, Tryd.ntmps25
  go_wp2
  go_ret
  exact ⟨rfl, HR.out, below1 _ _⟩
theorem readerFail (b : Nat) (s : List UInt8) (bad : Bool) (w : World) (h : RdAt b s bad w) :
    Calls Tryd.prog 128 #[.pointer (some ⟨b, 0, none⟩)] w fun e w' => e = .returned (.int .i64 0) ∧ RdAt b s true w' ∧ KeptB b w w' := by
  have HR := Lib.hid h
  obtain ⟨h0, ⟨h1, h2⟩, h3, h4⟩ := h
  go_enter Tryd.func128, Tryd.ntmps128
  go_wp2
  go_ret
  exact ⟨rfl, HR.out.setBad, KeptB.set _ _⟩
theorem readerOk (b : Nat) (s : List UInt8) (bad : Bool) (w : World) (h : RdAt b s bad w) :
    Calls Tryd.prog 31 #[.pointer (some ⟨b, 0, none⟩)] w fun e w' => e = .returned (.bool (!bad)) ∧ w = w' := by
  obtain ⟨h0, ⟨h1, h2⟩, h3, h4⟩ := h
  go_enter Tryd.func31, Tryd.ntmps31
  go_wp2
  go_ret
  exact ⟨rfl, rfl⟩
theorem readerDone (b : Nat) (s : List UInt8) (bad : Bool) (w : World) (h : RdAt b s bad w) :
    Calls Tryd.prog 30 #[.pointer (some ⟨b, 0, none⟩)] w fun e w' => e = .returned (.bool (!bad && s.isEmpty)) ∧ w = w' := by
  have HR := Lib.hid h
  obtain ⟨h0, ⟨h1, h2⟩, h3, h4⟩ := h
  go_enter Tryd.func30, Tryd.ntmps30
  go_wp2_with fail
  refine (readerOk b s bad _ HR.out).mono ?_
  rintro e w' ⟨rfl, rfl⟩
  cases bad with
  | true =>
    go_wp2
    go_ret
    exact ⟨rfl, rfl⟩
  | false =>
    cases s with
    | nil =>
      go_wp2
      go_ret
      exact ⟨rfl, rfl⟩
    | cons c r =>
      go_wp2
      go_ret
      exact ⟨rfl, rfl⟩

theorem cutC (s : List UInt8) (w : World) (hM : Met w) (hs : s.length < 4294967281) :
    Calls Tryd.prog 127 #[.string ⟨s.toArray⟩, .string ⟨#[44]⟩] w fun e w' => e = .returned (.tuple #[.string ⟨(Lib.cut s [44]).1.toArray⟩, .string ⟨(Lib.cut s [44]).2.1.toArray⟩, .bool (Lib.cut s [44]).2.2]) ∧ Below w.heap.size w w' := by
  obtain ⟨m, hm⟩ := hM.2.2.2.1
  refine (Tryd.strings_Cut ⟨s.toArray⟩ ⟨#[44]⟩ m w (by simpa [ByteArray.size] using hs) hm).mono ?_
  rintro e w' ⟨h1, n, rfl⟩
  exact ⟨h1, below_drewN (Below.refl _ _) _⟩
theorem atoiC (h : List UInt8) (w : World) (hM : Met w) (hs : h.length ≤ 281474976710656) :
    Calls Tryd.prog 129 #[.string ⟨h.toArray⟩] w fun e w' => Below w.heap.size w w' ∧
      match Lib.atoiAll h with
      | .ok v => e = .returned (.tuple #[.int .i64 v, .nilIface])
      | _ => ∃ v N, e = .returned (.tuple #[.int .i64 v, .iface 249 (.pointer (some ⟨N, 0, none⟩))]) := by
  obtain ⟨_, ⟨a, h2⟩, ⟨b, h3⟩, _⟩ := hM
  have hs' : (⟨h.toArray⟩ : ByteArray).size ≤ 281474976710656 := by simpa [ByteArray.size] using hs
  have c2 : w.cell? ⟨2, 0, none⟩ = some (.iface 286 (.pointer (some a))) := by simpa using World.var?_cell gSyn h2 0
  have c3 : w.cell? ⟨3, 0, none⟩ = some (.iface 286 (.pointer (some b))) := by simpa using World.var?_cell gRng h3 0
  rcases hq : Lib.atoiAll h with v | _ | _
  · refine (Tryd.strconv_Atoi_ok ⟨h.toArray⟩ (by omega) v hq w).mono ?_
    rintro e w' ⟨h1, hw⟩
    refine ⟨?_, h1⟩
    rcases hw with rfl | ⟨t, rfl⟩
    · exact Below.refl _ _
    · unfold Lib.bytesWorld
      exact Lib.below_freeze (((Below.refl _ _).drew).alloc (Nat.le_refl _) _) (Nat.le_refl _) _
  · refine (Tryd.strconv_Atoi_syntax ⟨h.toArray⟩ hs' hq _ w c2 (.inr ⟨_, _, rfl⟩)).mono ?_
    rintro e w' ⟨N, h1, _, _, hb⟩
    exact ⟨hb, _, _, h1⟩
  · refine (Tryd.strconv_Atoi_range ⟨h.toArray⟩ hs' hq _ w c3 (.inr ⟨_, _, rfl⟩)).mono ?_
    rintro e w' ⟨N, h1, _, _, hb⟩
    exact ⟨hb, _, _, h1⟩
end Go.Proofs.YtbbcicengfmhiaaDoor

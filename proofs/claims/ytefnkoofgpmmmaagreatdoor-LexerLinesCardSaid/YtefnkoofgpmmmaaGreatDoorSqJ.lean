/- strings.splitSeq and strings.SplitSeq at a separator of one byte. -/
import Derived.Test.YtefnkoofgpmmmaaGreatDoorSqI
namespace Go.Proofs.YtefnkoofgpmmmaaGreatDoor
set_option maxRecDepth 100000
open Go.RowKit Go.Shelf

def SqPost (s : ByteArray) (c : UInt8) (w : World) (e : Ending) (w' : World) : Prop :=
  e = .returned (.func (.func 149) #[] #[.pointer (some ⟨w.heap.size + 1, 0, none⟩), .pointer (some ⟨w.heap.size, 0, none⟩), .pointer (some ⟨w.heap.size + 2, 0, none⟩)]) ∧ Below w.heap.size w w' ∧ w'.heap.size = w.heap.size + 3 ∧
    BlkIs w' w.heap.size [.string s] 9 ∧ BlkIs w' (w.heap.size + 1) [.string ⟨#[c]⟩] 9 ∧ BlkIs w' (w.heap.size + 2) [.int .i64 0] 3
theorem sq_made (s : ByteArray) (c : UInt8) (w : World) : SqPost s c w (.returned (.func (.func 149) #[] #[.pointer (some ⟨w.heap.size + 1, 0, none⟩), .pointer (some ⟨w.heap.size, 0, none⟩), .pointer (some ⟨w.heap.size + 2, 0, none⟩)]))
    (((w.alloc (.cells #[.string s] 9)).alloc (.cells #[.string ⟨#[c]⟩] 9)).alloc (.cells #[.int .i64 0] 3)) := by
  have b1 := Below.refl w.heap.size w
  have b2 := b1.alloc (Nat.le_refl _) (.cells #[.string s] 9)
  have b3 := b2.alloc (by simp) (.cells #[.string ⟨#[c]⟩] 9)
  have b4 := b3.alloc (by simp; omega) (.cells #[.int .i64 0] 3)
  have k0 := BlkIs.alloc w [.string s] 9
  have k1 := BlkIs.alloc (w.alloc (.cells #[.string s] 9)) [.string ⟨#[c]⟩] 9
  have k2 := BlkIs.alloc ((w.alloc (.cells #[.string s] 9)).alloc (.cells #[.string ⟨#[c]⟩] 9)) [.int .i64 0] 3
  simp only [World.size_alloc] at k1 k2
  have g1 := (Below.refl _ (w.alloc (.cells #[.string s] 9))).alloc (Nat.le_refl _) (.cells #[.string ⟨#[c]⟩] 9)
  have g2 := (Below.refl _ ((w.alloc (.cells #[.string s] 9)).alloc (.cells #[.string ⟨#[c]⟩] 9))).alloc (Nat.le_refl _) (.cells #[.int .i64 0] 3)
  exact ⟨rfl, b4, by simp, (k0.below g1).below g2, k1.below g2, k2⟩
set_option maxHeartbeats 1000000 in
theorem seq78 (s : ByteArray) (c : UInt8) (w : World) : Calls Tryz.prog 97 #[.string s, .string ⟨#[c]⟩, .int .i64 0] w (SqPost s c w) := by
  have HQ := Lib.hid (sq_made s c w)
  generalize SqPost s c w = GP at *
  go_enter Tryz.func97, Tryz.ntmps97
  go_wp2_with fail
  exact HQ.out
set_option maxHeartbeats 1000000 in
theorem seq41 (s : ByteArray) (c : UInt8) (w : World) : Calls Tryz.prog 44 #[.string s, .string ⟨#[c]⟩] w (SqPost s c w) := by
  have HQ := Lib.hid (seq78 s c w)
  have HP := Lib.hid (fun e w' (h : SqPost s c w e w') => h.1)
  generalize SqPost s c w = GP at *
  go_enter Tryz.func44, Tryz.ntmps44
  go_wp2_with fail
  refine HQ.out.mono ?_
  rintro e w1 h1
  obtain rfl := HP.out _ _ h1
  have HR := Lib.hid h1
  clear h1
  go_wp2_with fail
  exact HR.out
end Go.Proofs.YtefnkoofgpmmmaaGreatDoor

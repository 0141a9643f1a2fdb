/- The statements' own awake of layer 15. Conditions: the listed variables hold what they are laid to. -/
import Derived.Test.YtbbcicengfmhiaaDoorInE
import Derived.Test.YtbbcicengfmhiaaDoorInT
import Derived.Test.YtbbcicengfmhiaaDoorInP
import Derived.Test.YtbbcicengfmhiaaDoorInM
namespace Go.Proofs.YtbbcicengfmhiaaDoor
set_option maxRecDepth 100000
open Go.RowKit

def xA : Rel := (4, 1, 2, 3, ⟨#[97]⟩)
/-- the inbox with its releases, and the release beside it -/
def AwS (b q : Nat) (l : List Rel) (W : World) : Prop := (∃ cv, IbAt b cv l W ∧ cv.ownBlock ≠ some q) ∧ BlkIs W q (encR xA) 75 ∧ q ≠ b
theorem AwS.below {b q : Nat} {l : List Rel} {W W' : World} (h : AwS b q l W) (hb : Below W.heap.size W W') : AwS b q l W' := by
  obtain ⟨⟨cv, h1, h2⟩, h3, h4⟩ := h
  exact ⟨⟨cv, h1.below hb, h2⟩, h3.below hb, h4⟩
theorem AwS.cells {b q : Nat} {l : List Rel} {W : World} (h : AwS b q l W) : W.cell? ⟨q, 0, none⟩ = some (.int .i64 4) ∧ W.cell? ⟨q, 1, none⟩ = some (.int .i64 1) ∧ W.cell? ⟨q, 2, none⟩ = some (.int .i64 2) ∧ W.cell? ⟨q, 3, none⟩ = some (.int .i64 3) ∧ W.cell? ⟨q, 4, none⟩ = some (.string ⟨#[97]⟩) :=
  ⟨h.2.1.cell 0, h.2.1.cell 1, h.2.1.cell 2, h.2.1.cell 3, h.2.1.cell 4⟩
def AwAdd (b q : Nat) (k : Int) (l' : List Rel) (W : World) (e : Ending) (w' : World) : Prop := e = .returned (.int .i64 k) ∧ AwS b q l' w' ∧ Below b W w'
theorem awAdd (b q : Nat) (l : List Rel) (x y z t : Int) (s : ByteArray) (W : World) (h : AwS b q l W) (hl : l.length ≤ 12) (hs : s.size ≤ maxLen) (k : Int) (hk : addR l (x, y, z, t, s) = k) (l' : List Rel) (hl' : putR l (x, y, z, t, s) = l') :
    Calls Tryd.prog 35 #[.pointer (some ⟨b, 0, none⟩), .agg #[.int .i64 x, .int .i64 y, .int .i64 z, .int .i64 t, .string s]] W (AwAdd b q k l' W) := by
  obtain ⟨⟨cv, h1, h2⟩, h3, h4⟩ := h
  refine (inbAdd b cv l x y z t s W h1 hl hs).mono ?_
  rintro e w' ⟨he, cv', hi, hk2, ho⟩
  subst hk hl'
  refine ⟨he, ⟨⟨cv', hi, ?_⟩, h3.of (hk2.2.1 q h3.lt h4 h2), h4⟩, hk2.1 b (Nat.le_refl _)⟩
  rcases ho with e1 | e1
  · rw [e1]; exact h2
  · intro e2
    have := e1 q e2
    have := h3.lt
    omega
theorem add0 : addR [] xA = 0 := by decide +kernel
theorem put0 : putR [] xA = [xA] := by rw [putR, if_pos add0]; rfl
theorem add1 : addR [xA] xA = 7 := by decide +kernel
theorem put1 : putR [xA] xA = [xA] := by rw [putR, if_neg (by rw [add1]; decide)]
theorem add2 : addR [xA] (-1, 0, 0, 0, ⟨#[]⟩) = 1 := by decide +kernel
theorem put2 : putR [xA] (-1, 0, 0, 0, ⟨#[]⟩) = [xA] := by rw [putR, if_neg (by rw [add2]; decide)]
theorem okA : OkR [xA] := by
  have := OkR.nil.put xA
  rwa [put0] at this
theorem textA : inbL [xA] = [49, 44, 49, 49, 44, 52, 44, 49, 44, 50, 44, 51, 44, 49, 44, 97] := by decide +kernel
theorem readA : readR (printL xA) = (xA, true) := by rw [readR_print, if_pos (by decide +kernel)]
theorem seen4 : seenR 4 [xA] = [] := by decide +kernel
theorem seen5 : seenR 5 [xA] = [xA] := by decide +kernel
theorem has23 : hasR [xA] 2 3 = true := by decide +kernel
theorem has22 : hasR [xA] 2 2 = false := by decide +kernel
end Go.Proofs.YtbbcicengfmhiaaDoor

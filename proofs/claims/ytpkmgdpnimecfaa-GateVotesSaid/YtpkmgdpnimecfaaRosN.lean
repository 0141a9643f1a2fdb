/- RosterNil: of a roster that is none nobody is anywhere. Every input. -/
import Derived.Test.YtpkmgdpnimecfaaFrame
import Derived.Test.YtpkmgdpnimecfaaRos4
namespace Go.Proofs.Ytpkmgdpnimecfaa
open Go.ChangeShapes Go.WideShapes Go.ChangeAt Go.RowKit

section
open Go.Deep Go.Joins
set_option maxRecDepth 100000 in
theorem open_L {H : Type} {enc : TypeId × Value → H} {W : World} {r : Reach} {b0 base : Nat} {spare : Nat → Bool} {held : Bool} {v : Value} {d : DataW H} {p : List MemPlace}
    (hv : Value.okWide Try.prog W r b0 48 v) (h : DataW.Trod enc Try.prog W base spare held 48 v d p) : ∃ (a : Int) (x : Nat), x < 65536 ∧ v = (.agg #[.int .i64 (a), .int .u16 ((x : Nat) : Int)]) := by
  obtain ⟨v0, v1, y0, y1, n, rfl, _, _, h0, h1⟩ := open_agg2 Try.underlying48 (by kernel_rfl) (by kernel_rfl) hv h
  obtain ⟨a, e0, _⟩ := DataW.trod_int Try.underlying3 h0
  obtain ⟨b, e1, _, hw⟩ := DataW.trod_int Try.underlying46 h1
  simp only [List.cons.injEq, and_true] at e0 e1
  subst e0 e1
  have hb : 0 ≤ b ∧ b < 65536 := by
    simp [Lit.wf, IntKind.min, IntKind.max, IntKind.bits, IntKind.signed] at hw
    omega
  obtain ⟨x, rfl⟩ := Int.eq_ofNat_of_zero_le hb.1
  exact ⟨a, x, by omega, rfl⟩
end

/-- a label that was boxed first -/
def BoxAt (w w' : World) (a : Int) (x : Nat) : Prop :=
  Below w.heap.size w w' ∧ w.heap.size < w'.heap.size ∧ w'.cell? ⟨w.heap.size, 0, none⟩ = some (.int .i64 a) ∧ w'.cell? ⟨w.heap.size, 1, none⟩ = some (.int .u16 (x : Int))
theorem BoxAt.next {w w' w2 : World} {a : Int} {x : Nat} (h : BoxAt w w' a x) (hb : Below w'.heap.size w' w2) : BoxAt w w2 a x := by
  obtain ⟨h1, h2, h3, h4⟩ := h
  exact ⟨h1.trans (hb.mono h1.size), Nat.lt_of_lt_of_le h2 hb.size, (hb.cell (p := ⟨w.heap.size, 0, none⟩) h2).trans h3, (hb.cell (p := ⟨w.heap.size, 1, none⟩) h2).trans h4⟩
theorem BoxAt.nextA {w w' w2 : World} {a : Int} {x : Nat} {o : Obj} (h : BoxAt w w' a x) (hb : Below (w'.alloc o).heap.size (w'.alloc o) w2) : BoxAt w w2 a x := (h.next (below1 _ o)).next hb
theorem BoxAt.mk (w : World) (a : Int) (x : Nat) : BoxAt w (w.alloc (.cells #[.int .i64 a, .int .u16 (x : Int)] 48)) a x := ⟨below1 _ _, by simp, by go_simp, by go_simp⟩
theorem rosNil (W : World) : Ros W (.pointer none) [] [] := .inl ⟨rfl, rfl, rfl⟩

set_option maxRecDepth 100000 in
set_option maxHeartbeats 4000000 in
theorem rosterNil_walk (who part : Int) (a : Int) (x : Nat) (hx : x < 65536) (w : World) :
    Calls Try.prog 9 #[.int .i64 who, .int .i64 part, (.agg #[.int .i64 (a), .int .u16 ((x : Nat) : Int)])] w fun e w' => e = .returned (.bool true) ∧ Below w.heap.size w w' := by
  have HA := Lib.hid (BoxAt.mk w a x)
  have k0 : okL [] := fun j hj => absurd hj (by simp)
  have k1 : okP [] := fun j hj => absurd hj (by simp)
  have i0 : ∀ i, inR 0 i = false := fun i => by first | (simp [inR]; done) | (simp [inR]; omega)
  go_enter Try.func9, Try.ntmps9
  go_wp2_with fail
  have q := rosLabel _ _ _ part _ (rosNil (w.alloc (.cells #[.int .i64 a, .int .u16 (x : Int)] 48))) (by decide)
  rw [show labAt [] part = (0, 0) by simp [labAt, i0], show inR ([] : List Lbl).length part = false from i0 _] at q
  refine q.mono ?_
  rintro e w1 ⟨rfl, hb⟩
  have HA := Lib.hid (HA.out.next hb)
  clear hb q
  obtain ⟨_, hz, l0, l1⟩ := id HA.out
  go_wp2_with fail
  have HA := Lib.hid (HA.out.next (below1 _ (.cells #[.int .i64 0, .int .u16 0] 48)))
  generalize w1.alloc (.cells #[.int .i64 0, .int .u16 0] 48) = W at HA ⊢
  clear l0 l1 hz
  refine (awake02 _).mono ?_
  rintro e w2 ⟨rfl, hb⟩
  have HA := Lib.hid (HA.out.next hb)
  clear hb
  obtain ⟨_, hz, l0, l1⟩ := id HA.out
  go_wp2_with fail
  refine (rosParts _ _ _ _ (rosNil _)).mono ?_
  rintro e w' ⟨rfl, rfl⟩
  go_wp2_with fail
  refine (rosPeople _ _ _ _ (rosNil _)).mono ?_
  rintro e w' ⟨rfl, rfl⟩
  go_wp2_with fail
  have q := rosPart _ _ _ who w2 (rosNil _) (by decide)
  rw [show partAt [] who = -1 by simp [partAt, i0]] at q
  refine q.mono ?_
  rintro e w' ⟨rfl, rfl⟩
  clear q
  go_wp2_with fail
  have q := rosSees _ _ _ who part w2 (rosNil _) (by decide) (by decide) k0
  rw [show seesB [] [] who part = false by simp [seesB, i0]] at q
  refine q.mono ?_
  rintro e w' ⟨rfl, hb⟩
  have HA := Lib.hid (HA.out.next hb)
  clear hb q l0 l1 hz
  obtain ⟨_, hz, l0, l1⟩ := id HA.out
  go_wp2_with fail
  have q := rosMay _ _ _ who a x w' (rosNil _) (by decide) (by decide) k0 k1 hx
  rw [show mayB [] [] who a x = false by simp [mayB, i0]] at q
  refine q.mono ?_
  rintro e w' ⟨rfl, hb⟩
  have HA := Lib.hid (HA.out.next hb)
  clear hb q l0 l1 hz
  obtain ⟨_, hz, l0, l1⟩ := id HA.out
  go_wp2_with fail
  have q := rosFind _ _ _ a x w' (rosNil _) (by decide)
  rw [show idxI (fun y : Int × Nat => a == y.1 && x == y.2) [] = -1 from rfl] at q
  refine q.mono ?_
  rintro e w' ⟨rfl, hb⟩
  have HA := Lib.hid (HA.out.next hb)
  clear hb q l0 l1 hz
  obtain ⟨_, hz, l0, l1⟩ := id HA.out
  go_wp2_with fail
  refine (rosBelow _ _ _ a x w' (rosNil _) (by decide) k0 hx).mono ?_
  rintro e w' ⟨v', rfl, hS, hb⟩
  have HA := Lib.hid (HA.out.next hb)
  obtain ⟨p, c, rfl, _⟩ := hS
  clear hb l0 l1 hz
  go_wp2
  go_ret
  exact ⟨rfl, HA.out.1⟩

set_option maxRecDepth 100000 in
theorem rosterNil_lifted (os : Os) (started : os.Started) (H : Type) (enc : TypeId × Value → H) :
    ReturnsInHanded {} Try.checked os 9 .any (Rows.rosterNilSpec.pre6 enc Try.prog Try.f9 Rows.rosterNilRow.domain false) (Rows.rosterNilSpec.post enc Try.prog Try.f9 false true false false) := by
  refine law_lift started Try.func9 (by kernel_rfl) (by kernel_rfl) rfl (by kernel_rfl) ?_
    (ChangeSpec.witness6 (enc := enc) (C := Try.checked) false ⟨#[], #[.int .i64 0, .int .i64 0, (.agg #[.int .i64 (0), .int .u16 ((0 : Nat) : Int)])], []⟩ 8 (by kernel_rfl) (by kernel_rfl) (by kernel_rfl) (by kernel_rfl)) ?_
  · intro ds hd
    rw [Try.params9] at hd
    match ds, hd with
    | [d0, d1, d2], _ => rfl
  · intro W base args ds ps hval hA
    rw [Try.params9] at hA hval
    obtain ⟨v0, vs0, d0, ds0, p0, q0, hargs, rfl, rfl, h0, r0⟩ := trodAll_cons hA
    obtain ⟨v1, vs1, d1, ds1, p1, q1, rfl, rfl, rfl, h1, r1⟩ := trodAll_cons r0
    obtain ⟨v2, vs2, d2, ds2, p2, q2, rfl, rfl, rfl, h2, r2⟩ := trodAll_cons r1
    obtain ⟨rfl, rfl, rfl⟩ := trodAll_nil r2
    obtain rfl : args = #[v0, v1, v2] := by cases args; simp_all
    obtain ⟨a0, rfl, _, _, w0⟩ := open_int Try.underlying3 (hval 0 3 v0 rfl rfl) h0
    obtain ⟨a1, rfl, _, _, w1⟩ := open_int Try.underlying3 (hval 1 3 v1 rfl rfl) h1
    obtain ⟨a, x, hx, rfl⟩ := open_L (hval 2 48 v2 rfl rfl) h2
    exact rosterNil_walk _ _ _ _ hx _

theorem rosterNil_holds : Rows.RosterNilSaid :=
  OpenClaim.holds_of_wide 9 Try.f9 rfl rfl rfl rfl rfl rfl rfl ⟨rfl, rfl, rfl, rfl, rfl⟩ rfl rfl rfl rfl rfl (by kernel_rfl) Try.func9 (by kernel_rfl)
    (of_decide_eq_true (by kernel_rfl)) (by unfold Func.isWrapper; first | (rw [if_pos (by decide +kernel)]; kernel_rfl) | (rw [if_neg (by decide +kernel)]; exact ⟨rfl, rfl⟩))
    (fun os started H enc _ => rosterNil_lifted os started H enc)
end Go.Proofs.Ytpkmgdpnimecfaa

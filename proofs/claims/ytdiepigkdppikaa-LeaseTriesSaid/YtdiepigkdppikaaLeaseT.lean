/- LeaseTries: missed again and again a try fails just when it was missed more often than it may be tried again. Every input. -/
import Derived.Test.YtdiepigkdppikaaFrame
import Derived.Test.YtdiepigkdppikaaLease3
namespace Go.Proofs.Ytdiepigkdppikaa
open Go.ChangeShapes Go.WideShapes Go.ChangeAt Go.RowKit

def RowT (w : World) (b : Nat) (s si m k l u : Int) : Prop :=
  (w.cell? ⟨b, 0, none⟩ = some (.int .i64 s) ∧ w.cell? ⟨b, 1, none⟩ = some (.int .i64 si) ∧ w.cell? ⟨b, 2, none⟩ = some (.int .i64 m) ∧ w.cell? ⟨b, 3, none⟩ = some (.int .i64 k) ∧ w.cell? ⟨b, 4, none⟩ = some (.int .i64 l) ∧ w.cell? ⟨b, 5, none⟩ = some (.int .i64 u)) ∧
  (w.frozen? ⟨b, 0, none⟩ = false ∧ w.frozen? ⟨b, 1, none⟩ = false ∧ w.frozen? ⟨b, 2, none⟩ = false ∧ w.frozen? ⟨b, 3, none⟩ = false ∧ w.frozen? ⟨b, 4, none⟩ = false ∧ w.frozen? ⟨b, 5, none⟩ = false)

def TryAt (R k : Nat) (w : World) (b : Nat) : Prop :=
  (k ≤ R ∧ ∃ si : Int, 0 ≤ si ∧ si ≤ 1000 + 10 * k ∧ RowT w b 1 si k 0 0 0) ∨ (k = R + 1 ∧ RowT w b 4 0 (R + 1) 0 0 0)

set_option maxRecDepth 100000 in
set_option maxHeartbeats 2000000 in
theorem leaseTries_walk (a0 a1 : Int) (w : World) :
    Calls Try.prog 5 #[.int .i64 a0, .int .i64 a1] w fun e w' => e = .returned (.bool true) ∧ Below w.heap.size w w' := by
  obtain ⟨r, ⟨r0, r1⟩, e0⟩ := umod a0 6 (by omega)
  obtain ⟨n, ⟨n0, n1⟩, e1⟩ := umod a1 1000 (by omega)
  obtain ⟨R, rfl⟩ := Int.eq_ofNat_of_zero_le r0
  have eqT := run_eqT
  go_enter Try.func5, Try.ntmps5
  go_wp2_with fail
  clear e0 e1
  refine (open_0 0 0 0 0 0 n _).mono ?_
  rintro e w1 ⟨rfl, hb1⟩
  have hz1 := hb1.size
  go_wp2_with fail
  go_loopw [22] (fun i wr => ∃ k : Nat, k ≤ R + 1 ∧ i = .int .i64 k ∧ Below w.heap.size w wr ∧ w1.heap.size < wr.heap.size ∧ TryAt R k wr w1.heap.size) (fun i _ => (R + 1) - (intOf i).toNat)
  case atStart =>
    refine ⟨0, by omega, rfl, hb1.alloc hz1 _, by simp, .inl ⟨by omega, n, n0, by omega, ?_⟩⟩
    unfold RowT
    go_simp
  case round =>
    obtain ⟨k, hk, rfl, hB, hS, hT⟩ := hrel
    rcases hT with ⟨hkR, si, s0, s1, hrow⟩ | ⟨rfl, hrow⟩
    · have HR := Lib.hid hrow
      obtain ⟨⟨c0, c1, c2, c3, c4, c5⟩, ⟨d0, d1, d2, d3, d4, d5⟩⟩ := hrow
      by_cases hlast : k = R
      · subst hlast
        go_wp2_with fail
        refine (take_ok si k 0 0 0 si 1 k 3 (by omega) _ (by omega) (by omega) (by omega) (by omega)).mono ?_
        rintro e w2 ⟨rfl, hb2⟩
        obtain ⟨hc2, hf2⟩ := bcell hb2
        have hz2 := hb2.size
        have hz2' : w1.heap.size < w2.heap.size := by omega
        go_wp2_with fail
        refine (awake11 _).mono ?_
        rintro e w3 ⟨rfl, hb3⟩
        obtain ⟨hc3, hf3⟩ := bcell hb3
        have hz3 := sizeA hb3
        have hz3' : w1.heap.size < w3.heap.size := by omega
        go_wp2_with fail
        with_reducible refine (settle_fail 0 k 1 k (si + 3) (si + 3) k (by omega) (by omega) (by omega) (by omega) _).mono ?_
        rintro e w4 ⟨rfl, hb4⟩
        obtain ⟨hc4, hf4⟩ := bcell hb4
        have hz4 := hb4.size
        have hz4' : w1.heap.size < w4.heap.size := by omega
        have hz4'' : w2.heap.size < w4.heap.size := by omega
        have hne : w1.heap.size ≠ w2.heap.size := by omega
        have hrow4 : RowT w4 w1.heap.size 1 si k 0 0 0 := by unfold RowT; go_simp
        have hu4 : w4.cell? ⟨w2.heap.size, 5, none⟩ = some (.int .i64 (si + 3)) := by go_simp
        have HB := Lib.hid (below_set6 (p := w1.heap.size) ((belowA (hB.trans (hb2.mono hB.size)) (by have := hB.size; omega) hb3).trans (hb4.mono (by have := hB.size; omega))) hz1)
        have HR4 := Lib.hid hrow4
        clear c0 c1 c2 c3 c4 c5 d0 d1 d2 d3 d4 d5 hc2 hf2 hc3 hf3 hc4 hf4 hb2 hb3 hb4 hB hz2 hz3 hz4 HR hz2' hz3'
        obtain ⟨⟨c0, c1, c2, c3, c4, c5⟩, ⟨d0, d1, d2, d3, d4, d5⟩⟩ := hrow4
        go_wp2_with fail
        go_roundw
        case rel =>
          refine ⟨k + 1, by omega, by go_num, ?_, ?_, ?_⟩
          · exact HB.out _ _ _ _ _ _
          · simpa [World.setCell] using hz4'
          · refine .inr ⟨rfl, ?_⟩
            unfold RowT
            go_simp
        case measure => simp [intOf] <;> omega
      · have hkR' : k < R := by omega
        have hkb : ((k : Int) == (R : Int)) = false := by simp; omega
        have hkb2 : (k == R) = false := by simp; omega
        go_wp2_with fail
        refine (take_ok si k 0 0 0 si 1 k 3 (by omega) _ (by omega) (by omega) (by omega) (by omega)).mono ?_
        rintro e w2 ⟨rfl, hb2⟩
        obtain ⟨hc2, hf2⟩ := bcell hb2
        have hz2 := hb2.size
        have hz2' : w1.heap.size < w2.heap.size := by omega
        go_wp2_with fail
        refine (awake11 _).mono ?_
        rintro e w3 ⟨rfl, hb3⟩
        obtain ⟨hc3, hf3⟩ := bcell hb3
        have hz3 := sizeA hb3
        have hz3' : w1.heap.size < w3.heap.size := by omega
        go_wp2_with fail
        with_reducible refine (settle_ready 0 k 1 k (si + 3) (si + 3) R (by omega) (by omega) (by omega) (by omega) (by omega) (by omega) _).mono ?_
        rintro e w4 ⟨rfl, hb4⟩
        obtain ⟨hc4, hf4⟩ := bcell hb4
        have hz4 := hb4.size
        have hz4' : w1.heap.size < w4.heap.size := by omega
        have hz4'' : w2.heap.size < w4.heap.size := by omega
        have hne : w1.heap.size ≠ w2.heap.size := by omega
        have hrow4 : RowT w4 w1.heap.size 1 si k 0 0 0 := by unfold RowT; go_simp
        have hu4 : w4.cell? ⟨w2.heap.size, 5, none⟩ = some (.int .i64 (si + 3)) := by go_simp
        have HB := Lib.hid (below_set6 (p := w1.heap.size) ((belowA (hB.trans (hb2.mono hB.size)) (by have := hB.size; omega) hb3).trans (hb4.mono (by have := hB.size; omega))) hz1)
        have HR4 := Lib.hid hrow4
        clear c0 c1 c2 c3 c4 c5 d0 d1 d2 d3 d4 d5 hc2 hf2 hc3 hf3 hc4 hf4 hb2 hb3 hb4 hB hz2 hz3 hz4 HR hz2' hz3'
        obtain ⟨⟨c0, c1, c2, c3, c4, c5⟩, ⟨d0, d1, d2, d3, d4, d5⟩⟩ := hrow4
        go_wp2_with fail
        go_roundw
        case rel =>
          refine ⟨k + 1, by omega, by go_num, ?_, ?_, ?_⟩
          · exact HB.out _ _ _ _ _ _
          · simpa [World.setCell] using hz4'
          · refine .inl ⟨by omega, si + 3 + (k + 1), by omega, by omega, ?_⟩
            unfold RowT
            go_simp
        case measure => simp [intOf] <;> omega
    · obtain ⟨⟨c0, c1, c2, c3, c4, c5⟩, ⟨d0, d1, d2, d3, d4, d5⟩⟩ := hrow
      go_wp2_with fail
      clear d0 d1 d2 d3 d4 d5
      go_region_held3 (fun w' => (∀ b o, b < (wr).heap.size → w'.cell? ⟨b, o, none⟩ = (wr).cell? ⟨b, o, none⟩) ∧ Below (wr).heap.size (wr) w') (first | exact stay0 _ | exact stay ‹_› ‹_›)
        (first
          | (go_at_call 22; (with_reducible refine (settle_not 4 0 (R + 1) 0 0 0 1073741824 R (by decide) _).mono ?_); rintro e w' ⟨rfl, hb⟩))
      go_wp2
      go_ret
      exact ⟨by simp, stayEnd hB hB.size ‹_›⟩

set_option maxRecDepth 100000 in
theorem leaseTries_lifted (os : Os) (started : os.Started) (H : Type) (enc : TypeId × Value → H) :
    ReturnsInHanded {} Try.checked os 5 .any (Rows.leaseTriesSpec.pre6 enc Try.prog Try.f5 Rows.leaseTriesRow.domain false) (Rows.leaseTriesSpec.post enc Try.prog Try.f5 false true false false) := by
  refine law_lift started Try.func5 (by kernel_rfl) (by kernel_rfl) rfl (by kernel_rfl) ?_
    (ChangeSpec.witness6 (enc := enc) (C := Try.checked) false ⟨#[], #[.int .i64 0, .int .i64 0], []⟩ 8 (by kernel_rfl) (by kernel_rfl) (by kernel_rfl) (by kernel_rfl)) ?_
  · intro ds hd
    rw [Try.params5] at hd
    match ds, hd with
    | [d0, d1], _ => rfl
  · intro W base args ds ps hval hA
    rw [Try.params5] at hA hval
    obtain ⟨v0, v1, d0, d1, p0, p1, hargs, rfl, rfl, h0, h1⟩ := trodAll_two hA
    subst hargs
    obtain ⟨a0, rfl, _, _, w0⟩ := open_int Try.underlying3 (hval 0 3 v0 rfl rfl) h0
    obtain ⟨a1, rfl, _, _, w1⟩ := open_int Try.underlying3 (hval 1 3 v1 rfl rfl) h1
    exact leaseTries_walk _ _ _

theorem leaseTries_holds : Rows.LeaseTriesSaid :=
  OpenClaim.holds_of_wide 5 Try.f5 rfl rfl rfl rfl rfl rfl rfl ⟨rfl, rfl, rfl, rfl, rfl⟩ rfl rfl rfl rfl rfl (by kernel_rfl) Try.func5 (by kernel_rfl)
    (of_decide_eq_true (by kernel_rfl)) (by unfold Func.isWrapper; first | (rw [if_pos (by decide +kernel)]; kernel_rfl) | (rw [if_neg (by decide +kernel)]; exact ⟨rfl, rfl⟩))
    (fun os started H enc _ => leaseTries_lifted os started H enc)
end Go.Proofs.Ytdiepigkdppikaa

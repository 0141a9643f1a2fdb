/- What the document's functions of layer 2 give back. Conditions: sets of 16 bits; lists of no more than 1000; where it indexes: each principal's partition is there. -/
import Derived.Test.YtbbcicengfmhiaaDoorRos4
namespace Go.Proofs.YtbbcicengfmhiaaDoor
set_option maxRecDepth 100000
open Go.RowKit

theorem run_eqL' (a a' : Int) (x x' : Nat) (w : World) : (binOp .eql 41 (.agg #[.int .i64 (a'), .int .u16 ((x' : Nat) : Int)]) (.agg #[.int .i64 (a), .int .u16 ((x : Nat) : Int)])).run Tryd.prog w = .ok (.bool (a == a' && x == x')) w := by
  have h1 : (a' == a) = (a == a') := by
    cases h : (a == a')
    · simp at h; simp; exact fun e => h e.symm
    · simp at h; simp [h]
  have h2 : (x' == x) = (x == x') := by
    cases h : (x == x')
    · simp at h; simp; exact fun e => h e.symm
    · simp at h; simp [h]
  rw [run_eqL, h1, h2]

set_option maxRecDepth 100000 in
set_option maxHeartbeats 4000000 in
theorem refMay (vl vp : Value) (ls : List Lbl) (ps : List Psn) (who : Int) (a : Int) (x : Nat) (w : World) (hL : SlAt 2 encL w vl ls) (hP : SlAt 3 encP w vp ps) (hbl : ls.length ≤ 1000) (hbp : ps.length ≤ 1000) (ho : okL ls) (hop : okP ps) (hx : x < 65536)
    (hin : ∀ k, k < ps.length → inR ls.length ps[k]!.1 = true) :
    Calls Tryd.prog 78 #[vl, vp, .int .i64 who, (.agg #[.int .i64 (a), .int .u16 ((x : Nat) : Int)])] w fun e w' => e = .returned (.bool (mayB ls ps who a x)) ∧ Below w.heap.size w w' := by
  obtain ⟨pl, cl, rfl, _, kl⟩ := hL
  obtain ⟨pp, cp, rfl, _, kp⟩ := hP
  have HB0 := Lib.hid (below1 w (.cells #[.int .i64 a, .int .u16 (x : Int)] 41))
  cases h1 : inR ps.length who with
  | false =>
    have hs : mayB ls ps who a x = false := by
      rw [mayB, h1]; simp
    rw [hs]
    clear hs kl kp hin ho hop
    generalize ls.length = n at hbl
    simp only [inR] at h1
    generalize ps.length = m at h1 hbp
    cases t1 : decide (0 ≤ who) with
    | false =>
      cases t4 : decide (who < (m : Int)) <;>
      (go_enter Tryd.func78, Tryd.ntmps78
       go_wp2_with fail
       generalize w.alloc (.cells #[.int .i64 a, .int .u16 (x : Int)] 41) = W at HB0 ⊢
       go_quiet (fail)
       go_wp2
       go_ret
       exact ⟨rfl, belowN HB0.out _⟩)
    | true =>
      rw [t1, Bool.true_and] at h1
      go_enter Tryd.func78, Tryd.ntmps78
      go_wp2_with fail
      generalize w.alloc (.cells #[.int .i64 a, .int .u16 (x : Int)] 41) = W at HB0 ⊢
      go_quiet (fail)
      go_wp2
      go_ret
      exact ⟨rfl, belowN HB0.out _⟩
  | true =>
    obtain ⟨k, rfl, hk⟩ := inR_mk h1
    have hq := hin k hk
    obtain ⟨bp, op, rfl, hbp1, hcp⟩ := kp (by omega)
    have c0 : w.cell? ⟨bp, op + k * 3, none⟩ = some (.int .i64 ps[k]!.1) := hcp k hk 0 _ rfl
    have c1 : w.cell? ⟨bp, op + k * 3 + 1, none⟩ = some (.int .i64 ps[k]!.2.1) := hcp k hk 1 _ rfl
    have c2 : w.cell? ⟨bp, op + k * 3 + 2, none⟩ = some (.int .u16 (ps[k]!.2.2 : Int)) := hcp k hk 2 _ rfl
    have kP := Lib.hid (hop k hk)
    have kO := Lib.hid (labAt_ok ho ps[k]!.1)
    obtain ⟨m1, e1, hm1⟩ := inR_mk hq
    obtain ⟨bl, ol, rfl, hbl1, hcl⟩ := kl (by omega)
    have d0 : w.cell? ⟨bl, ol + m1 * 2, none⟩ = some (.int .i64 ls[m1]!.1) := hcl m1 hm1 0 _ rfl
    have d1 : w.cell? ⟨bl, ol + m1 * 2 + 1, none⟩ = some (.int .u16 (ls[m1]!.2 : Int)) := hcl m1 hm1 1 _ rfl
    have hlab : labAt ls ps[k]!.1 = ls[m1]! := by unfold labAt; rw [hq, e1]; simp
    rw [hlab] at kO
    have hs : mayB ls ps k a x = leqB (offLv ls[m1]!.1 a) (mNot ls[m1]!.2 x) ps[k]!.2.1 ps[k]!.2.2 := by
      have hpa : partAt ps k = ps[k]!.1 := by unfold partAt; rw [h1]; rfl
      rw [mayB, hpa, hq, h1, hlab]
      simp
    rw [hs]
    rw [e1] at c0
    have hkz : (k : Int) < (ps.length : Int) := by omega
    have hm1z : (m1 : Int) < (ls.length : Int) := by omega
    clear hs hin ho hcp hcl hq e1 hlab h1 hop
    generalize ls[m1]!.1 = a1 at d0 kO ⊢
    generalize ls[m1]!.2 = a2 at d1 kO ⊢
    generalize ps[k]!.2.1 = p1 at c1 kP ⊢
    generalize ps[k]!.2.2 = p2 at c2 kP ⊢
    generalize ps.length = m at hk hkz hbp
    generalize ls.length = n at hm1 hm1z hbl
    have h3 := fun W => ref01Off a1 a a2 x kO.out hx W
    have h4 := fun W => ref01Leq (offLv a1 a) p1 (mNot a2 x) p2 (mNot_lt kO.out) kP.out W
    generalize offLv a1 a = o1 at h3 h4 ⊢
    generalize mNot a2 x = o2 at h3 h4 ⊢
    have H3 := Lib.hid h3
    have H4 := Lib.hid h4
    clear h3 h4
    have g0 : (w.alloc (.cells #[.int .i64 a, .int .u16 (x : Int)] 41)).cell? ⟨w.heap.size, 0, none⟩ = some (.int .i64 a) := by go_simp
    have g1 : (w.alloc (.cells #[.int .i64 a, .int .u16 (x : Int)] 41)).cell? ⟨w.heap.size, 1, none⟩ = some (.int .u16 (x : Int)) := by go_simp
    have hz : w.heap.size < (w.alloc (.cells #[.int .i64 a, .int .u16 (x : Int)] 41)).heap.size := by simp
    have c0' := (HB0.out.cell (p := ⟨bp, op + k * 3, none⟩) hbp1).trans c0
    have c1' := (HB0.out.cell (p := ⟨bp, op + k * 3 + 1, none⟩) hbp1).trans c1
    have c2' := (HB0.out.cell (p := ⟨bp, op + k * 3 + 2, none⟩) hbp1).trans c2
    have d0' := (HB0.out.cell (p := ⟨bl, ol + m1 * 2, none⟩) hbl1).trans d0
    have d1' := (HB0.out.cell (p := ⟨bl, ol + m1 * 2 + 1, none⟩) hbl1).trans d1
    clear c0 c1 c2 d0 d1
    go_enter Tryd.func78, Tryd.ntmps78
    go_wp2_with fail
    generalize w.alloc (.cells #[.int .i64 a, .int .u16 (x : Int)] 41) = W at HB0 g0 g1 hz c0' c1' c2' d0' d1' ⊢
    have hz1 : bp < W.heap.size := by omega
    have hz2 : bl < W.heap.size := by omega
    go_region_held3 (fun w' => (∀ b o, b < (W).heap.size → w'.cell? ⟨b, o, none⟩ = (W).cell? ⟨b, o, none⟩) ∧ Below (W).heap.size (W) w') (first | exact stay0 _ | exact stay ‹_› ‹_›)
      (first
        | (go_at_call 18; (with_reducible refine (H3.out _).mono ?_); rintro e w' ⟨rfl, hb⟩)
        | (go_at_call 16; (with_reducible refine (H4.out _).mono ?_); rintro e w' ⟨rfl, hb⟩))
    go_wp2
    go_ret
    exact ⟨rfl, stayEnd HB0.out HB0.out.size ‹_›⟩
end Go.Proofs.YtbbcicengfmhiaaDoor

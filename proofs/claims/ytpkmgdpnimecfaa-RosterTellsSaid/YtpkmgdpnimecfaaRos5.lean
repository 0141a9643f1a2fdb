/- What the document's functions of layer 2 give back. Conditions: sets of 16 bits; lists of no more than 1000; where it indexes: each principal's partition is there. -/
import Derived.Test.YtpkmgdpnimecfaaRos4
namespace Go.Proofs.Ytpkmgdpnimecfaa
open Go.RowKit

theorem run_eqL' (a a' : Int) (x x' : Nat) (w : World) : (binOp .eql 48 (.agg #[.int .i64 (a'), .int .u16 ((x' : Nat) : Int)]) (.agg #[.int .i64 (a), .int .u16 ((x : Nat) : Int)])).run Try.prog w = .ok (.bool (a == a' && x == x')) w := by
  have h1 : (a' == a) = (a == a') := by
    cases h : (a == a')
    · simp at h; simp; exact fun e => h e.symm
    · simp at h; simp [h]
  have h2 : (x' == x) = (x == x') := by
    cases h : (x == x')
    · simp at h; simp; exact fun e => h e.symm
    · simp at h; simp [h]
  rw [run_eqL, h1, h2]

set_option maxHeartbeats 2000000 in
theorem refFind (v : Value) (ls : List Lbl) (a : Int) (x : Nat) (w : World) (hS : SlAt 2 encL w v ls) (hbig : ls.length ≤ 1000) :
    Calls Try.prog 39 #[v, (.agg #[.int .i64 (a), .int .u16 ((x : Nat) : Int)])] w fun e w' => e = .returned (.int .i64 (idxI (fun y => a == y.1 && x == y.2) ls)) ∧ Below w.heap.size w w' := by
  obtain ⟨pp, c, rfl, hn, hcell⟩ := hS
  have HC := Lib.hid hcell
  clear hn hcell
  generalize hlen : ls.length = n at hbig
  have HL := Lib.hid hlen
  clear hlen
  have hgu := eqGuardL
  go_enter Try.func39, Try.ntmps39
  go_wp2
  go_loopw [5] (fun i wr => ∃ j : Nat, j ≤ n ∧ i = .int .i64 j ∧ Below w.heap.size w wr ∧ w.heap.size < wr.heap.size ∧ (wr.cell? ⟨w.heap.size, 0, none⟩ = some (.int .i64 a) ∧ wr.cell? ⟨w.heap.size, 1, none⟩ = some (.int .u16 (x : Int))) ∧ ∀ k, k < j → (a == ls[k]!.1 && x == ls[k]!.2) = false) (fun i _ => n - (intOf i).toNat)
  case atStart => exact ⟨0, by omega, rfl, below1 _ _, by simp, ⟨by go_simp, by go_simp⟩, fun k hk => absurd hk (by omega)⟩
  case round =>
    obtain ⟨j, hj, rfl, hB, hsz, ⟨d0, d1⟩, hall⟩ := hrel
    have HB := Lib.hid hB
    have HA := Lib.hid hall
    clear hB hall
    by_cases hlt : j < n
    · obtain ⟨b, off, rfl, hb, hc⟩ := HC.out (by have := HL.out; omega)
      have hc0 := (HB.out.cell (p := ⟨b, off + j * 2, none⟩) hb).trans (hc j (by have := HL.out; omega) 0 _ rfl)
      have hc1 := (HB.out.cell (p := ⟨b, off + j * 2 + 1, none⟩) hb).trans (hc j (by have := HL.out; omega) 1 _ rfl)
      clear hc
      have hltz : (j : Int) < (n : Int) := by omega
      have hsym := fun W => run_eqL' a ls[j]!.1 x ls[j]!.2 W
      cases hq : (a == ls[j]!.1 && x == ls[j]!.2)
      · have HQ := Lib.hid hq
        rw [hq] at hsym
        clear hq
        generalize ls[j]!.1 = x1 at hc0 hc1 hsym
        generalize ls[j]!.2 = x2 at hc0 hc1 hsym
        go_wp2_with fail
        go_quiet (fail)
        go_wp2
        go_roundw
        case rel =>
          have hq' : ∀ k, k < j + 1 → (a == ls[k]!.1 && x == ls[k]!.2) = false := fun k hk => by
            by_cases e : k = j
            · subst e; exact HQ.out
            · exact HA.out k (by omega)
          first | exact ⟨j + 1, by omega, by go_num, belowN HB.out _, hsz, ⟨d0, d1⟩, hq'⟩ | ((repeat apply Exists.intro); exact ⟨⟨j + 1, by omega, by go_num, belowN HB.out _, hsz, ⟨d0, d1⟩, hq'⟩, rfl⟩)
        case measure => simp [intOf] <;> omega
      · have HQ := Lib.hid hq
        rw [hq] at hsym
        clear hq
        have hres := idxI_hit (p := fun y : Int × Nat => a == y.1 && x == y.2) (by have := HL.out; omega) HQ.out HA.out
        generalize ls[j]!.1 = x1 at hc0 hc1 hsym
        generalize ls[j]!.2 = x2 at hc0 hc1 hsym
        go_wp2_with fail
        go_quiet (fail)
        go_wp2
        go_ret
        exact ⟨by rw [hres]; rfl, belowN HB.out _⟩
    · obtain rfl : j = n := by omega
      have hres := idxI_miss (p := fun y : Int × Nat => a == y.1 && x == y.2) (xs := ls) (by have := HL.out; have := HA.out; subst j; exact HA.out)
      go_wp2
      go_ret
      exact ⟨by rw [hres]; rfl, HB.out⟩

set_option maxRecDepth 100000 in
set_option maxHeartbeats 2000000 in
theorem refBelow (vl : Value) (ls : List Lbl) (a : Int) (x : Nat) (w : World) (hS : SlAt 2 encL w vl ls) (hbl : ls.length ≤ 1000) (ho : okL ls) (hx : x < 65536) :
    Calls Try.prog 42 #[vl, (.agg #[.int .i64 (a), .int .u16 ((x : Nat) : Int)])] w fun e w' => ∃ v', e = .returned v' ∧ SlAt 1 encI w' v' (belL ls a x ls.length) ∧ Below w.heap.size w w' := by
  obtain ⟨i0, hi, hq0, hq1, hq2⟩ := info_int
  obtain ⟨pp, c, rfl, hnn, hcell⟩ := hS
  have HC := Lib.hid hcell
  have HO := Lib.hid ho
  have HX := Lib.hid hx
  clear ho hx hcell hnn
  generalize hn : ls.length = n at hbl ⊢
  have HN := Lib.hid hn
  clear hn
  go_enter Try.func42, Try.ntmps42
  go_wp2_with fail
  have hb0 := below1 w (.cells #[.int .i64 a, .int .u16 (x : Int)] 48)
  have g0 : (w.alloc (.cells #[.int .i64 a, .int .u16 (x : Int)] 48)).cell? ⟨w.heap.size, 0, none⟩ = some (.int .i64 a) := by go_simp
  have g1 : (w.alloc (.cells #[.int .i64 a, .int .u16 (x : Int)] 48)).cell? ⟨w.heap.size, 1, none⟩ = some (.int .u16 (x : Int)) := by go_simp
  have hz : w.heap.size < (w.alloc (.cells #[.int .i64 a, .int .u16 (x : Int)] 48)).heap.size := by simp
  generalize w.alloc (.cells #[.int .i64 a, .int .u16 (x : Int)] 48) = W0 at hb0 g0 g1 hz ⊢
  have HB0 := Lib.hid hb0
  clear hb0
  go_loopw [5, 6] (fun v4 i wr => ∃ j : Nat, j ≤ n ∧ i = .int .i64 j ∧ Below W0.heap.size W0 wr ∧ wr.ownsRow W0.heap.size 3 1 v4 (belL ls a x j).length (flat encI (belL ls a x j))) (fun _ i _ => n - (intOf i).toNat)
  case atStart => exact ⟨0, by omega, rfl, Below.refl _ _, by simp [belL, flat], .inl ⟨rfl, rfl⟩⟩
  case round =>
    obtain ⟨j, hj, rfl, hB, hown⟩ := hrel
    have HB := Lib.hid hB
    by_cases hlt : j < n
    · have hltz : (j : Int) < (n : Int) := by omega
      obtain ⟨bk, off, rfl, hb, hcell⟩ := HC.out (by have := HN.out; omega)
      have hB' := HB0.out.trans (hB.mono HB0.out.size)
      have hzz := hB.size
      have c0 := (hB'.cell (p := ⟨bk, off + j * 2, none⟩) hb).trans (hcell j (by have := HN.out; omega) 0 _ rfl)
      have c1 := (hB'.cell (p := ⟨bk, off + j * 2 + 1, none⟩) hb).trans (hcell j (by have := HN.out; omega) 1 _ rfl)
      have g0' := (hB.cell (p := ⟨w.heap.size, 0, none⟩) hz).trans g0
      have g1' := (hB.cell (p := ⟨w.heap.size, 1, none⟩) hz).trans g1
      have hq := Lib.hid (HO.out j (by have := HN.out; omega))
      have HE := Lib.hid (show belL ls a x (j + 1) = belL ls a x j ++ (if leqB ls[j]!.1 ls[j]!.2 a x = true then [(j : Int)] else []) from rfl)
      have hz2 : bk < wr.heap.size := by have := HB0.out.size; omega
      have hz3 : w.heap.size < wr.heap.size := by omega
      have HOW := Lib.hid hown
      have HL := Lib.hid (belL_len ls a x j)
      clear hcell hb hB hB' hown
      generalize ls[j]!.1 = l1 at c0 HE
      generalize ls[j]!.2 = l2 at c1 hq HE
      have h3 := fun W => ref01Leq l1 a l2 x hq.out HX.out W
      cases hres : leqB l1 l2 a x with
      | false =>
        rw [hres] at h3
        have H3 := Lib.hid h3
        clear h3
        go_wp2_with fail
        go_region_held3 (fun w' => (∀ b o, b < (wr).heap.size → w'.cell? ⟨b, o, none⟩ = (wr).cell? ⟨b, o, none⟩) ∧ Below (wr).heap.size (wr) w') (first | exact stay0 _ | exact stay ‹_› ‹_›)
          (first | (go_at_call 43; (with_reducible refine (H3.out _).mono ?_); rintro e w' ⟨rfl, hb⟩))
        have HH := Lib.hid (fun (w5 : World) (h5 : (∀ b o, b < wr.heap.size → w5.cell? ⟨b, o, none⟩ = wr.cell? ⟨b, o, none⟩) ∧ Below wr.heap.size wr w5) => And.intro (HB.out.trans (h5.2.mono hzz)) (owns_below HOW.out h5.2))
        have HR := Lib.hid hres
        clear hres
        go_wp2
        go_roundw
        case rel =>
          have h5 := HH.out _ ‹_›
          have he : belL ls a x (j + 1) = belL ls a x j := by rw [HE.out, HR.out]; simp
          first | exact ⟨j + 1, by omega, by go_num, h5.1, by rw [he]; exact h5.2⟩ | ((repeat apply Exists.intro); exact ⟨⟨j + 1, by omega, by go_num, h5.1, by rw [he]; exact h5.2⟩, rfl⟩)
        case measure => simp [intOf] <;> omega
      | true =>
        rw [hres] at h3
        have H3 := Lib.hid h3
        clear h3
        go_wp2_with fail
        go_region_held3 (fun w' => (∀ b o, b < (wr).heap.size → w'.cell? ⟨b, o, none⟩ = (wr).cell? ⟨b, o, none⟩) ∧ Below (wr).heap.size (wr) w') (first | exact stay0 _ | exact stay ‹_› ‹_›)
          (first | (go_at_call 43; (with_reducible refine (H3.out _).mono ?_); rintro e w' ⟨rfl, hb⟩))
        have HH := Lib.hid (fun (w5 : World) (h5 : (∀ b o, b < wr.heap.size → w5.cell? ⟨b, o, none⟩ = wr.cell? ⟨b, o, none⟩) ∧ Below wr.heap.size wr w5) => And.intro (HB.out.trans (h5.2.mono hzz)) (owns_below HOW.out h5.2))
        have HR := Lib.hid hres
        clear hres
        have h5 := HH.out _ ‹_›
        obtain ⟨h51, h52⟩ := h5
        have H51 := Lib.hid h51
        clear h51
        have H52 := Lib.hid h52
        clear h52
        go_wp2_with (at_builtin; refine wpList_append_own _ rfl _ _ 64 rfl W0.heap.size 3 i0 (.int .i64 0) 1 8 Try.underlying64 hi hq0 hq1 hq2 rfl (by decide) _ _ _ rfl (owns_below H52.out (below1 _ _)) _ 1 1 [.int .i64 (j : Int)] rfl ?qc1 ?qc2 ?qc3 ?qc4 ?qc5 ?qc6 ?_)
        case qc1 => rfl
        case qc2 =>
          rintro jj u hj
          match jj, hj with
          | 0, hj => simp at hj; subst hj; go_simp
        case qc3 => simp [Value.oneCell']
        case qc4 => have := HL.out; unfold maxLen; omega
        case qc5 => have := HL.out; omega
        case qc6 => have := H51.out.size; simp; omega
        intro v' w7 hown7 hgrow hnil
        have HB7 := Lib.hid ((H51.out.alloc H51.out.size (.cells #[.int .i64 (j : Int)] 3)).grown hgrow (by have := H51.out.size; simp; omega) (owns_block H52.out))
        have HO7 := Lib.hid hown7
        clear hown7 hgrow hnil
        go_wp2
        go_roundw
        case rel =>
          have he : belL ls a x (j + 1) = belL ls a x j ++ [(j : Int)] := by rw [HE.out, HR.out]; simp
          have ho7 : w7.ownsRow W0.heap.size 3 1 v' (belL ls a x (j + 1)).length (flat encI (belL ls a x (j + 1))) := by
            have := HO7.out
            rw [he, List.length_append]
            simpa [flat, encI] using this
          first | exact ⟨j + 1, by omega, by go_num, HB7.out, ho7⟩ | ((repeat apply Exists.intro); exact ⟨⟨j + 1, by omega, by go_num, HB7.out, ho7⟩, rfl⟩) | trace_state
        case measure => simp [intOf] <;> omega
    · obtain rfl : j = n := by omega
      go_wp2
      go_ret
      exact ⟨_, rfl, SlAt.of_owns (enc := encI) (fun _ => rfl) hown, HB0.out.trans (hB.mono HB0.out.size)⟩

set_option maxRecDepth 100000 in
set_option maxHeartbeats 4000000 in
theorem refSees (vl vp : Value) (ls : List Lbl) (ps : List Psn) (who part : Int) (w : World) (hL : SlAt 2 encL w vl ls) (hP : SlAt 3 encP w vp ps) (hbl : ls.length ≤ 1000) (hbp : ps.length ≤ 1000) (ho : okL ls)
    (hin : ∀ k, k < ps.length → inR ls.length ps[k]!.1 = true) :
    Calls Try.prog 35 #[vl, vp, .int .i64 who, .int .i64 part] w fun e w' => e = .returned (.bool (seesB ls ps who part)) ∧ Below w.heap.size w w' := by
  obtain ⟨pl, cl, rfl, _, kl⟩ := hL
  obtain ⟨pp, cp, rfl, _, kp⟩ := hP
  have HB0 := Below.refl w.heap.size w
  cases h1 : inR ps.length who with
  | false =>
    have hs : seesB ls ps who part = false := by
      have : partAt ps who = -1 := by unfold partAt; rw [h1]; rfl
      rw [seesB, this]; simp [inR]
    rw [hs]
    clear hs kl kp hin ho
    generalize ls.length = n at hbl
    simp only [inR] at h1
    generalize ps.length = m at h1 hbp
    cases t1 : decide (0 ≤ who) with
    | false =>
      cases t2 : decide (0 ≤ part) <;> cases t3 : decide (part < (n : Int)) <;> cases t4 : decide (who < (m : Int)) <;>
      (go_enter Try.func35, Try.ntmps35
       go_wp2_with fail
       go_quiet (fail)
       go_wp2
       go_ret
       exact ⟨rfl, belowN HB0 _⟩)
    | true =>
      rw [t1, Bool.true_and] at h1
      go_enter Try.func35, Try.ntmps35
      go_wp2_with fail
      go_quiet (fail)
      go_wp2
      go_ret
      exact ⟨rfl, belowN HB0 _⟩
  | true =>
    obtain ⟨k, rfl, hk⟩ := inR_mk h1
    have hq := hin k hk
    obtain ⟨bp, op, rfl, hbp1, hcp⟩ := kp (by omega)
    have c0 : w.cell? ⟨bp, op + k * 3, none⟩ = some (.int .i64 ps[k]!.1) := hcp k hk 0 _ rfl
    have hs : seesB ls ps k part = (inR ls.length part && leqB (labAt ls part).1 (labAt ls part).2 (labAt ls ps[k]!.1).1 (labAt ls ps[k]!.1).2) := by
      have : partAt ps k = ps[k]!.1 := by unfold partAt; rw [h1]; rfl
      rw [seesB, this, hq, Bool.true_and]
    rw [hs]
    have kO := Lib.hid (labAt_ok ho ps[k]!.1)
    have kQ := Lib.hid (labAt_ok ho part)
    obtain ⟨m1, e1, hm1⟩ := inR_mk hq
    obtain ⟨bl, ol, rfl, hbl1, hcl⟩ := kl (by omega)
    have d0 : w.cell? ⟨bl, ol + m1 * 2, none⟩ = some (.int .i64 ls[m1]!.1) := hcl m1 hm1 0 _ rfl
    have d1 : w.cell? ⟨bl, ol + m1 * 2 + 1, none⟩ = some (.int .u16 (ls[m1]!.2 : Int)) := hcl m1 hm1 1 _ rfl
    have hlab : labAt ls ps[k]!.1 = ls[m1]! := by unfold labAt; rw [hq, e1]; simp
    rw [hlab] at kO ⊢
    rw [e1] at c0
    have hkz : (k : Int) < (ps.length : Int) := by omega
    have hm1z : (m1 : Int) < (ls.length : Int) := by omega
    generalize ls[m1]!.1 = a1 at d0 kO ⊢
    generalize ls[m1]!.2 = a2 at d1 kO ⊢
    cases h2 : inR ls.length part with
    | false =>
      rw [Bool.false_and]
      clear hs hin ho hcp hcl hq e1 hlab h1 kO kQ c0 d0 d1
      generalize ps.length = m at hk hkz hbp
      simp only [inR] at h2
      generalize ls.length = n at hm1 hm1z h2 hbl
      cases t1 : decide (0 ≤ part) with
      | false =>
        cases t2 : decide (part < (n : Int)) <;>
        (go_enter Try.func35, Try.ntmps35
         go_wp2_with fail
         go_quiet (fail)
         go_wp2
         go_ret
         exact ⟨rfl, belowN HB0 _⟩)
      | true =>
        rw [t1, Bool.true_and] at h2
        go_enter Try.func35, Try.ntmps35
        go_wp2_with fail
        go_quiet (fail)
        go_wp2
        go_ret
        exact ⟨rfl, belowN HB0 _⟩
    | true =>
      obtain ⟨m2, rfl, hm2⟩ := inR_mk h2
      have f0 : w.cell? ⟨bl, ol + m2 * 2, none⟩ = some (.int .i64 ls[m2]!.1) := hcl m2 hm2 0 _ rfl
      have f1 : w.cell? ⟨bl, ol + m2 * 2 + 1, none⟩ = some (.int .u16 (ls[m2]!.2 : Int)) := hcl m2 hm2 1 _ rfl
      have hlab2 : labAt ls (m2 : Int) = ls[m2]! := by unfold labAt; rw [h2]; simp
      rw [hlab2] at kQ ⊢
      rw [Bool.true_and]
      have hm2z : (m2 : Int) < (ls.length : Int) := by omega
      clear hs hin ho hcp hcl hq e1 hlab h1 hlab2 h2
      generalize ls[m2]!.1 = b1 at f0 kQ ⊢
      generalize ls[m2]!.2 = b2 at f1 kQ ⊢
      generalize ps.length = m at hk hkz hbp
      generalize ls.length = n at hm1 hm1z hbl hm2 hm2z
      have H3 := Lib.hid (fun W => ref01Leq b1 a1 b2 a2 kQ.out kO.out W)
      go_enter Try.func35, Try.ntmps35
      go_wp2_with fail
      go_region_held3 (fun w' => (∀ b o, b < (w).heap.size → w'.cell? ⟨b, o, none⟩ = (w).cell? ⟨b, o, none⟩) ∧ Below (w).heap.size (w) w') (first | exact stay0 _ | exact stay ‹_› ‹_›)
        (first | (go_at_call 43; (with_reducible refine (H3.out _).mono ?_); rintro e w' ⟨rfl, hb⟩))
      go_wp2
      go_ret
      exact ⟨rfl, stayEnd HB0 (Nat.le_refl _) ‹_›⟩

set_option maxRecDepth 100000 in
set_option maxHeartbeats 4000000 in
theorem refMay (vl vp : Value) (ls : List Lbl) (ps : List Psn) (who : Int) (a : Int) (x : Nat) (w : World) (hL : SlAt 2 encL w vl ls) (hP : SlAt 3 encP w vp ps) (hbl : ls.length ≤ 1000) (hbp : ps.length ≤ 1000) (ho : okL ls) (hop : okP ps) (hx : x < 65536)
    (hin : ∀ k, k < ps.length → inR ls.length ps[k]!.1 = true) :
    Calls Try.prog 37 #[vl, vp, .int .i64 who, (.agg #[.int .i64 (a), .int .u16 ((x : Nat) : Int)])] w fun e w' => e = .returned (.bool (mayB ls ps who a x)) ∧ Below w.heap.size w w' := by
  obtain ⟨pl, cl, rfl, _, kl⟩ := hL
  obtain ⟨pp, cp, rfl, _, kp⟩ := hP
  have HB0 := Lib.hid (below1 w (.cells #[.int .i64 a, .int .u16 (x : Int)] 48))
  cases h1 : inR ps.length who with
  | false =>
    have hs : mayB ls ps who a x = false := by
      rw [mayB, h1]; simp
    rw [hs]
    clear hs kl kp hin ho hop
    generalize ls.length = n at hbl
    simp only [inR] at h1
    generalize ps.length = m at h1 hbp
    cases t1 : decide (0 ≤ who) with
    | false =>
      cases t4 : decide (who < (m : Int)) <;>
      (go_enter Try.func37, Try.ntmps37
       go_wp2_with fail
       generalize w.alloc (.cells #[.int .i64 a, .int .u16 (x : Int)] 48) = W at HB0 ⊢
       go_quiet (fail)
       go_wp2
       go_ret
       exact ⟨rfl, belowN HB0.out _⟩)
    | true =>
      rw [t1, Bool.true_and] at h1
      go_enter Try.func37, Try.ntmps37
      go_wp2_with fail
      generalize w.alloc (.cells #[.int .i64 a, .int .u16 (x : Int)] 48) = W at HB0 ⊢
      go_quiet (fail)
      go_wp2
      go_ret
      exact ⟨rfl, belowN HB0.out _⟩
  | true =>
    obtain ⟨k, rfl, hk⟩ := inR_mk h1
    have hq := hin k hk
    obtain ⟨bp, op, rfl, hbp1, hcp⟩ := kp (by omega)
    have c0 : w.cell? ⟨bp, op + k * 3, none⟩ = some (.int .i64 ps[k]!.1) := hcp k hk 0 _ rfl
    have c1 : w.cell? ⟨bp, op + k * 3 + 1, none⟩ = some (.int .i64 ps[k]!.2.1) := hcp k hk 1 _ rfl
    have c2 : w.cell? ⟨bp, op + k * 3 + 2, none⟩ = some (.int .u16 (ps[k]!.2.2 : Int)) := hcp k hk 2 _ rfl
    have kP := Lib.hid (hop k hk)
    have kO := Lib.hid (labAt_ok ho ps[k]!.1)
    obtain ⟨m1, e1, hm1⟩ := inR_mk hq
    obtain ⟨bl, ol, rfl, hbl1, hcl⟩ := kl (by omega)
    have d0 : w.cell? ⟨bl, ol + m1 * 2, none⟩ = some (.int .i64 ls[m1]!.1) := hcl m1 hm1 0 _ rfl
    have d1 : w.cell? ⟨bl, ol + m1 * 2 + 1, none⟩ = some (.int .u16 (ls[m1]!.2 : Int)) := hcl m1 hm1 1 _ rfl
    have hlab : labAt ls ps[k]!.1 = ls[m1]! := by unfold labAt; rw [hq, e1]; simp
    rw [hlab] at kO
    have hs : mayB ls ps k a x = leqB (offLv ls[m1]!.1 a) (mNot ls[m1]!.2 x) ps[k]!.2.1 ps[k]!.2.2 := by
      have hpa : partAt ps k = ps[k]!.1 := by unfold partAt; rw [h1]; rfl
      rw [mayB, hpa, hq, h1, hlab]
      simp
    rw [hs]
    rw [e1] at c0
    have hkz : (k : Int) < (ps.length : Int) := by omega
    have hm1z : (m1 : Int) < (ls.length : Int) := by omega
    clear hs hin ho hcp hcl hq e1 hlab h1 hop
    generalize ls[m1]!.1 = a1 at d0 kO ⊢
    generalize ls[m1]!.2 = a2 at d1 kO ⊢
    generalize ps[k]!.2.1 = p1 at c1 kP ⊢
    generalize ps[k]!.2.2 = p2 at c2 kP ⊢
    generalize ps.length = m at hk hkz hbp
    generalize ls.length = n at hm1 hm1z hbl
    have h3 := fun W => ref01Off a1 a a2 x kO.out hx W
    have h4 := fun W => ref01Leq (offLv a1 a) p1 (mNot a2 x) p2 (mNot_lt kO.out) kP.out W
    generalize offLv a1 a = o1 at h3 h4 ⊢
    generalize mNot a2 x = o2 at h3 h4 ⊢
    have H3 := Lib.hid h3
    have H4 := Lib.hid h4
    clear h3 h4
    have g0 : (w.alloc (.cells #[.int .i64 a, .int .u16 (x : Int)] 48)).cell? ⟨w.heap.size, 0, none⟩ = some (.int .i64 a) := by go_simp
    have g1 : (w.alloc (.cells #[.int .i64 a, .int .u16 (x : Int)] 48)).cell? ⟨w.heap.size, 1, none⟩ = some (.int .u16 (x : Int)) := by go_simp
    have hz : w.heap.size < (w.alloc (.cells #[.int .i64 a, .int .u16 (x : Int)] 48)).heap.size := by simp
    have c0' := (HB0.out.cell (p := ⟨bp, op + k * 3, none⟩) hbp1).trans c0
    have c1' := (HB0.out.cell (p := ⟨bp, op + k * 3 + 1, none⟩) hbp1).trans c1
    have c2' := (HB0.out.cell (p := ⟨bp, op + k * 3 + 2, none⟩) hbp1).trans c2
    have d0' := (HB0.out.cell (p := ⟨bl, ol + m1 * 2, none⟩) hbl1).trans d0
    have d1' := (HB0.out.cell (p := ⟨bl, ol + m1 * 2 + 1, none⟩) hbl1).trans d1
    clear c0 c1 c2 d0 d1
    go_enter Try.func37, Try.ntmps37
    go_wp2_with fail
    generalize w.alloc (.cells #[.int .i64 a, .int .u16 (x : Int)] 48) = W at HB0 g0 g1 hz c0' c1' c2' d0' d1' ⊢
    have hz1 : bp < W.heap.size := by omega
    have hz2 : bl < W.heap.size := by omega
    go_region_held3 (fun w' => (∀ b o, b < (W).heap.size → w'.cell? ⟨b, o, none⟩ = (W).cell? ⟨b, o, none⟩) ∧ Below (W).heap.size (W) w') (first | exact stay0 _ | exact stay ‹_› ‹_›)
      (first
        | (go_at_call 73; (with_reducible refine (H3.out _).mono ?_); rintro e w' ⟨rfl, hb⟩)
        | (go_at_call 43; (with_reducible refine (H4.out _).mono ?_); rintro e w' ⟨rfl, hb⟩))
    go_wp2
    go_ret
    exact ⟨rfl, stayEnd HB0.out HB0.out.size ‹_›⟩
end Go.Proofs.Ytpkmgdpnimecfaa

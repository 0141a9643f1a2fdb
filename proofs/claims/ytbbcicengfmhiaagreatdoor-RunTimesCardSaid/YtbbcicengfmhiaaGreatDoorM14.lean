/- run.Settle. Conditions: the numbers stay small. run.Copy. Conditions: a run with parts; its slices lie in the world. RunTimes, plain: the numbers of a run stay small; its text is not long. -/
import Derived.Test.YtbbcicengfmhiaaGreatDoorM11
import Derived.Test.YtbbcicengfmhiaaGreatDoorStP
namespace Go.Proofs.YtbbcicengfmhiaaGreatDoor
set_option maxRecDepth 100000
open Go.RowKit

theorem wrap_sum {a b : Int} (h1 : smallI a) (h2 : smallI b) : IntKind.i64.wrap (a + b) = a + b := by rw [IntKind.wrap_i64]; unfold smallI at h1 h2; omega
theorem setP_same {l : List PartV} {k : Nat} (hk : k < l.length) : l.set k l[k]! = l := by
  rw [getElem!_pos l k hk]
  exact List.set_getElem_self hk
def stK (R : RunM) (now : Int) (k : Nat) : RunM := { R with ps := settleK R.ts now R.ps k }
theorem stK_at {R : RunM} {now : Int} {k : Nat} (hk : k < R.ps.length) : (stK R now k).ps[k]! = R.ps[k]! := by
  show (settleK R.ts now R.ps k)[k]! = _
  rw [settleK_at _ _ _ hk, if_neg (Nat.lt_irrefl k)]
theorem stK_succ {R : RunM} {now : Int} {k : Nat} : stK R now (k + 1) = { stK R now k with ps := (stK R now k).ps.set k (settleP R.ts[k]! R.ps[k]! now) } := rfl
def SetPost (b g : Nat) (tv : Value) (c : Nat) (J : List Value) (R : RunM) (w : World) (e : Ending) (w' : World) : Prop := e = .returned (.tuple #[]) ∧ RAt b g tv c J R w' ∧ KeptB g w w'
theorem loadS {g k tb o : Nat} {v0 v1 v2 : Value} {w : World} (h0 : w.cell? ⟨g, k * 9, none⟩ = some v0) (h1 : w.cell? ⟨g, k * 9 + 1, none⟩ = some v1) (h2 : w.cell? ⟨tb, o, none⟩ = some v2) (X : World) (hb : Below w.heap.size w X) :
    X.cell? ⟨g, k * 9, none⟩ = some v0 ∧ X.cell? ⟨g, k * 9 + 1, none⟩ = some v1 ∧ X.cell? ⟨tb, o, none⟩ = some v2 :=
  ⟨(hb.cell (p := ⟨g, k * 9, none⟩) (cellW_lt h0)).trans h0, (hb.cell (p := ⟨g, k * 9 + 1, none⟩) (cellW_lt h1)).trans h1, (hb.cell (p := ⟨tb, o, none⟩) (cellW_lt h2)).trans h2⟩
set_option maxHeartbeats 8000000 in
theorem runSettle (b g tb tf tc c : Nat) (J : List Value) (R : RunM) (now : Int) (w : World) (h : RAt b g (tvOf tb tf tc R) c J R w) (hn : R.ps.length ≤ 1000)
    (hmi : ∀ j, j < R.ps.length → smallI R.ps[j]!.try_.missed ∧ smallI R.ps[j]!.try_.since ∧ smallI R.ps[j]!.try_.til) (hti : ∀ j, j < R.ts.length → smallI R.ts[j]!.time) :
    Calls Tryz.prog 21 #[.pointer (some ⟨b, 0, none⟩), .int .i64 now] w (SetPost b g (tvOf tb tf tc R) c J (settleM R now) w) := by
  have KS := Lib.hid (runStatus b g _ c J R w h hn)
  have HR := Lib.hid h
  have hgz := h.row.lt
  have hlen := h.len
  by_cases hs : statusM R = 0
  · have HMD := Lib.hid (show settleM R now = stK R now R.ps.length from if_neg (by simp [hs]))
    rw [hs] at KS
    have HMI := Lib.hid hmi
    have HTI := Lib.hid hti
    rw [HMD.out]
    have HFIN := Lib.hid (fun (w' : World) (h1 : RAt b g (tvOf tb tf tc R) c J (stK R now R.ps.length) w') (h2 : KeptB g w w') => (show SetPost b g (tvOf tb tf tc R) c J (stK R now R.ps.length) w (.returned (.tuple #[])) w' from ⟨rfl, h1, h2⟩))
    have HAT := Lib.hid (fun k (hk : k < R.ps.length) => stK_at (R := R) (now := now) hk)
    have HLN := Lib.hid (fun k => show (stK R now k).ps.length = R.ps.length from settleK_len R.ts now R.ps k)
    clear h hs hmi hti
    generalize hGP : SetPost b g (tvOf tb tf tc R) c J (stK R now R.ps.length) w = GP at *
    clear hGP
    go_enter Tryz.func21, Tryz.ntmps21
    go_wp2_with fail
    refine KS.out.mono ?_
    rintro e w1 ⟨rfl, hb⟩
    have HR1 := Lib.hid (HR.out.below hb)
    have HK1 := Lib.hid (keptB_of hgz hb)
    clear hb KS
    obtain ⟨d0, d1, d2, d3⟩ := HR1.out.head
    unfold tvOf at d1
    obtain ⟨n, hnn⟩ : ∃ n, n = R.ps.length := ⟨_, rfl⟩
    rw [← hnn] at d2 hn hlen
    rw [hlen] at d1
    have HN := Lib.hid hnn
    clear hnn
    go_wp2
    go_loopw [4, 5, 6, 19, 35, 54] (fun _ _ _ s19 _ _ wr => ∃ k : Nat, s19 = .int .i64 k ∧ k ≤ n ∧ RAt b g (tvOf tb tf tc R) c J (stK R now k) wr ∧ KeptB g w wr) (fun _ _ _ s19 _ _ _ => n - (intOf s19).toNat)
    case atStart => exact ⟨0, by go_num, by omega, HR1.out, HK1.out⟩
    case round =>
      obtain ⟨k, rfl, hk, hr, hkp⟩ := hrel
      have HRK := Lib.hid hr
      have HK := Lib.hid hkp
      clear hr hkp d0 d1 d2 d3
      by_cases hlt : k < n
      · have hltz : (k : Int) < (n : Int) := by omega
        have hkR : k < R.ps.length := by rw [← HN.out]; exact hlt
        obtain ⟨d0, d1, d2, d3⟩ := HRK.out.head
        unfold tvOf at d1
        rw [hlen] at d1
        rw [HLN.out, ← HN.out] at d2
        have hkK : k < (stK R now k).ps.length := by rw [HLN.out]; exact hkR
        have hpk := HAT.out k hkR
        obtain ⟨c0, c1, c2, c3, c4, c5, _, _, _⟩ := HRK.out.cells hkK
        rw [hpk] at c0 c1 c2 c3 c4 c5
        have ht := (show TasksAt wr (.slice (some ⟨tb, tf, none⟩) R.ts.length tc) R.ts from HRK.out.tasks).at (show k < R.ts.length by rw [hlen]; exact hlt)
        have htz := ht.1
        obtain ⟨_, _, t2, t3, t4, _, _⟩ := ht.cells
        have hnt := (task_ne HR1.out).1
        have hmk := HMI.out k hkR
        have htk := HTI.out k (by rw [hlen]; exact hlt)
        have hgw := HRK.out.row.lt
        clear ht
        have HQE := Lib.hid (show stK R now (k + 1) = { stK R now k with ps := (stK R now k).ps.set k (settleP R.ts[k]! R.ps[k]! now) } from stK_succ)
        have HPK := Lib.hid hpk
        have KL := Lib.hid (fun W => leaseSettle R.ps[k]!.try_ now R.ts[k]!.retry W hmk.1 hmk.2.2)
        have HNX0 := Lib.hid (fun (hnd : R.ts[k]!.need = 0) (X : World) (hb : RAt b g (tvOf tb tf tc R) c J (stK R now k) X) => (show RAt b g (tvOf tb tf tc R) c J (stK R now (k + 1)) (X.setCells g (k * 9) (encTry (settleT R.ps[k]!.try_ now R.ts[k]!.retry))) from by
          have := RunAt.setTry hb hkK (settleT R.ps[k]!.try_ now R.ts[k]!.retry)
          rw [hpk] at this
          rw [HQE.out]
          unfold settleP
          rw [if_pos hnd]
          exact this))
        have HNX1 := Lib.hid (fun (hnd : ¬ R.ts[k]!.need = 0) (hgo : R.ps[k]!.try_.st = 1 ∧ R.ps[k]!.try_.since + R.ts[k]!.time ≤ now) (X : World) (hb : RAt b g (tvOf tb tf tc R) c J (putT (stK R now k) k (failT (stK R now k).ps[k]!.try_)) X) => (show RAt b g (tvOf tb tf tc R) c J (stK R now (k + 1)) X from by
          unfold putT failT at hb
          rw [hpk] at hb
          rw [HQE.out]
          unfold settleP
          rw [if_neg hnd, if_pos hgo]
          exact hb))
        have HNX2 := Lib.hid (fun (hnd : ¬ R.ts[k]!.need = 0) (hgo : ¬ (R.ps[k]!.try_.st = 1 ∧ R.ps[k]!.try_.since + R.ts[k]!.time ≤ now)) (X : World) (hb : RAt b g (tvOf tb tf tc R) c J (stK R now k) X) => (show RAt b g (tvOf tb tf tc R) c J (stK R now (k + 1)) X from by
          rw [HQE.out]
          unfold settleP
          rw [if_neg hnd, if_neg hgo, ← hpk, setP_same hkK]
          exact hb))
        have KG := Lib.hid (fun W => gateOver R.ps[k]!.try_.since R.ts[k]!.time now W (wrap_sum hmk.2.1 htk))
        have HRQ := Lib.hid (show RAt b g (tvOf tb tf tc R) c J (stK R now k) wr from HRK.out)
        have HCF := Lib.hid (cellsF g k HRK.out hkK)
        have KF := Lib.hid (fun (W : World) (hb : RAt b g (tvOf tb tf tc R) c J (stK R now k) W) => partFail b g _ c J (stK R now k) k W hb hkK)
        clear hmk htk hpk HPK HQE
        generalize hnt0 : settleT R.ps[k]!.try_ now R.ts[k]!.retry = nt at *
        clear hnt0
        generalize R.ts[k]!.need = nd at *
        generalize R.ts[k]!.retry = rty at *
        generalize R.ts[k]!.time = tim at *
        generalize R.ps[k]!.try_ = pt at *
        obtain ⟨s, si, mi, wkk, ls, ti⟩ := pt
        obtain ⟨n0, n1, n2, n3, n4, n5⟩ := nt
        dsimp only at c0 c1 c2 c3 c4 c5 KL HNX0 HNX1 HNX2 KG
        go_wp2_with fail
        go_quiet (fail)
        generalize hwd : wr.drewN _ = w2
        have hbd : Below wr.heap.size wr w2 := by rw [← hwd]; exact belowN (Below.refl _ _) _
        have HR2 := Lib.hid (HRQ.out.below hbd)
        have HK2 := Lib.hid (HK.out.trans (keptB_of hgw hbd))
        have hg2 := HR2.out.row.lt
        have tr : ∀ q o v, wr.cell? ⟨q, o, none⟩ = some v → w2.cell? ⟨q, o, none⟩ = some v := fun q o v h => (hbd.cell (p := ⟨q, o, none⟩) (cellW_lt h)).trans h
        replace c0 := tr _ _ _ c0
        replace c1 := tr _ _ _ c1
        replace c2 := tr _ _ _ c2
        replace c3 := tr _ _ _ c3
        replace c4 := tr _ _ _ c4
        replace c5 := tr _ _ _ c5
        replace t2 := tr _ _ _ t2
        replace t3 := tr _ _ _ t3
        replace t4 := tr _ _ _ t4
        have HBD := Lib.hid hbd
        clear tr hwd d0 d1 d2 d3 hbd
        by_cases hnd : nd = 0
        · have hz : (nd == 0) = true := by simpa using hnd
          have HTS := Lib.hid (taskS (g := g) t2 (cellW_lt t2) hnt)
          have HNX := Lib.hid (HNX0.out hnd)
          clear hnd
          go_wp2_with fail
          refine wp_region_held_drew (S := (fun X => X.cell? ⟨tb, tf + k * 7 + 2, none⟩ = some (.int .i64 rty))) (by kernel_rfl) (show w2.drew.cell? ⟨tb, tf + k * 7 + 2, none⟩ = some (.int .i64 rty) from t2) (fun hHeld => ?_)
          try dsimp only [List.size_toArray, List.length_cons, List.length_nil]
          refine takeL (i := 0) rfl (v := ?vz1) (by kernel_rfl) (by kernel_rfl) (by kernel_rfl) (fun _ _ _ h => h) (Or.inl ⟨by rfl, fun _w _hSw => ?hyz1⟩) (by assumption) ?restz1
          case hyz1 =>
            (try dsimp only at _hSw)
            go_simp
            try with_reducible rfl
          try simp only [Act.put, List.setIfInBounds_toArray, List.set_cons_zero, List.set_cons_succ]
          refine takeL (i := 1) rfl (v := ?vz2) (by kernel_rfl) (by kernel_rfl) (by kernel_rfl) (fun _ _ _ h => h) (Or.inl ⟨by rfl, fun _w _hSw => ?hyz2⟩) (by assumption) ?restz2
          case hyz2 =>
            (try dsimp only at _hSw)
            go_simp
            try with_reducible rfl
          try simp only [Act.put, List.setIfInBounds_toArray, List.set_cons_zero, List.set_cons_succ]
          refine takeL (i := 2) rfl (v := ?vz3) (by kernel_rfl) (by kernel_rfl) (by kernel_rfl) (fun _ _ _ h => h) (Or.inl ⟨by rfl, fun _w _hSw => ?hyz3⟩) (by assumption) ?restz3
          case hyz3 =>
            (try dsimp only at _hSw)
            go_simp
            try with_reducible rfl
          try simp only [Act.put, List.setIfInBounds_toArray, List.set_cons_zero, List.set_cons_succ]
          refine takeL (i := 3) rfl (v := ?vz4) (by kernel_rfl) (by kernel_rfl) (by kernel_rfl) (fun _ _ _ h => h) (Or.inl ⟨by rfl, fun _w _hSw => ?hyz4⟩) (by assumption) ?restz4
          case hyz4 =>
            (try dsimp only at _hSw)
            go_simp
            try with_reducible rfl
          try simp only [Act.put, List.setIfInBounds_toArray, List.set_cons_zero, List.set_cons_succ]
          refine takeL (i := 5) rfl (v := ?vz5) (by kernel_rfl) (by kernel_rfl) (by kernel_rfl) (fun _ _ _ h => h) (Or.inl ⟨by rfl, fun _w _hSw => ?hyz5⟩) (by assumption) ?restz5
          case hyz5 =>
            (try dsimp only at _hSw)
            go_simp
            try with_reducible rfl
          try simp only [Act.put, List.setIfInBounds_toArray, List.set_cons_zero, List.set_cons_succ]
          refine takeL (i := 6) rfl (v := ?vz6) (by kernel_rfl) (by kernel_rfl) (by kernel_rfl) (fun _ _ _ h => h) (Or.inl ⟨by rfl, fun _w _hSw => ?hyz6⟩) (by assumption) ?restz6
          case hyz6 =>
            (try dsimp only at _hSw)
            go_simp
            try with_reducible rfl
          try simp only [Act.put, List.setIfInBounds_toArray, List.set_cons_zero, List.set_cons_succ]
          refine takeL (i := 7) rfl (v := ?vz7) (by kernel_rfl) (by kernel_rfl) (by kernel_rfl) (fun _ _ _ h => h) (Or.inl ⟨by rfl, fun _w _hSw => ?hyz7⟩) (by assumption) ?restz7
          case hyz7 =>
            (try dsimp only at _hSw)
            go_simp
            try with_reducible rfl
          try simp only [Act.put, List.setIfInBounds_toArray, List.set_cons_zero, List.set_cons_succ]
          refine takeL (i := 8) rfl (v := ?vz8) (by kernel_rfl) (by kernel_rfl) (by kernel_rfl) (fun _ _ _ h => h) (Or.inl ⟨by rfl, fun _w _hSw => ?hyz8⟩) (by assumption) ?restz8
          case hyz8 =>
            (try dsimp only at _hSw)
            go_simp
            try with_reducible rfl
          try simp only [Act.put, List.setIfInBounds_toArray, List.set_cons_zero, List.set_cons_succ]
          refine takeL (i := 9) rfl (v := ?vz9) (by kernel_rfl) (by kernel_rfl) (by kernel_rfl) (fun _ _ _ h => h) (Or.inl ⟨by rfl, fun _w _hSw => ?hyz9⟩) (by assumption) ?restz9
          case hyz9 =>
            (try dsimp only at _hSw)
            go_simp
            try with_reducible rfl
          try simp only [Act.put, List.setIfInBounds_toArray, List.set_cons_zero, List.set_cons_succ]
          refine wpAnyH_ready (rs := [4]) (by kernel_rfl) (by simp) (readyL rfl (fun K1 hK => ?_) AllReadyH.nil)
          go_simp
          refine hK.out _ _ ‹_› (fun _ => ?_)
          clear hK K1
          try simp only [Act.put, List.setIfInBounds_toArray, List.set_cons_zero, List.set_cons_succ]
          refine wpAnyH_ready (rs := [10]) (by kernel_rfl) (by simp) (readyL rfl (fun K1 hK => ?_) AllReadyH.nil)
          go_simp
          with_reducible refine (KL.out _).mono ?_
          rintro e w5 ⟨rfl, hb5⟩
          have HB5 := Lib.hid (show Below w2.heap.size w2 w5 from (Below.refl _ _).drew.trans hb5)
          have HN5 := Lib.hid (HNX.out w5 (HR2.out.below HB5.out))
          have HSW := Lib.hid ((HTS.out w5 HB5.out).2 (k * 9) (encTry ⟨n0, n1, n2, n3, n4, n5⟩))
          obtain ⟨⟨v0, m0⟩, ⟨v1, m1⟩, ⟨v2, m2⟩, ⟨v3, m3⟩, ⟨v4, m4⟩, ⟨v5, m5⟩, q0, q1, q2, q3, q4, q5⟩ := HCF.out w5 (HBD.out.trans (HB5.out.mono HBD.out.size))
          have HKG := Lib.hid ((HK2.out.trans (keptB_of hg2 HB5.out)).trans (keptB_G (KeptG.sets g (k * 9) w5 (encTry ⟨n0, n1, n2, n3, n4, n5⟩))))
          clear hb5
          try dsimp only
          refine hK.out _ _ (HTS.out w5 HB5.out).1 (fun hHeld => ?_)
          clear hK K1
          try simp only [Act.put, List.setIfInBounds_toArray, List.set_cons_zero, List.set_cons_succ]
          refine takeL (i := 11) rfl (v := ?vz10) (by kernel_rfl) (by kernel_rfl) (by kernel_rfl) (fun _ _ _ h => h) (Or.inl ⟨by rfl, fun _w _hSw => ?hyz10⟩) (by assumption) ?restz10
          case hyz10 =>
            (try dsimp only at _hSw)
            go_simp
            try with_reducible rfl
          try simp only [Act.put, List.setIfInBounds_toArray, List.set_cons_zero, List.set_cons_succ]
          refine takeL (i := 12) rfl (v := ?vz11) (by kernel_rfl) (by kernel_rfl) (by kernel_rfl) (fun _ _ _ h => h) (Or.inl ⟨by rfl, fun _w _hSw => ?hyz11⟩) (by assumption) ?restz11
          case hyz11 =>
            (try dsimp only at _hSw)
            go_simp
            try with_reducible rfl
          try simp only [Act.put, List.setIfInBounds_toArray, List.set_cons_zero, List.set_cons_succ]
          refine wpAnyH_ready (rs := [13]) (by kernel_rfl) (by simp) (readyL rfl (fun K1 hK => ?_) AllReadyH.nil)
          go_simp
          refine hK.out _ _ HSW.out (fun _ => ?_)
          clear hK K1
          try simp only [Act.put, List.setIfInBounds_toArray, List.set_cons_zero, List.set_cons_succ]
          refine wpAnyH_done (by kernel_rfl) ?_ _
          clear m0 m1 m2 m3 m4 m5 q0 q1 q2 q3 q4 q5
          generalize hw6 : w5.setCells g (k * 9) (encTry ⟨n0, n1, n2, n3, n4, n5⟩) = w6 at *
          simp only [World.setCells, encTry] at hw6
          rw [hw6]
          clear hw6
          go_wp2
          go_roundw
          case rel => exact ⟨k + 1, by go_num, by omega, HN5.out, HKG.out⟩
          case measure => simp [intOf] <;> omega
        · have hz : (nd == 0) = false := by simpa using hnd
          have HLS := Lib.hid (loadS c0 c1 t3)
          have hwd := (Below.refl w2.heap.size w2).drew
          by_cases hst : s = 1
          · subst hst
            by_cases hgo : si + tim ≤ now
            · have hgd : decide (si + tim ≤ now) = true := by simpa using hgo
              have HNX := Lib.hid (HNX1.out hnd ⟨rfl, hgo⟩)
              clear hgo hnd
              have HR3 := Lib.hid (HR2.out.below hwd)
              have HK3 := Lib.hid (HK2.out.trans (keptB_of hg2 hwd))
              clear hwd
              go_wp2_with fail
              refine wp_region_held_drew (S := (fun X => X.cell? ⟨g, k * 9, none⟩ = some (.int .i64 1) ∧ X.cell? ⟨g, k * 9 + 1, none⟩ = some (.int .i64 si) ∧ X.cell? ⟨tb, tf + k * 7 + 3, none⟩ = some (.int .i64 tim))) (by kernel_rfl) (HLS.out w2.drew (Below.refl _ _).drew) (fun hHeld => ?_)
              try dsimp only [List.size_toArray, List.length_cons, List.length_nil]
              refine takeL (i := 0) rfl (v := ?vz21) (by kernel_rfl) (by kernel_rfl) (by kernel_rfl) (fun _ _ _ h => h) (Or.inl ⟨by rfl, fun _w _hSw => ?hyz21⟩) (by assumption) ?restz21
              case hyz21 =>
                (try dsimp only at _hSw)
                go_simp
                try with_reducible rfl
              try simp only [Act.put, List.setIfInBounds_toArray, List.set_cons_zero, List.set_cons_succ]
              refine takeL (i := 1) rfl (v := ?vz22) (by kernel_rfl) (by kernel_rfl) (by kernel_rfl) (fun _ _ _ h => h) (Or.inl ⟨by rfl, fun _w _hSw => ?hyz22⟩) (by assumption) ?restz22
              case hyz22 =>
                (try dsimp only at _hSw)
                go_simp
                try with_reducible rfl
              try simp only [Act.put, List.setIfInBounds_toArray, List.set_cons_zero, List.set_cons_succ]
              refine takeL (i := 2) rfl (v := ?vz23) (by kernel_rfl) (by kernel_rfl) (by kernel_rfl) (fun _ _ _ h => h) (Or.inl ⟨by rfl, fun _w _hSw => ?hyz23⟩) (by assumption) ?restz23
              case hyz23 =>
                (try dsimp only at _hSw)
                go_simp
                try with_reducible rfl
              try simp only [Act.put, List.setIfInBounds_toArray, List.set_cons_zero, List.set_cons_succ]
              refine takeL (i := 3) rfl (v := ?vz24) (by kernel_rfl) (by kernel_rfl) (by kernel_rfl) (fun _ _ _ h => h) (Or.inl ⟨by rfl, fun _w _hSw => ?hyz24⟩) (by assumption) ?restz24
              case hyz24 =>
                (try dsimp only at _hSw)
                go_simp
                try with_reducible rfl
              try simp only [Act.put, List.setIfInBounds_toArray, List.set_cons_zero, List.set_cons_succ]
              refine takeL (i := 4) rfl (v := ?vz25) (by kernel_rfl) (by kernel_rfl) (by kernel_rfl) (fun _ _ _ h => h) (Or.inl ⟨by rfl, fun _w _hSw => ?hyz25⟩) (by assumption) ?restz25
              case hyz25 =>
                (try dsimp only at _hSw)
                go_simp
                try with_reducible rfl
              try simp only [Act.put, List.setIfInBounds_toArray, List.set_cons_zero, List.set_cons_succ]
              refine takeL (i := 5) rfl (v := ?vz26) (by kernel_rfl) (by kernel_rfl) (by kernel_rfl) (fun _ _ _ h => h) (Or.inl ⟨by rfl, fun _w _hSw => ?hyz26⟩) (by assumption) ?restz26
              case hyz26 =>
                (try dsimp only at _hSw)
                go_simp
                try with_reducible rfl
              try simp only [Act.put, List.setIfInBounds_toArray, List.set_cons_zero, List.set_cons_succ]
              refine takeL (i := 6) rfl (v := ?vz27) (by kernel_rfl) (by kernel_rfl) (by kernel_rfl) (fun _ _ _ h => h) (Or.inl ⟨by rfl, fun _w _hSw => ?hyz27⟩) (by assumption) ?restz27
              case hyz27 =>
                (try dsimp only at _hSw)
                go_simp
                try with_reducible rfl
              try simp only [Act.put, List.setIfInBounds_toArray, List.set_cons_zero, List.set_cons_succ]
              refine takeL (i := 7) rfl (v := ?vz28) (by kernel_rfl) (by kernel_rfl) (by kernel_rfl) (fun _ _ _ h => h) (Or.inl ⟨by rfl, fun _w _hSw => ?hyz28⟩) (by assumption) ?restz28
              case hyz28 =>
                (try dsimp only at _hSw)
                go_simp
                try with_reducible rfl
              try simp only [Act.put, List.setIfInBounds_toArray, List.set_cons_zero, List.set_cons_succ]
              refine takeL (i := 8) rfl (v := ?vz29) (by kernel_rfl) (by kernel_rfl) (by kernel_rfl) (fun _ _ _ h => h) (Or.inl ⟨by rfl, fun _w _hSw => ?hyz29⟩) (by assumption) ?restz29
              case hyz29 =>
                (try dsimp only at _hSw)
                go_simp
                try with_reducible rfl
              try simp only [Act.put, List.setIfInBounds_toArray, List.set_cons_zero, List.set_cons_succ]
              refine takeL (i := 9) rfl (v := ?vz30) (by kernel_rfl) (by kernel_rfl) (by kernel_rfl) (fun _ _ _ h => h) (Or.inl ⟨by rfl, fun _w _hSw => ?hyz30⟩) (by assumption) ?restz30
              case hyz30 =>
                (try dsimp only at _hSw)
                go_simp
                try with_reducible rfl
              try simp only [Act.put, List.setIfInBounds_toArray, List.set_cons_zero, List.set_cons_succ]
              refine takeL (i := 10) rfl (v := ?vz31) (by kernel_rfl) (by kernel_rfl) (by kernel_rfl) (fun _ _ _ h => h) (Or.inl ⟨by rfl, fun _w _hSw => ?hyz31⟩) (by assumption) ?restz31
              case hyz31 =>
                (try dsimp only at _hSw)
                go_simp
                try with_reducible rfl
              try simp only [Act.put, List.setIfInBounds_toArray, List.set_cons_zero, List.set_cons_succ]
              refine takeL (i := 11) rfl (v := ?vz32) (by kernel_rfl) (by kernel_rfl) (by kernel_rfl) (fun _ _ _ h => h) (Or.inl ⟨by rfl, fun _w _hSw => ?hyz32⟩) (by assumption) ?restz32
              case hyz32 =>
                (try dsimp only at _hSw)
                go_simp
                try with_reducible rfl
              try simp only [Act.put, List.setIfInBounds_toArray, List.set_cons_zero, List.set_cons_succ]
              refine takeL (i := 12) rfl (v := ?vz33) (by kernel_rfl) (by kernel_rfl) (by kernel_rfl) (fun _ _ _ h => h) (Or.inl ⟨by rfl, fun _w _hSw => ?hyz33⟩) (by assumption) ?restz33
              case hyz33 =>
                (try dsimp only at _hSw)
                go_simp
                try with_reducible rfl
              try simp only [Act.put, List.setIfInBounds_toArray, List.set_cons_zero, List.set_cons_succ]
              refine takeL (i := 13) rfl (v := ?vz34) (by kernel_rfl) (by kernel_rfl) (by kernel_rfl) (fun _ _ _ h => h) (Or.inl ⟨by rfl, fun _w _hSw => ?hyz34⟩) (by assumption) ?restz34
              case hyz34 =>
                (try dsimp only at _hSw)
                go_simp
                try with_reducible rfl
              try simp only [Act.put, List.setIfInBounds_toArray, List.set_cons_zero, List.set_cons_succ]
              refine takeL (i := 14) rfl (v := ?vz35) (by kernel_rfl) (by kernel_rfl) (by kernel_rfl) (fun _ _ _ h => h) (Or.inl ⟨by rfl, fun _w _hSw => ?hyz35⟩) (by assumption) ?restz35
              case hyz35 =>
                (try dsimp only at _hSw)
                go_simp
                try with_reducible rfl
              try simp only [Act.put, List.setIfInBounds_toArray, List.set_cons_zero, List.set_cons_succ]
              refine takeL (i := 15) rfl (v := ?vz36) (by kernel_rfl) (by kernel_rfl) (by kernel_rfl) (fun _ _ _ h => h) (Or.inl ⟨by rfl, fun _w _hSw => ?hyz36⟩) (by assumption) ?restz36
              case hyz36 =>
                (try dsimp only at _hSw)
                go_simp
                try with_reducible rfl
              try simp only [Act.put, List.setIfInBounds_toArray, List.set_cons_zero, List.set_cons_succ]
              refine takeL (i := 16) rfl (v := ?vz37) (by kernel_rfl) (by kernel_rfl) (by kernel_rfl) (fun _ _ _ h => h) (Or.inl ⟨by rfl, fun _w _hSw => ?hyz37⟩) (by assumption) ?restz37
              case hyz37 =>
                (try dsimp only at _hSw)
                go_simp
                try with_reducible rfl
              try simp only [Act.put, List.setIfInBounds_toArray, List.set_cons_zero, List.set_cons_succ]
              refine wpAnyH_ready (rs := [17]) (by kernel_rfl) (by simp) (readyL rfl (fun K1 hK => ?_) AllReadyH.nil)
              go_simp
              with_reducible refine (KG.out _).mono ?_
              rintro e w5 ⟨rfl, rfl⟩
              try dsimp only
              refine hK.out _ _ ‹_› (fun hHeld => ?_)
              clear hK K1
              try simp only [Act.put, List.setIfInBounds_toArray, List.set_cons_zero, List.set_cons_succ]
              refine takeL (i := 18) rfl (v := ?vz38) (by kernel_rfl) (by kernel_rfl) (by kernel_rfl) (fun _ _ _ h => h) (Or.inl ⟨by rfl, fun _w _hSw => ?hyz38⟩) (by assumption) ?restz38
              case hyz38 =>
                (try dsimp only at _hSw)
                go_simp
                try with_reducible rfl
              try simp only [Act.put, List.setIfInBounds_toArray, List.set_cons_zero, List.set_cons_succ]
              refine takeL (i := 19) rfl (v := ?vz39) (by kernel_rfl) (by kernel_rfl) (by kernel_rfl) (fun _ _ _ h => h) (Or.inl ⟨by rfl, fun _w _hSw => ?hyz39⟩) (by assumption) ?restz39
              case hyz39 =>
                (try dsimp only at _hSw)
                go_simp
                try with_reducible rfl
              try simp only [Act.put, List.setIfInBounds_toArray, List.set_cons_zero, List.set_cons_succ]
              refine wpAnyH_done (by kernel_rfl) ?_ _
              clear c0 c1 c2 c3 c4 c5 t2 t3 t4 hHeld
              generalize w2.drew = w3 at HR3 HK3 ⊢
              have KFF := Lib.hid (KF.out w3 HR3.out)
              go_wp2_with fail
              refine KFF.out.mono ?_
              rintro e w4 ⟨rfl, h4, h5⟩
              have HN4 := Lib.hid (HNX.out w4 h4)
              have HK4 := Lib.hid (HK3.out.trans (keptB_G h5))
              clear h4 h5
              go_wp2
              go_roundw
              case rel => exact ⟨k + 1, by go_num, by omega, HN4.out, HK4.out⟩
              case measure => simp [intOf] <;> omega
            · have hgd : decide (si + tim ≤ now) = false := by simpa using hgo
              have HN3 := Lib.hid (HNX2.out hnd (fun h => hgo h.2) _ (HR2.out.below hwd))
              have HK3 := Lib.hid (HK2.out.trans (keptB_of hg2 hwd))
              clear hgo hnd hwd
              go_wp2_with fail
              refine wp_region_held_drew (S := (fun X => X.cell? ⟨g, k * 9, none⟩ = some (.int .i64 1) ∧ X.cell? ⟨g, k * 9 + 1, none⟩ = some (.int .i64 si) ∧ X.cell? ⟨tb, tf + k * 7 + 3, none⟩ = some (.int .i64 tim))) (by kernel_rfl) (HLS.out w2.drew (Below.refl _ _).drew) (fun hHeld => ?_)
              try dsimp only [List.size_toArray, List.length_cons, List.length_nil]
              refine takeL (i := 0) rfl (v := ?vz40) (by kernel_rfl) (by kernel_rfl) (by kernel_rfl) (fun _ _ _ h => h) (Or.inl ⟨by rfl, fun _w _hSw => ?hyz40⟩) (by assumption) ?restz40
              case hyz40 =>
                (try dsimp only at _hSw)
                go_simp
                try with_reducible rfl
              try simp only [Act.put, List.setIfInBounds_toArray, List.set_cons_zero, List.set_cons_succ]
              refine takeL (i := 1) rfl (v := ?vz41) (by kernel_rfl) (by kernel_rfl) (by kernel_rfl) (fun _ _ _ h => h) (Or.inl ⟨by rfl, fun _w _hSw => ?hyz41⟩) (by assumption) ?restz41
              case hyz41 =>
                (try dsimp only at _hSw)
                go_simp
                try with_reducible rfl
              try simp only [Act.put, List.setIfInBounds_toArray, List.set_cons_zero, List.set_cons_succ]
              refine takeL (i := 2) rfl (v := ?vz42) (by kernel_rfl) (by kernel_rfl) (by kernel_rfl) (fun _ _ _ h => h) (Or.inl ⟨by rfl, fun _w _hSw => ?hyz42⟩) (by assumption) ?restz42
              case hyz42 =>
                (try dsimp only at _hSw)
                go_simp
                try with_reducible rfl
              try simp only [Act.put, List.setIfInBounds_toArray, List.set_cons_zero, List.set_cons_succ]
              refine takeL (i := 3) rfl (v := ?vz43) (by kernel_rfl) (by kernel_rfl) (by kernel_rfl) (fun _ _ _ h => h) (Or.inl ⟨by rfl, fun _w _hSw => ?hyz43⟩) (by assumption) ?restz43
              case hyz43 =>
                (try dsimp only at _hSw)
                go_simp
                try with_reducible rfl
              try simp only [Act.put, List.setIfInBounds_toArray, List.set_cons_zero, List.set_cons_succ]
              refine takeL (i := 4) rfl (v := ?vz44) (by kernel_rfl) (by kernel_rfl) (by kernel_rfl) (fun _ _ _ h => h) (Or.inl ⟨by rfl, fun _w _hSw => ?hyz44⟩) (by assumption) ?restz44
              case hyz44 =>
                (try dsimp only at _hSw)
                go_simp
                try with_reducible rfl
              try simp only [Act.put, List.setIfInBounds_toArray, List.set_cons_zero, List.set_cons_succ]
              refine takeL (i := 5) rfl (v := ?vz45) (by kernel_rfl) (by kernel_rfl) (by kernel_rfl) (fun _ _ _ h => h) (Or.inl ⟨by rfl, fun _w _hSw => ?hyz45⟩) (by assumption) ?restz45
              case hyz45 =>
                (try dsimp only at _hSw)
                go_simp
                try with_reducible rfl
              try simp only [Act.put, List.setIfInBounds_toArray, List.set_cons_zero, List.set_cons_succ]
              refine takeL (i := 6) rfl (v := ?vz46) (by kernel_rfl) (by kernel_rfl) (by kernel_rfl) (fun _ _ _ h => h) (Or.inl ⟨by rfl, fun _w _hSw => ?hyz46⟩) (by assumption) ?restz46
              case hyz46 =>
                (try dsimp only at _hSw)
                go_simp
                try with_reducible rfl
              try simp only [Act.put, List.setIfInBounds_toArray, List.set_cons_zero, List.set_cons_succ]
              refine takeL (i := 7) rfl (v := ?vz47) (by kernel_rfl) (by kernel_rfl) (by kernel_rfl) (fun _ _ _ h => h) (Or.inl ⟨by rfl, fun _w _hSw => ?hyz47⟩) (by assumption) ?restz47
              case hyz47 =>
                (try dsimp only at _hSw)
                go_simp
                try with_reducible rfl
              try simp only [Act.put, List.setIfInBounds_toArray, List.set_cons_zero, List.set_cons_succ]
              refine takeL (i := 8) rfl (v := ?vz48) (by kernel_rfl) (by kernel_rfl) (by kernel_rfl) (fun _ _ _ h => h) (Or.inl ⟨by rfl, fun _w _hSw => ?hyz48⟩) (by assumption) ?restz48
              case hyz48 =>
                (try dsimp only at _hSw)
                go_simp
                try with_reducible rfl
              try simp only [Act.put, List.setIfInBounds_toArray, List.set_cons_zero, List.set_cons_succ]
              refine takeL (i := 9) rfl (v := ?vz49) (by kernel_rfl) (by kernel_rfl) (by kernel_rfl) (fun _ _ _ h => h) (Or.inl ⟨by rfl, fun _w _hSw => ?hyz49⟩) (by assumption) ?restz49
              case hyz49 =>
                (try dsimp only at _hSw)
                go_simp
                try with_reducible rfl
              try simp only [Act.put, List.setIfInBounds_toArray, List.set_cons_zero, List.set_cons_succ]
              refine takeL (i := 10) rfl (v := ?vz50) (by kernel_rfl) (by kernel_rfl) (by kernel_rfl) (fun _ _ _ h => h) (Or.inl ⟨by rfl, fun _w _hSw => ?hyz50⟩) (by assumption) ?restz50
              case hyz50 =>
                (try dsimp only at _hSw)
                go_simp
                try with_reducible rfl
              try simp only [Act.put, List.setIfInBounds_toArray, List.set_cons_zero, List.set_cons_succ]
              refine takeL (i := 11) rfl (v := ?vz51) (by kernel_rfl) (by kernel_rfl) (by kernel_rfl) (fun _ _ _ h => h) (Or.inl ⟨by rfl, fun _w _hSw => ?hyz51⟩) (by assumption) ?restz51
              case hyz51 =>
                (try dsimp only at _hSw)
                go_simp
                try with_reducible rfl
              try simp only [Act.put, List.setIfInBounds_toArray, List.set_cons_zero, List.set_cons_succ]
              refine takeL (i := 12) rfl (v := ?vz52) (by kernel_rfl) (by kernel_rfl) (by kernel_rfl) (fun _ _ _ h => h) (Or.inl ⟨by rfl, fun _w _hSw => ?hyz52⟩) (by assumption) ?restz52
              case hyz52 =>
                (try dsimp only at _hSw)
                go_simp
                try with_reducible rfl
              try simp only [Act.put, List.setIfInBounds_toArray, List.set_cons_zero, List.set_cons_succ]
              refine takeL (i := 13) rfl (v := ?vz53) (by kernel_rfl) (by kernel_rfl) (by kernel_rfl) (fun _ _ _ h => h) (Or.inl ⟨by rfl, fun _w _hSw => ?hyz53⟩) (by assumption) ?restz53
              case hyz53 =>
                (try dsimp only at _hSw)
                go_simp
                try with_reducible rfl
              try simp only [Act.put, List.setIfInBounds_toArray, List.set_cons_zero, List.set_cons_succ]
              refine takeL (i := 14) rfl (v := ?vz54) (by kernel_rfl) (by kernel_rfl) (by kernel_rfl) (fun _ _ _ h => h) (Or.inl ⟨by rfl, fun _w _hSw => ?hyz54⟩) (by assumption) ?restz54
              case hyz54 =>
                (try dsimp only at _hSw)
                go_simp
                try with_reducible rfl
              try simp only [Act.put, List.setIfInBounds_toArray, List.set_cons_zero, List.set_cons_succ]
              refine takeL (i := 15) rfl (v := ?vz55) (by kernel_rfl) (by kernel_rfl) (by kernel_rfl) (fun _ _ _ h => h) (Or.inl ⟨by rfl, fun _w _hSw => ?hyz55⟩) (by assumption) ?restz55
              case hyz55 =>
                (try dsimp only at _hSw)
                go_simp
                try with_reducible rfl
              try simp only [Act.put, List.setIfInBounds_toArray, List.set_cons_zero, List.set_cons_succ]
              refine takeL (i := 16) rfl (v := ?vz56) (by kernel_rfl) (by kernel_rfl) (by kernel_rfl) (fun _ _ _ h => h) (Or.inl ⟨by rfl, fun _w _hSw => ?hyz56⟩) (by assumption) ?restz56
              case hyz56 =>
                (try dsimp only at _hSw)
                go_simp
                try with_reducible rfl
              try simp only [Act.put, List.setIfInBounds_toArray, List.set_cons_zero, List.set_cons_succ]
              refine wpAnyH_ready (rs := [17]) (by kernel_rfl) (by simp) (readyL rfl (fun K1 hK => ?_) AllReadyH.nil)
              go_simp
              with_reducible refine (KG.out _).mono ?_
              rintro e w5 ⟨rfl, rfl⟩
              try dsimp only
              refine hK.out _ _ ‹_› (fun hHeld => ?_)
              clear hK K1
              try simp only [Act.put, List.setIfInBounds_toArray, List.set_cons_zero, List.set_cons_succ]
              refine takeL (i := 18) rfl (v := ?vz57) (by kernel_rfl) (by kernel_rfl) (by kernel_rfl) (fun _ _ _ h => h) (Or.inl ⟨by rfl, fun _w _hSw => ?hyz57⟩) (by assumption) ?restz57
              case hyz57 =>
                (try dsimp only at _hSw)
                go_simp
                try with_reducible rfl
              try simp only [Act.put, List.setIfInBounds_toArray, List.set_cons_zero, List.set_cons_succ]
              refine takeL (i := 19) rfl (v := ?vz58) (by kernel_rfl) (by kernel_rfl) (by kernel_rfl) (fun _ _ _ h => h) (Or.inl ⟨by rfl, fun _w _hSw => ?hyz58⟩) (by assumption) ?restz58
              case hyz58 =>
                (try dsimp only at _hSw)
                go_simp
                try with_reducible rfl
              try simp only [Act.put, List.setIfInBounds_toArray, List.set_cons_zero, List.set_cons_succ]
              refine wpAnyH_done (by kernel_rfl) ?_ _
              clear c0 c1 c2 c3 c4 c5 t2 t3 t4 hHeld
              generalize w2.drew = w3 at HN3 HK3 ⊢
              go_wp2
              go_roundw
              case rel => exact ⟨k + 1, by go_num, by omega, HN3.out, HK3.out⟩
              case measure => simp [intOf] <;> omega
          · have hsb : (s == 1) = false := by simpa using hst
            have HN3 := Lib.hid (HNX2.out hnd (fun h => hst h.1) _ (HR2.out.below hwd))
            have HK3 := Lib.hid (HK2.out.trans (keptB_of hg2 hwd))
            clear hst hnd hwd
            go_wp2_with fail
            refine wp_region_held_drew (S := (fun X => X.cell? ⟨g, k * 9, none⟩ = some (.int .i64 s) ∧ X.cell? ⟨g, k * 9 + 1, none⟩ = some (.int .i64 si) ∧ X.cell? ⟨tb, tf + k * 7 + 3, none⟩ = some (.int .i64 tim))) (by kernel_rfl) (HLS.out w2.drew (Below.refl _ _).drew) (fun hHeld => ?_)
            try dsimp only [List.size_toArray, List.length_cons, List.length_nil]
            refine takeL (i := 0) rfl (v := ?vz12) (by kernel_rfl) (by kernel_rfl) (by kernel_rfl) (fun _ _ _ h => h) (Or.inl ⟨by rfl, fun _w _hSw => ?hyz12⟩) (by assumption) ?restz12
            case hyz12 =>
              (try dsimp only at _hSw)
              go_simp
              try with_reducible rfl
            try simp only [Act.put, List.setIfInBounds_toArray, List.set_cons_zero, List.set_cons_succ]
            refine takeL (i := 1) rfl (v := ?vz13) (by kernel_rfl) (by kernel_rfl) (by kernel_rfl) (fun _ _ _ h => h) (Or.inl ⟨by rfl, fun _w _hSw => ?hyz13⟩) (by assumption) ?restz13
            case hyz13 =>
              (try dsimp only at _hSw)
              go_simp
              try with_reducible rfl
            try simp only [Act.put, List.setIfInBounds_toArray, List.set_cons_zero, List.set_cons_succ]
            refine takeL (i := 2) rfl (v := ?vz14) (by kernel_rfl) (by kernel_rfl) (by kernel_rfl) (fun _ _ _ h => h) (Or.inl ⟨by rfl, fun _w _hSw => ?hyz14⟩) (by assumption) ?restz14
            case hyz14 =>
              (try dsimp only at _hSw)
              go_simp
              try with_reducible rfl
            try simp only [Act.put, List.setIfInBounds_toArray, List.set_cons_zero, List.set_cons_succ]
            refine takeL (i := 3) rfl (v := ?vz15) (by kernel_rfl) (by kernel_rfl) (by kernel_rfl) (fun _ _ _ h => h) (Or.inl ⟨by rfl, fun _w _hSw => ?hyz15⟩) (by assumption) ?restz15
            case hyz15 =>
              (try dsimp only at _hSw)
              go_simp
              try with_reducible rfl
            try simp only [Act.put, List.setIfInBounds_toArray, List.set_cons_zero, List.set_cons_succ]
            refine takeL (i := 4) rfl (v := ?vz16) (by kernel_rfl) (by kernel_rfl) (by kernel_rfl) (fun _ _ _ h => h) (Or.inl ⟨by rfl, fun _w _hSw => ?hyz16⟩) (by assumption) ?restz16
            case hyz16 =>
              (try dsimp only at _hSw)
              go_simp
              try with_reducible rfl
            try simp only [Act.put, List.setIfInBounds_toArray, List.set_cons_zero, List.set_cons_succ]
            refine takeL (i := 5) rfl (v := ?vz17) (by kernel_rfl) (by kernel_rfl) (by kernel_rfl) (fun _ _ _ h => h) (Or.inl ⟨by rfl, fun _w _hSw => ?hyz17⟩) (by assumption) ?restz17
            case hyz17 =>
              (try dsimp only at _hSw)
              go_simp
              try with_reducible rfl
            try simp only [Act.put, List.setIfInBounds_toArray, List.set_cons_zero, List.set_cons_succ]
            refine takeL (i := 6) rfl (v := ?vz18) (by kernel_rfl) (by kernel_rfl) (by kernel_rfl) (fun _ _ _ h => h) (Or.inl ⟨by rfl, fun _w _hSw => ?hyz18⟩) (by assumption) ?restz18
            case hyz18 =>
              (try dsimp only at _hSw)
              go_simp
              try with_reducible rfl
            try simp only [Act.put, List.setIfInBounds_toArray, List.set_cons_zero, List.set_cons_succ]
            refine takeL (i := 7) rfl (v := undef) (by kernel_rfl) (by kernel_rfl) (by kernel_rfl) (fun _ _ _ h => h) (Or.inr ⟨by rfl, rfl⟩) (by assumption) ?_
            try simp only [Act.put, List.setIfInBounds_toArray, List.set_cons_zero, List.set_cons_succ]
            refine takeL (i := 8) rfl (v := undef) (by kernel_rfl) (by kernel_rfl) (by kernel_rfl) (fun _ _ _ h => h) (Or.inr ⟨by rfl, rfl⟩) (by assumption) ?_
            try simp only [Act.put, List.setIfInBounds_toArray, List.set_cons_zero, List.set_cons_succ]
            refine takeL (i := 9) rfl (v := undef) (by kernel_rfl) (by kernel_rfl) (by kernel_rfl) (fun _ _ _ h => h) (Or.inr ⟨by rfl, rfl⟩) (by assumption) ?_
            try simp only [Act.put, List.setIfInBounds_toArray, List.set_cons_zero, List.set_cons_succ]
            refine takeL (i := 10) rfl (v := undef) (by kernel_rfl) (by kernel_rfl) (by kernel_rfl) (fun _ _ _ h => h) (Or.inr ⟨by rfl, rfl⟩) (by assumption) ?_
            try simp only [Act.put, List.setIfInBounds_toArray, List.set_cons_zero, List.set_cons_succ]
            refine takeL (i := 11) rfl (v := undef) (by kernel_rfl) (by kernel_rfl) (by kernel_rfl) (fun _ _ _ h => h) (Or.inr ⟨by rfl, rfl⟩) (by assumption) ?_
            try simp only [Act.put, List.setIfInBounds_toArray, List.set_cons_zero, List.set_cons_succ]
            refine takeL (i := 12) rfl (v := undef) (by kernel_rfl) (by kernel_rfl) (by kernel_rfl) (fun _ _ _ h => h) (Or.inr ⟨by rfl, rfl⟩) (by assumption) ?_
            try simp only [Act.put, List.setIfInBounds_toArray, List.set_cons_zero, List.set_cons_succ]
            refine takeL (i := 13) rfl (v := undef) (by kernel_rfl) (by kernel_rfl) (by kernel_rfl) (fun _ _ _ h => h) (Or.inr ⟨by rfl, rfl⟩) (by assumption) ?_
            try simp only [Act.put, List.setIfInBounds_toArray, List.set_cons_zero, List.set_cons_succ]
            refine takeL (i := 14) rfl (v := undef) (by kernel_rfl) (by kernel_rfl) (by kernel_rfl) (fun _ _ _ h => h) (Or.inr ⟨by rfl, rfl⟩) (by assumption) ?_
            try simp only [Act.put, List.setIfInBounds_toArray, List.set_cons_zero, List.set_cons_succ]
            refine takeL (i := 15) rfl (v := undef) (by kernel_rfl) (by kernel_rfl) (by kernel_rfl) (fun _ _ _ h => h) (Or.inr ⟨by rfl, rfl⟩) (by assumption) ?_
            try simp only [Act.put, List.setIfInBounds_toArray, List.set_cons_zero, List.set_cons_succ]
            refine takeL (i := 16) rfl (v := undef) (by kernel_rfl) (by kernel_rfl) (by kernel_rfl) (fun _ _ _ h => h) (Or.inr ⟨by rfl, rfl⟩) (by assumption) ?_
            try simp only [Act.put, List.setIfInBounds_toArray, List.set_cons_zero, List.set_cons_succ]
            refine takeL (i := 17) rfl (v := undef) (by kernel_rfl) (by kernel_rfl) (by kernel_rfl) (fun _ _ _ h => h) (Or.inr ⟨by rfl, rfl⟩) (by assumption) ?_
            try simp only [Act.put, List.setIfInBounds_toArray, List.set_cons_zero, List.set_cons_succ]
            refine takeL (i := 18) rfl (v := ?vz19) (by kernel_rfl) (by kernel_rfl) (by kernel_rfl) (fun _ _ _ h => h) (Or.inl ⟨by rfl, fun _w _hSw => ?hyz19⟩) (by assumption) ?restz19
            case hyz19 =>
              (try dsimp only at _hSw)
              go_simp
              try with_reducible rfl
            try simp only [Act.put, List.setIfInBounds_toArray, List.set_cons_zero, List.set_cons_succ]
            refine takeL (i := 19) rfl (v := ?vz20) (by kernel_rfl) (by kernel_rfl) (by kernel_rfl) (fun _ _ _ h => h) (Or.inl ⟨by rfl, fun _w _hSw => ?hyz20⟩) (by assumption) ?restz20
            case hyz20 =>
              (try dsimp only at _hSw)
              go_simp
              try with_reducible rfl
            try simp only [Act.put, List.setIfInBounds_toArray, List.set_cons_zero, List.set_cons_succ]
            refine wpAnyH_done (by kernel_rfl) ?_ _
            clear c0 c1 c2 c3 c4 c5 t2 t3 t4 hHeld
            generalize w2.drew = w3 at HN3 HK3 ⊢
            go_wp2
            go_roundw
            case rel => exact ⟨k + 1, by go_num, by omega, HN3.out, HK3.out⟩
            case measure => simp [intOf] <;> omega
      · obtain rfl : k = n := by omega
        have HRF := HRK.out
        rw [HN.out] at HRF
        have HF := Lib.hid (HFIN.out wr HRF HK.out)
        clear HRF
        go_wp2
        go_end0
        exact HF.out
  · have HMD := Lib.hid (show settleM R now = R from if_pos hs)
    rw [HMD.out]
    have hz : (statusM R != 0) = true := by simpa using hs
    have HFIN := Lib.hid (fun (w' : World) (hb : Below w.heap.size w w') => (show SetPost b g (tvOf tb tf tc R) c J R w (.returned (.tuple #[])) w' from ⟨rfl, HR.out.below hb, keptB_of hgz hb⟩))
    clear h hs hmi hti HMD
    generalize hGP : SetPost b g (tvOf tb tf tc R) c J R w = GP at *
    clear hGP
    generalize statusM R = st at *
    go_enter Tryz.func21, Tryz.ntmps21
    go_wp2_with fail
    refine KS.out.mono ?_
    rintro e w1 ⟨rfl, hb⟩
    have HB := Lib.hid hb
    clear hb KS
    go_wp2
    refine bodyPost_ret (results_none rfl _ _ _) rfl ?_
    exact HFIN.out _ HB.out
end Go.Proofs.YtbbcicengfmhiaaGreatDoor

namespace Go.Proofs.YtbbcicengfmhiaaGreatDoor
set_option maxRecDepth 100000
open Go.RowKit

theorem one_encP {ts : List PartV} (h : ∀ j, j < ts.length → ∃ p n c, ts[j]!.vs = .slice p n c) : ∀ u ∈ flat encPart ts, u.oneCell' = true := by
  intro u hu
  simp only [flat, List.mem_flatMap] at hu
  obtain ⟨t, ht, hx⟩ := hu
  obtain ⟨j, hj, rfl⟩ := List.getElem_of_mem ht
  obtain ⟨p, n, c, hs⟩ := h j hj
  rw [getElem!_pos ts j hj] at hs
  simp only [encPart, encTry, List.cons_append, List.nil_append, List.mem_cons, List.not_mem_nil, or_false] at hx
  rcases hx with rfl | rfl | rfl | rfl | rfl | rfl | rfl | rfl | rfl <;> first | rfl | (rw [hs]; rfl)
/-- the tasks' row copied -/
def CloneP (ts : List PartV) (w : World) (e : Ending) (w' : World) : Prop := ∃ q cap J, e = .returned (.slice (some ⟨q, 0, none⟩) ts.length cap) ∧ w.heap.size ≤ q ∧ BlkIs w' q (flat encPart ts ++ J) 109 ∧ ts.length ≤ cap ∧ Below w.heap.size w w'
set_option maxHeartbeats 2000000 in
theorem cloneParts (b off c : Nat) (ts : List PartV) (w : World) (hc : ∀ j, j < ts.length → ∀ i u, (encPart ts[j]!)[i]? = some u → w.cell? ⟨b, off + j * 9 + i, none⟩ = some u) (hvs : ∀ j, j < ts.length → ∃ p n c, ts[j]!.vs = .slice p n c) (hbig : ts.length ≤ 1000) (hpos : 0 < ts.length) : Calls Tryz.prog 65 #[.slice (some ⟨b, off, none⟩) ts.length c] w (CloneP ts w) := by
  have hone := one_encP (ts := ts) hvs
  have q71 : ∀ (w : World) (a : Option Addr) (n c n' c' : Nat), (binOp .eql 94 (.slice a n c) (.slice none n' c')).run Tryz.prog w = .ok (.bool a.isNone) w := fun w a n c n' c' => Lib.run_eql_slice_nil w _ _ a n c n' c' Tryz.underlying94
  obtain ⟨i0, z, hi, hz0, hz1, hz2, hzs⟩ := info_partR
  have HI := Lib.hid hi
  have HZ := Lib.hid hz0
  have HC := Lib.hid (SlAt.flat_cells (enc := encPart) (by decide) encPart_len hc)
  have HO := Lib.hid hone
  have HFIN := Lib.hid (fun (q cap : Nat) (J : List Value) (w' : World) (h1 : w.heap.size ≤ q) (h2 : BlkIs w' q (flat encPart ts ++ J) 109) (h3 : ts.length ≤ cap) (h4 : Below w.heap.size w w') => (show CloneP ts w (.returned (.slice (some ⟨q, 0, none⟩) ts.length cap)) w' from ⟨q, cap, J, rfl, h1, h2, h3, h4⟩))
  clear hi hz0 hc hone
  have hlen : (flat encPart ts).length = ts.length * 9 := flat_length (enc := encPart) encPart_len ts
  go_enter Tryz.func65, Tryz.ntmps65
  go_wp2_with (at_builtin; refine wpList_append_own _ rfl _ _ 94 rfl w.heap.size 109 i0 z 9 _ Tryz.underlying94 HI.out HZ.out hz1 rfl hzs (by decide) _ _ _ rfl (World.ownsRow_made w #[] 0 (Nat.le_refl _) (Nat.zero_le _) (by simp)) ⟨b, off, none⟩ ts.length c (flat encPart ts) rfl ?qc1 ?qc2 ?qc3 ?qc4 ?qc5 ?qc6 ?_)
  case qc1 => exact hlen
  case qc2 =>
    intro j u hj
    rw [Go.WideShapes.add_plain]
    exact Lib.cell?_alloc_some _ (HC.out j u hj)
  case qc3 => exact HO.out
  case qc4 => rw [Nat.zero_add]; unfold maxLen; omega
  case qc5 => have := Nat.mul_le_mul (show 0 + ts.length ≤ 1000 by omega) hz2; omega
  case qc6 => simp
  intro v' w1 hown hgrow hnil
  have HB := Lib.hid (((Below.refl _ w).alloc (Nat.le_refl _) (.cells #[] 109)).grown hgrow (by simp) (by intro k hk; simp [Value.ownBlock] at hk; omega))
  rcases hown.2 with ⟨_, h0⟩ | ⟨q, cap, cur, rfl, hB, hg, h1, h2, h3, h4⟩
  · omega
  · have HQ := Lib.hid (show BlkIs w1 q (flat encPart ts ++ cur.toList.drop (ts.length * 9)) 109 from by
      show w1.heap[q]? = _
      rw [← h4, List.take_append_drop, Array.toArray_toList]
      exact hg)
    have HCAP := Lib.hid h1
    have HQB := Lib.hid hB
    clear hown hgrow hnil hg h1 h2 h3 h4 hB
    go_wp2
    go_ret
    exact HFIN.out q cap _ w1 HQB.out HQ.out HCAP.out HB.out
theorem RunAt.keptG {TR TP : TypeId} {b g g2 : Nat} {tv : Value} {c : Nat} {J : List Value} {R : RunM} {w w' : World} (h : RunAt TR TP b g tv c J R w) (hk : KeptB g2 w w') (n1 : b ≠ g2) (n2 : g ≠ g2) (n3 : tv.ownBlock ≠ some g2) (n4 : ∀ j, j < R.ts.length → R.ts[j]!.sl.ownBlock ≠ some g2) (n5 : ∀ j, j < R.ps.length → R.ps[j]!.vs.ownBlock ≠ some g2) : RunAt TR TP b g tv c J R w' :=
  ⟨h.blk.of (hk.2.1 b h.blk.lt n1), h.row.of (hk.2.1 g h.row.lt n2), h.ne, ⟨h.tasks.1.keptB hk n3, fun j hj => (h.tasks.2 j hj).keptB hk (n4 j hj)⟩, h.apT, h.apS, fun j hj => ⟨(h.votes j hj).1.keptB hk (n5 j hj), (h.votes j hj).2⟩, h.len⟩
/-- what Copy gives -/
def CopyPost (R : RunM) (tb tf tc : Nat) (w : World) (e : Ending) (w' : World) : Prop := ∃ b2 g2 c2 J2, e = .returned (.pointer (some ⟨b2, 0, none⟩)) ∧ RAt b2 g2 (tvOf tb tf tc R) c2 J2 R w' ∧ Below w.heap.size w w' ∧ w.heap.size ≤ b2 ∧ w.heap.size ≤ g2
set_option maxHeartbeats 4000000 in
theorem runCopy (b g tb tf tc c : Nat) (J : List Value) (R : RunM) (w : World) (h : RAt b g (tvOf tb tf tc R) c J R w) (hn : R.ps.length ≤ 1000) (hpos : 0 < R.ps.length)
    (hsl : ∀ j, j < R.ts.length → ∀ q, R.ts[j]!.sl.ownBlock = some q → q < w.heap.size) (hvs : ∀ j, j < R.ps.length → ∀ q, R.ps[j]!.vs.ownBlock = some q → q < w.heap.size) :
    Calls Tryz.prog 25 #[.pointer (some ⟨b, 0, none⟩)] w (CopyPost R tb tf tc w) := by
  have htl : tb < w.heap.size := by
    obtain ⟨p', c', hv, _, hc⟩ := (show TasksAt w (.slice (some ⟨tb, tf, none⟩) R.ts.length tc) R.ts from h.tasks).1
    obtain ⟨q, off, hp, hlt, _⟩ := hc (by rw [h.len]; exact hpos)
    injection hv with e1 e2 e3
    rw [hp] at e1
    injection e1 with e1
    injection e1 with e1
    omega
  have hx := BlkIs.alloc w [.string R.nm, tvOf tb tf tc R, .slice (some ⟨g, 0, none⟩) R.ps.length c, .bool R.over] 96
  have hb := below1 w (.cells #[.string R.nm, tvOf tb tf tc R, .slice (some ⟨g, 0, none⟩) R.ps.length c, .bool R.over] 96)
  have h1 := h.below hb
  have KC := Lib.hid (cloneParts g 0 c R.ps (w.alloc (.cells #[.string R.nm, tvOf tb tf tc R, .slice (some ⟨g, 0, none⟩) R.ps.length c, .bool R.over] 96))
    (fun j hj i u hu => by
      rw [Nat.zero_add]
      exact flat_at encPart_len h1.row hj (by have := (List.getElem?_eq_some_iff.1 hu).1; rw [encPart_len] at this; exact this) hu) (fun j hj => h.vsl hj) hn hpos)
  have HX := Lib.hid hx
  have HB := Lib.hid hb
  have HH := Lib.hid h
  have HSL := Lib.hid hsl
  have HVS := Lib.hid hvs
  obtain ⟨d0, d1, d2, d3⟩ := h.head
  obtain ⟨e0, e1, e2, e3⟩ := h1.head
  have hgz := h.row.lt
  have hbz := h.blk.lt
  unfold tvOf at d1 e1 HX HB KC
  generalize hGP : CopyPost R tb tf tc w = GP at *
  have HGP := Lib.hid hGP
  clear hGP h h1 hx hb hsl hvs
  go_enter Tryz.func25, Tryz.ntmps25
  go_wp2_with fail
  generalize hw1 : w.alloc (.cells #[.string R.nm, .slice (some ⟨tb, tf, none⟩) R.ts.length tc, .slice (some ⟨g, 0, none⟩) R.ps.length c, .bool R.over] 96) = w1 at *
  have hz1 : w1.heap.size = w.heap.size + 1 := by rw [← hw1]; exact Array.size_push _
  clear hw1
  refine KC.out.mono ?_
  rintro e w2 hp
  obtain ⟨g2, c2, J2, rfl, q1, q2, q3, q4⟩ := hp
  have hx2 := HX.out.below q4
  have f2 := hx2.cell 2
  have z2 := hx2.frozen 2
  simp only [List.getElem?_cons_succ, List.getElem?_cons_zero] at f2
  have hg2 : g2 ≠ w.heap.size := by omega
  have hk2 : KeptG w.heap.size w2 (w2.setCell ⟨w.heap.size, 2, none⟩ (.slice (some ⟨g2, 0, none⟩) R.ps.length c2)) := KeptG.set w.heap.size 2 w2 _
  have hbw2 : Below w.heap.size w w2 := HB.out.trans (q4.mono (by omega))
  have h2 := HH.out.below hbw2
  have HR := Lib.hid (show RAt w.heap.size g2 (tvOf tb tf tc R) c2 J2 R (w2.setCell ⟨w.heap.size, 2, none⟩ (.slice (some ⟨g2, 0, none⟩) R.ps.length c2)) from by
    refine ⟨?_, hk2.blk q2 hg2, by omega, ⟨h2.tasks.1.keptG hk2 ?_, fun j hj => (h2.tasks.2 j hj).keptG hk2 (fun e => ?_)⟩, ⟨?_, ?_⟩, fun j hj => ⟨fun e => ?_, fun e => ?_⟩, fun j hj => ⟨(h2.votes j hj).1.keptG hk2 (fun e => ?_), fun e => ?_, fun e => ?_⟩, h2.len⟩
    · have := hx2.set (o := 2) (.slice (some ⟨g2, 0, none⟩) R.ps.length c2)
      exact this
    · unfold tvOf; simp only [Value.ownBlock, ne_eq, Option.some.injEq]; omega
    · have := HSL.out j hj _ e; omega
    · unfold tvOf; simp only [Value.ownBlock, ne_eq, Option.some.injEq]; omega
    · unfold tvOf; simp only [Value.ownBlock, ne_eq, Option.some.injEq]; omega
    · have := HSL.out j hj _ e; omega
    · have := HSL.out j hj _ e; omega
    · have := HVS.out j hj _ e; omega
    · have := HVS.out j hj _ e; omega
    · have := HVS.out j hj _ e; omega)
  have HBF := Lib.hid (show Below w.heap.size w (w2.setCell ⟨w.heap.size, 2, none⟩ (.slice (some ⟨g2, 0, none⟩) R.ps.length c2)) from hbw2.trans (hk2.1 _ (Nat.le_refl _)))
  have HG2 := Lib.hid (show w.heap.size ≤ g2 from by omega)
  clear h2 hk2 hbw2 q1 q2 q3 q4 hx2 hg2
  go_wp2
  rw [← HGP.out]
  exact ⟨_, g2, c2, J2, rfl, HR.out, HBF.out, Nat.le_refl _, HG2.out⟩
end Go.Proofs.YtbbcicengfmhiaaGreatDoor

namespace Go.Proofs.YtbbcicengfmhiaaGreatDoor
set_option maxRecDepth 100000
open Go.RowKit

/-- a try's numbers, m times missed at most -/
def TI (m : Int) (t : TryV) : Prop := (0 ≤ t.missed ∧ t.missed ≤ m) ∧ (0 ≤ t.since ∧ t.since ≤ 30000) ∧ (0 ≤ t.til ∧ t.til ≤ 30000) ∧ okI t.st ∧ okI t.wk ∧ okI t.ls
theorem okI_in {n : Int} (h0 : -1000000 ≤ n) (h1 : n ≤ 1000000) : okI n := ⟨by omega, by omega⟩
theorem TI.more {m m' : Int} {t : TryV} (h : TI m t) (hm : m ≤ m') : TI m' t := by
  obtain ⟨⟨a1, a2⟩, r⟩ := h
  exact ⟨⟨a1, Int.le_trans a2 hm⟩, r⟩
theorem zB : (0 : Int) ≤ 0 ∧ (0 : Int) ≤ 30000 := ⟨by decide, by decide⟩
theorem TI_open {m now : Int} {t : TryV} (h : TI m t) (h0 : 0 ≤ now) (h1 : now ≤ 20000) : TI m (openT t now) := by
  unfold openT
  split
  · obtain ⟨a, b, c, d, e, f⟩ := h
    exact ⟨a, ⟨h0, by show now ≤ 30000; omega⟩, c, okI_in (by show (-1000000 : Int) ≤ 1; decide) (by show (1 : Int) ≤ 1000000; decide), e, f⟩
  · exact h
theorem okI_lit {n : Int} (h : (decide (-1000000 ≤ n) && decide (n ≤ 1000000)) = true) : okI n := by
  simp only [Bool.and_eq_true, decide_eq_true_eq] at h
  exact okI_in h.1 h.2
theorem TI_miss {m at_ r : Int} {t : TryV} (h : TI m t) (hm : m ≤ 1000) (h0 : 0 ≤ at_) (h1 : at_ ≤ 20000) : TI (m + 1) (missT t at_ r) := by
  obtain ⟨a, b, c, d, e, f⟩ := h
  unfold missT
  split
  · exact ⟨⟨a.1, by omega⟩, b, c, d, e, f⟩
  · split
    · exact ⟨⟨by show 0 ≤ t.missed + 1; omega, by show t.missed + 1 ≤ m + 1; omega⟩, zB, zB, okI_lit rfl, okI_lit rfl, okI_lit rfl⟩
    · exact ⟨⟨by show 0 ≤ t.missed + 1; omega, by show t.missed + 1 ≤ m + 1; omega⟩, ⟨by show 0 ≤ at_ + (t.missed + 1); omega, by show at_ + (t.missed + 1) ≤ 30000; omega⟩, zB, okI_lit rfl, okI_lit rfl, okI_lit rfl⟩
theorem TI_settle {m now r : Int} {t : TryV} (h : TI m t) (hm : m ≤ 1000) (h1 : now ≤ 20000) : TI (m + 1) (settleT t now r) := by
  unfold settleT
  split
  · rename_i hc
    exact TI_miss h hm h.2.2.1.1 (by omega)
  · exact h.more (by omega)
theorem TI_take {m now wk n time : Int} {t : TryV} (h : TI m t) (h0 : 0 ≤ now) (h1 : now ≤ 20000) (hw : okI wk) (hn : okI n) (ht : 0 ≤ time ∧ time ≤ 100) (hr : (takeT t now wk n time).2 = 0) : TI m (takeT t now wk n time).1 := by
  obtain ⟨a, b, c, d, e, f⟩ := h
  unfold takeT at hr ⊢
  split
  · rename_i hc
    rw [if_pos hc] at hr
    cases hr
  · exact ⟨a, zB, ⟨by show 0 ≤ now + time; omega, by show now + time ≤ 30000; omega⟩, okI_lit rfl, hw, hn⟩
theorem TI_done {m : Int} {t : TryV} (h : TI m t) : TI m (doneT t) := by
  unfold doneT
  split
  · exact ⟨h.1, zB, zB, okI_lit rfl, okI_lit rfl, okI_lit rfl⟩
  · exact h
/-- a run as the law has it -/
structure TmI (m : Int) (nm : ByteArray) (us : List TaskV) (R : RunM) : Prop where
  nm : R.nm = nm
  ts : R.ts = us
  len : R.ps.length = us.length
  pt : ∀ j, j < R.ps.length → TI m R.ps[j]!.try_ ∧ R.ps[j]!.out.size ≤ 32 ∧ R.ps[j]!.yes = [] ∧ R.ps[j]!.vs = .slice none 0 0
theorem TmI.more {m m' : Int} {nm : ByteArray} {us : List TaskV} {R : RunM} (h : TmI m nm us R) (hm : m ≤ m') : TmI m' nm us R :=
  ⟨h.nm, h.ts, h.len, fun j hj => ⟨(h.pt j hj).1.more hm, (h.pt j hj).2⟩⟩
theorem TmI.set {m m' : Int} {nm : ByteArray} {us : List TaskV} {R : RunM} (h : TmI m nm us R) (hm : m ≤ m') (k : Nat) (p : PartV) (hp : TI m' p.try_ ∧ p.out.size ≤ 32 ∧ p.yes = [] ∧ p.vs = .slice none 0 0) : TmI m' nm us { R with ps := R.ps.set k p } := by
  refine ⟨h.nm, h.ts, by simpa using h.len, fun j hj => ?_⟩
  have hj' : j < R.ps.length := by simpa using hj
  show TI m' (R.ps.set k p)[j]!.try_ ∧ (R.ps.set k p)[j]!.out.size ≤ 32 ∧ (R.ps.set k p)[j]!.yes = [] ∧ (R.ps.set k p)[j]!.vs = .slice none 0 0
  rw [setP_at p hj']
  split
  · exact hp
  · exact ⟨(h.pt j hj').1.more hm, (h.pt j hj').2⟩
theorem TmI.putT {m m' : Int} {nm : ByteArray} {us : List TaskV} {R : RunM} (h : TmI m nm us R) (hm : m ≤ m') {k : Nat} (hk : k < R.ps.length) {t : TryV} (ht : TI m' t) : TmI m' nm us (putT R k t) := h.set hm k _ ⟨ht, (h.pt k hk).2⟩
theorem TmI.adv {m now : Int} {nm : ByteArray} {us : List TaskV} {R : RunM} (h : TmI m nm us R) (h0 : 0 ≤ now) (h1 : now ≤ 20000) : TmI m nm us (advanceM R now) := by
  have key : ∀ k, k ≤ R.ps.length → TmI m nm us { R with ps := advP R.ts now k R.ps } := by
    intro k
    induction k with
    | zero => exact fun _ => h
    | succ k ih =>
      intro hk
      have h2 := ih (by omega)
      have hl := advP_len R.ts now R.ps k
      unfold advP
      dsimp only
      split
      · exact h2
      · exact h2.set (Int.le_refl _) k _ ⟨TI_open (h2.pt k (by show k < (advP R.ts now k R.ps).length; omega)).1 h0 h1, (h2.pt k (by show k < (advP R.ts now k R.ps).length; omega)).2⟩
  exact key _ (Nat.le_refl _)
theorem TmI.new {nm : ByteArray} {us : List TaskV} : TmI 0 nm us (newR nm us) := by
  refine ⟨rfl, rfl, by simp [newR], fun j hj => ?_⟩
  have hd : (newR nm us).ps[j]! = default := by
    rw [getElem!_pos _ j hj]
    exact List.getElem_replicate _
  rw [hd]
  exact ⟨⟨⟨by decide, by decide⟩, zB, zB, okI_lit rfl, okI_lit rfl, okI_lit rfl⟩, Nat.zero_le _, rfl, rfl⟩
theorem TmI.take {m now i wk n : Int} {nm : ByteArray} {us : List TaskV} {R : RunM} (h : TmI m nm us R) (h0 : 0 ≤ now) (h1 : now ≤ 20000) (hw : okI wk) (hn : okI n) (ht : ∀ j, j < us.length → 0 ≤ us[j]!.time ∧ us[j]!.time ≤ 100) : TmI m nm us (takeM R i now wk n).1 := by
  unfold takeM
  split
  · rename_i he
    obtain ⟨k, rfl, hk, _⟩ := findE_in he
    rw [Int.toNat_natCast]
    split
    · rename_i hr
      exact h.putT (Int.le_refl _) hk (TI_take (h.pt k hk).1 h0 h1 hw hn (by rw [h.ts]; exact ht k (by rw [← h.len]; exact hk)) hr)
    · exact h
  · exact h
theorem TmI.miss {m now i : Int} {nm : ByteArray} {us : List TaskV} {R : RunM} (h : TmI m nm us R) (hm : m ≤ 1000) (h0 : 0 ≤ now) (h1 : now ≤ 20000) : TmI (m + 1) nm us (missM R i now).1 := by
  unfold missM
  split
  · rename_i he
    obtain ⟨k, rfl, hk, _⟩ := stE_in he
    rw [Int.toNat_natCast]
    exact h.putT (by omega) hk (TI_miss (h.pt k hk).1 hm h0 h1)
  · exact h.more (by omega)
theorem TmI.complete {m now i : Int} {o : ByteArray} {nm : ByteArray} {us : List TaskV} {R : RunM} (h : TmI m nm us R) (h0 : 0 ≤ now) (h1 : now ≤ 20000) : TmI m nm us (completeM R i now o).1 := by
  unfold completeM
  split
  · rename_i he
    obtain ⟨k, rfl, hk, _⟩ := stE_in he
    rw [Int.toNat_natCast]
    split
    · exact h
    · rename_i ho
      have h2 := h.putT (Int.le_refl _) hk (TI_done (h.pt k hk).1)
      have hk2 : k < (Go.Proofs.YtbbcicengfmhiaaGreatDoor.putT R k (doneT R.ps[k]!.try_)).ps.length := by
        show k < (R.ps.set k _).length
        simpa using hk
      exact (h2.set (Int.le_refl _) k { (Go.Proofs.YtbbcicengfmhiaaGreatDoor.putT R k (doneT R.ps[k]!.try_)).ps[k]! with out := o } ⟨(h2.pt k hk2).1, by show o.size ≤ 32; omega, (h2.pt k hk2).2.2⟩).adv h0 h1
  · exact h
theorem TmI.settle {m now : Int} {nm : ByteArray} {us : List TaskV} {R : RunM} (h : TmI m nm us R) (hm : m ≤ 1000) (h1 : now ≤ 20000) : TmI (m + 1) nm us (settleM R now) := by
  unfold settleM
  split
  · exact h.more (by omega)
  · refine ⟨h.nm, h.ts, by show (settleK R.ts now R.ps R.ps.length).length = _; rw [settleK_len]; exact h.len, fun j hj => ?_⟩
    have hj' : j < R.ps.length := by
      have : j < (settleK R.ts now R.ps R.ps.length).length := hj
      rwa [settleK_len] at this
    show TI (m + 1) (settleK R.ts now R.ps R.ps.length)[j]!.try_ ∧ _
    rw [settleK_at _ _ _ hj', if_pos hj']
    obtain ⟨p1, p2⟩ := h.pt j hj'
    unfold settleP
    split
    · exact ⟨TI_settle p1 hm h1, p2⟩
    · split
      · exact ⟨⟨⟨p1.1.1, by show R.ps[j]!.try_.missed ≤ m + 1; have := p1.1.2; omega⟩, zB, zB, okI_lit rfl, okI_lit rfl, okI_lit rfl⟩, p2⟩
      · exact ⟨p1.more (by omega), p2⟩
theorem settleM_ts (R : RunM) (now : Int) : (settleM R now).ts = R.ts := by
  unfold settleM
  split <;> rfl
theorem flat_le {α : Type} (f : α → List UInt8) (c : Nat) : ∀ (xs : List α), (∀ x ∈ xs, (f x).length ≤ c) → (xs.flatMap f).length ≤ xs.length * c
  | [], _ => by simp
  | x :: xs, h => by
    rw [List.flatMap_cons, List.length_append, List.length_cons, Nat.add_mul, Nat.one_mul]
    have h1 := h x (by simp)
    have h2 := flat_le f c xs (fun y hy => h y (by simp [hy]))
    omega
theorem numsL_le (xs : List Int) (h : ∀ x ∈ xs, okI x) : (numsL xs).length ≤ xs.length * 22 := flat_le numL 22 xs (fun x hx => numL_len (h x hx))
/-- tasks that may be run: their numbers -/
theorem pipe_nums {nm : ByteArray} {ts : List TaskV} (h : pipeB nm ts = true) {j : Nat} (hj : j < ts.length) : ts[j]!.nm.size ≤ 8 ∧ (0 ≤ ts[j]!.retry ∧ ts[j]!.retry ≤ 5) ∧ (0 ≤ ts[j]!.time ∧ ts[j]!.time ≤ 100) ∧ (0 ≤ ts[j]!.need ∧ ts[j]!.need ≤ 4) := by
  have ht := pipeB_task h hj
  unfold taskB restB withinB nameB at ht
  simp only [Bool.and_eq_true, decide_eq_true_eq] at ht
  obtain ⟨_, ⟨⟨_, _, h1⟩, ⟨h2, h3⟩, ⟨h4, h5⟩, ⟨h6, h7⟩⟩, _⟩ := ht
  exact ⟨h1, ⟨h6, h7⟩, ⟨by omega, h3⟩, ⟨h4, h5⟩⟩
theorem pipe_lb {nm : ByteArray} {ts : List TaskV} (h : pipeB nm ts = true) {j : Nat} (hj : j < ts.length) : 0 ≤ ts[j]!.lv ∧ ts[j]!.lv ≤ 7 := by
  have ht := pipeB_task h hj
  unfold taskB restB at ht
  simp only [Bool.and_eq_true] at ht
  have h2 := ht.2.2
  split at h2
  · simp only [Bool.and_eq_true, decide_eq_true_eq] at h2
    exact h2.2
  · simp only [Bool.and_eq_true, beq_iff_eq] at h2
    omega
theorem textL_le (s : List UInt8) (h : s.length ≤ 1000000) : (textL s).length ≤ s.length + 22 := by
  unfold textL
  rw [List.length_append]
  have := numL_len (okI_in (n := (s.length : Int)) (by omega) (by omega))
  omega
/-- its text may be written -/
theorem TmI.text {m : Int} {nm : ByteArray} {us : List TaskV} {R : RunM} (h : TmI m nm us R) (hm : m ≤ 100000) (hp : pipeB nm us = true) (hset : ∀ j, j < us.length → us[j]!.set < 65536) : okW R ∧ (runW R).length + 100000 ≤ 140737488355328 := by
  have hl := pipeB_len hp
  have hR := h.len
  have sm : ∀ x : Int, 0 ≤ x → x ≤ 1000000 → okI x := fun x a b => okI_in (by omega) b
  have hw : okW R := by
    refine ⟨by rw [h.ts]; omega, fun j hj => ?_, fun j hj => ?_⟩
    · rw [h.ts] at hj ⊢
      obtain ⟨_, h2, h3, h4⟩ := pipe_nums hp hj
      have h5 := pipe_lb hp hj
      have h6 := pipeB_afterLen hp hj
      exact ⟨by omega, fun k hk => by have := pipeB_after hp hj hk; exact sm _ this.1 (by omega), sm _ h2.1 (by omega), sm _ h3.1 (by omega), sm _ h4.1 (by omega), sm _ h5.1 (by omega), hset j hj⟩
    · obtain ⟨⟨h1, h2, h3, h4, h5, h6⟩, _, h8, _⟩ := h.pt j hj
      rw [h8]
      exact ⟨⟨h4, sm _ h2.1 (by omega), sm _ h1.1 (by omega), h5, h6, sm _ h3.1 (by omega)⟩, by simp, fun k hk => absurd hk (by simp)⟩
  refine ⟨hw, ?_⟩
  have hnm : R.nm.size ≤ 8 := by
    rw [h.nm]
    unfold pipeB nameB at hp
    simp only [Bool.and_eq_true, decide_eq_true_eq] at hp
    exact hp.1.1.2.2
  have b0 : (textL R.nm.data.toList).length ≤ 30 := by
    have hz : R.nm.data.toList.length = R.nm.size := by simp
    have := textL_le R.nm.data.toList (by omega)
    omega
  have b1 : (numL (R.ps.length : Int)).length ≤ 22 := numL_len (sm _ (by omega) (by omega))
  have b2 : (R.ts.flatMap taskW).length ≤ R.ts.length * 1000 := flat_le taskW 1000 R.ts (fun t ht => by
    obtain ⟨j, hj, rfl⟩ := List.getElem_of_mem ht
    have hj2 : j < us.length := by rw [← h.ts]; exact hj
    have e : R.ts[j] = us[j]! := by rw [← getElem!_pos R.ts j hj, h.ts]
    rw [e]
    obtain ⟨g1, g2, g3, g4⟩ := pipe_nums hp hj2
    have g5 := pipe_lb hp hj2
    have g6 := pipeB_afterLen hp hj2
    have g7 := hset j hj2
    have hz : us[j]!.nm.data.toList.length = us[j]!.nm.size := by simp
    have q1 := textL_le us[j]!.nm.data.toList (by omega)
    have q2 := numL_len (sm (us[j]!.after.length : Int) (by omega) (by omega))
    have q3 := numsL_le us[j]!.after (fun x hx => by
      obtain ⟨k, hk, rfl⟩ := List.getElem_of_mem hx
      have := pipeB_after hp hj2 hk
      rw [getElem!_pos _ k hk] at this
      exact sm _ this.1 (by omega))
    have q4 := numsL_le [us[j]!.retry, us[j]!.time, us[j]!.need] (fun x hx => by
      simp only [List.mem_cons, List.not_mem_nil, or_false] at hx
      rcases hx with rfl | rfl | rfl
      · exact sm _ g2.1 (by omega)
      · exact sm _ g3.1 (by omega)
      · exact sm _ g4.1 (by omega))
    have q5 := numsL_le [us[j]!.lv, (us[j]!.set : Int)] (fun x hx => by
      simp only [List.mem_cons, List.not_mem_nil, or_false] at hx
      rcases hx with rfl | rfl
      · exact sm _ g5.1 (by omega)
      · exact sm _ (by omega) (by omega))
    unfold taskW
    simp only [List.length_append]
    simp only [List.length_cons, List.length_nil] at q4 q5
    omega)
  have b3 : (R.ps.flatMap partW).length ≤ R.ps.length * 1000 := flat_le partW 1000 R.ps (fun p hpm => by
    obtain ⟨j, hj, rfl⟩ := List.getElem_of_mem hpm
    have e : R.ps[j] = R.ps[j]! := by rw [getElem!_pos R.ps j hj]
    rw [e]
    obtain ⟨⟨h1, h2, h3, h4, h5, h6⟩, h7, h8, _⟩ := h.pt j hj
    have hz : R.ps[j]!.out.data.toList.length = R.ps[j]!.out.size := by simp
    have q1 := textL_le R.ps[j]!.out.data.toList (by omega)
    have q2 := numsL_le [R.ps[j]!.try_.st, R.ps[j]!.try_.since, R.ps[j]!.try_.missed, R.ps[j]!.try_.wk, R.ps[j]!.try_.ls, R.ps[j]!.try_.til] (fun x hx => by
      simp only [List.mem_cons, List.not_mem_nil, or_false] at hx
      rcases hx with rfl | rfl | rfl | rfl | rfl | rfl
      · exact h4
      · exact sm _ h2.1 (by omega)
      · exact sm _ h1.1 (by omega)
      · exact h5
      · exact h6
      · exact sm _ h3.1 (by omega))
    have q3 : (gateL R.ps[j]!.yes R.ps[j]!.no).length ≤ 44 := by
      rw [h8]
      unfold gateL
      have a1 := numL_len (sm 0 (by decide) (by decide))
      have a2 := numL_len (show okI (fl01 R.ps[j]!.no) from by cases R.ps[j]!.no <;> exact okI_lit rfl)
      simp only [List.length_append, List.length_nil, numsL, List.flatMap_nil]
      have a1' : (numL ((0 : Nat) : Int)).length ≤ 22 := a1
      omega
    unfold partW
    simp only [List.length_append]
    simp only [List.length_cons, List.length_nil] at q2
    omega)
  have b4 : (numL (fl01 R.over)).length ≤ 22 := numL_len (by cases R.over <;> exact okI_lit rfl)
  have hl2 : R.ts.length ≤ 8 := by rw [h.ts]; exact hl.2
  unfold runW
  simp only [List.length_append]
  omega
end Go.Proofs.YtbbcicengfmhiaaGreatDoor

/- lockagelaw13.few. Conditions: a slice of calls. -/
import Derived.Test.YtbbcicengfmhiaaGreatDoorOpR
import Derived.Test.YtbbcicengfmhiaaGreatDoorM14
namespace Go.Proofs.YtbbcicengfmhiaaGreatDoor
set_option maxRecDepth 100000
open Go.RowKit

theorem encR_len (o : OpR) : (encR o).length = 6 := rfl
/-- a call that may be played -/
def fewO (o : OpR) : Prop := o.s.size ≤ 100 ∧ (0 ≤ o.now ∧ o.now ≤ 10000) ∧ (0 ≤ o.b ∧ o.b ≤ 10000) ∧ (0 ≤ o.c ∧ o.c ≤ 10000)
def FewPost (os : List OpR) (w : World) (e : Ending) (w' : World) : Prop := Below w.heap.size w w' ∧ ∃ q : Bool, e = .returned (.bool q) ∧ (q = true → os.length ≤ 150 ∧ ∀ j, j < os.length → fewO os[j]!)
theorem opAt {w : World} {v : Value} {os : List OpR} (h : SlAt 6 encR w v os) {j : Nat} (hj : j < os.length) : ∃ sb so sc, v = .slice (some ⟨sb, so, none⟩) os.length sc ∧ sb < w.heap.size := by
  obtain ⟨p, c, rfl, _, hc⟩ := h
  obtain ⟨b, off, rfl, hlt, _⟩ := hc (by omega)
  exact ⟨b, off, c, rfl, hlt⟩
theorem opCells {w : World} {sb so n sc : Nat} {os : List OpR} (h : SlAt 6 encR w (.slice (some ⟨sb, so, none⟩) n sc) os) {j : Nat} (hj : j < os.length) :
    w.cell? ⟨sb, so + j * 6, none⟩ = some (.int .i64 os[j]!.kind) ∧ w.cell? ⟨sb, so + j * 6 + 1, none⟩ = some (.int .i64 os[j]!.now) ∧ w.cell? ⟨sb, so + j * 6 + 2, none⟩ = some (.int .i64 os[j]!.a) ∧ w.cell? ⟨sb, so + j * 6 + 3, none⟩ = some (.int .i64 os[j]!.b) ∧ w.cell? ⟨sb, so + j * 6 + 4, none⟩ = some (.int .i64 os[j]!.c) ∧ w.cell? ⟨sb, so + j * 6 + 5, none⟩ = some (.string os[j]!.s) := by
  obtain ⟨p, c, hv, _, hc⟩ := h
  obtain ⟨b, off, rfl, hlt, hx⟩ := hc (by omega)
  injection hv with e1 e2 e3
  injection e1 with e1
  injection e1 with e1 e4
  subst e1 e4
  exact ⟨hx j hj 0 _ rfl, hx j hj 1 _ rfl, hx j hj 2 _ rfl, hx j hj 3 _ rfl, hx j hj 4 _ rfl, hx j hj 5 _ rfl⟩
set_option maxHeartbeats 4000000 in
theorem fewC (v : Value) (os : List OpR) (w : World) (h : SlAt 6 encR w v os) (hm : os.length ≤ maxLen) : Calls Tryz.prog 19 #[v] w (FewPost os w) := by
  have HS := Lib.hid h
  have HF := Lib.hid (fun (w' : World) (q : Bool) (h1 : Below w.heap.size w w') (h2 : q = true → os.length ≤ 150 ∧ ∀ j, j < os.length → fewO os[j]!) => (show FewPost os w (.returned (.bool q)) w' from ⟨h1, q, rfl, h2⟩))
  obtain ⟨p, c, rfl, _⟩ := h
  unfold maxLen at hm
  generalize hGP : FewPost os w = GP at *
  clear hGP
  obtain ⟨n, hn⟩ : ∃ n, n = os.length := ⟨_, rfl⟩
  rw [← hn] at hm HS HF
  have HN := Lib.hid hn
  rw [← hn]
  clear hn
  go_enter Tryz.func19, Tryz.ntmps19
  go_wp2_with fail
  go_loopw [4, 7] (fun _ s7 wr => ∃ k : Nat, s7 = .int .i64 k ∧ k ≤ n ∧ Below w.heap.size w wr ∧ ∀ j, j < k → fewO os[j]!) (fun _ s7 _ => n - (intOf s7).toNat)
  case atStart => exact ⟨0, by go_num, by omega, Below.refl _ _, fun j hj => absurd hj (by omega)⟩
  case round =>
    obtain ⟨k, rfl, hk, hb, hall⟩ := hrel
    have HB := Lib.hid hb
    have HA := Lib.hid hall
    clear hb hall
    by_cases hlt : k < n
    · have hltz : (k : Int) < (n : Int) := by omega
      have hkl : k < os.length := by rw [← HN.out]; exact hlt
      obtain ⟨sb, so, sc, hv, _⟩ := opAt HS.out hkl
      injection hv with e1 e2 e3
      subst e1
      clear e2 e3
      obtain ⟨x0, x1, x2, x3, x4, x5⟩ := opCells (HS.out.below HB.out) hkl
      have HNX := Lib.hid (fun (h : fewO os[k]!) j (hj : j < k + 1) => (show fewO os[j]! from by
        by_cases e : j = k
        · rw [e]; exact h
        · exact HA.out j (by omega)))
      generalize os[k]! = op at *
      obtain ⟨kd, nw, a, b, cc, s⟩ := op
      dsimp only at x0 x1 x2 x3 x4 x5
      have HB2 := Lib.hid (HB.out.trans ((below1 wr (.cells #[.int .i64 kd, .int .i64 nw, .int .i64 a, .int .i64 b, .int .i64 cc, .string s] 53)).mono HB.out.size))
      by_cases t0 : 100 < s.size
      · have z0 : (100 : Int) < (s.size : Int) := by omega
        go_wp2
        exact HF.out _ _ HB2.out (fun h => nomatch h)
      · have z0 : ¬ (100 : Int) < (s.size : Int) := by omega
        by_cases t1 : nw < 0
        · go_wp2
          exact HF.out _ _ HB2.out (fun h => nomatch h)
        · skip
          by_cases t2 : 10000 < nw
          · go_wp2
            exact HF.out _ _ HB2.out (fun h => nomatch h)
          · skip
            by_cases t3 : b < 0
            · go_wp2
              exact HF.out _ _ HB2.out (fun h => nomatch h)
            · skip
              by_cases t4 : 10000 < b
              · go_wp2
                exact HF.out _ _ HB2.out (fun h => nomatch h)
              · skip
                by_cases t5 : cc < 0
                · go_wp2
                  exact HF.out _ _ HB2.out (fun h => nomatch h)
                · skip
                  by_cases t6 : 10000 < cc
                  · go_wp2
                    exact HF.out _ _ HB2.out (fun h => nomatch h)
                  · skip
                    have HFE := Lib.hid (HNX.out ⟨by show s.size ≤ 100; omega, ⟨by show 0 ≤ nw; omega, by show nw ≤ 10000; omega⟩, ⟨by show 0 ≤ b; omega, by show b ≤ 10000; omega⟩, ⟨by show 0 ≤ cc; omega, by show cc ≤ 10000; omega⟩⟩)
                    go_wp2
                    go_roundw
                    case rel => exact ⟨k + 1, by go_num, by omega, HB2.out, HFE.out⟩
                    case measure => simp [intOf] <;> omega
    · have hkn : n = k := by omega
      subst hkn
      by_cases h150 : n ≤ 150
      · have hz : (n : Int) ≤ 150 := by omega
        have HY := Lib.hid (show True → n ≤ 150 ∧ ∀ j, j < n → fewO os[j]! from fun _ => ⟨h150, HA.out⟩)
        go_wp2
        exact HF.out _ _ HB.out (fun _ => HY.out trivial)
      · have hz : ¬ (n : Int) ≤ 150 := by omega
        go_wp2
        exact HF.out _ _ HB.out (fun h => nomatch h)
end Go.Proofs.YtbbcicengfmhiaaGreatDoor

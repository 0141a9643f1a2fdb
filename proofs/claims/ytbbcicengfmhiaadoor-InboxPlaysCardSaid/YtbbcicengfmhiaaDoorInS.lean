/- The library's stable sort at few releases. Conditions: fewer than twenty. -/
import Derived.Test.YtbbcicengfmhiaaDoorInC
import Derived.Test.YtbbcicengfmhiaaDoorInD
import Derived.RegionTactic
import Derived.ChangeAlike
import Derived.BigRegion
namespace Go.Proofs.YtbbcicengfmhiaaDoor
set_option maxRecDepth 100000
open Go.RowKit

set_option maxHeartbeats 4000000 in
theorem insSortR (B q cap n : Nat) (l : List Rel) (J : List Value) (w : World) (hB : B ≤ w.heap.size) (hBq : B ≤ q) (hrow : RowR q l J w) (hn : l.length = n) (hbig : n ≤ 1000) :
    Calls Tryd.prog 155 #[.slice (some ⟨q, 0, none⟩) n cap, .int .i64 0, .int .i64 (n : Int), .func (.func 96) #[] #[]] w fun e w' => e = .returned (.tuple #[]) ∧ RowR q (sortP l n) J w' ∧ Below B w w' := by
  have HROW := Lib.hid hrow
  have HBB := Lib.hid hB
  have HN := Lib.hid hn
  clear hrow hB hn
  go_enter Tryd.func155, Tryd.ntmps155
  go_wp2
  go_loopw [8, 9] (fun s8 _ wr => ∃ i : Nat, s8 = .int .i64 i ∧ 1 ≤ i ∧ (i ≤ n ∨ n = 0 ∧ i = 1) ∧ RowR q (sortP l i ++ l.drop i) J wr ∧ SortR (sortP l i) ∧ Below B w wr) (fun s8 _ _ => n - (intOf s8).toNat)
  case atStart =>
    refine ⟨1, by go_num, Nat.le_refl _, by omega, ?_, ?_, Below.refl _ _⟩
    · by_cases h0 : 0 < l.length
      · rw [sortP_one h0]
        have := drop_cons h0
        rw [List.drop_zero] at this
        show RowR q (l[0]! :: l.drop 1) J w
        rw [← this]
        exact HROW.out
      · have : l = [] := List.eq_nil_of_length_eq_zero (by omega)
        subst this
        exact HROW.out
    · by_cases h0 : 0 < l.length
      · rw [sortP_one h0]; exact SortR.one _
      · have : l = [] := List.eq_nil_of_length_eq_zero (by omega)
        subst this
        exact SortR.nil
  case round =>
    obtain ⟨i, rfl, h1i, hin, hR, hS, hBw⟩ := hrel
    have HR := Lib.hid hR
    have HS := Lib.hid hS
    have HBW := Lib.hid hBw
    clear hR hS hBw
    obtain ⟨wo, rfl⟩ : ∃ wo : World, wo = wr := ⟨_, rfl⟩
    by_cases hlt : i < n
    · have hltz : (i : Int) < (n : Int) := by omega
      have hPl := sortP_len l i (by have := HN.out; omega)
      obtain ⟨P, hP⟩ : ∃ P, P = sortP l i := ⟨_, rfl⟩
      obtain ⟨x, hx⟩ : ∃ x : Rel, x = l[i]! := ⟨_, rfl⟩
      rw [← hP] at hPl
      have HR0 := Lib.hid (show RowR q (insAt x P i ++ l.drop (i + 1)) J wo by
        have e : insAt x P i ++ l.drop (i + 1) = sortP l i ++ l.drop i := by
          rw [← hPl, insAt_end, hPl, drop_cons (l := l) (k := i) (by have := HN.out; omega), hP, ← hx]
          simp
        rw [e]
        exact HR.out)
      have HPL := Lib.hid hPl
      have HXI := Lib.hid hx
      have HPI := Lib.hid hP
      rw [← hP] at HS
      clear hPl hP hx HR
      go_wp2
      go_loopw [9] (fun s9 wr => ∃ j : Nat, s9 = .int .i64 j ∧ j ≤ i ∧ RowR q (insAt x P j ++ l.drop (i + 1)) J wr ∧ (∀ k, j ≤ k → k < i → lessR x P[k]! = true) ∧ Below B w wr) (fun s9 _ => (intOf s9).toNat)
      case atStart => exact ⟨i, rfl, Nat.le_refl _, HR0.out, fun k h1 h2 => by omega, HBW.out⟩
      case round =>
        obtain ⟨j, rfl, hji, hR, hL, hBw⟩ := hrel
        have HR := Lib.hid hR
        have HL := Lib.hid hL
        have HBW := Lib.hid hBw
        clear hR hL hBw
        cases j with
        | zero =>
          have HNX := Lib.hid (insAt_insR HS.out (x := x) (j := 0) (Nat.zero_le _) (fun k h1 h2 => HL.out k h1 (by have := HPL.out; omega)) (.inl rfl))
          go_wp2_with fail
          go_quiet (fail)
          go_wp2
          go_roundw
          case rel =>
            refine ⟨i + 1, by go_num, by omega, .inl (by omega), ?_, ?_, belowN HBW.out _⟩
            · rw [sortP_succ (by have := HN.out; omega), ← HXI.out, ← HPI.out, HNX.out.1]
              exact HR.out.below (belowN (Below.refl _ _) _)
            · rw [sortP_succ (by have := HN.out; omega), ← HXI.out, ← HPI.out]
              exact HNX.out.2
          case measure => simp [intOf] <;> omega
        | succ m =>
          obtain ⟨y, hy⟩ : ∃ y : Rel, y = P[m]! := ⟨_, rfl⟩
          have hlA := insAt_len x P (m + 1) (by have := HPL.out; omega)
          have hlT : (insAt x P (m + 1) ++ l.drop (i + 1)).length = n := by rw [List.length_append, hlA, List.length_drop, HPL.out, HN.out]; omega
          have gx : (insAt x P (m + 1) ++ l.drop (i + 1))[m + 1]! = x := by
            rw [getElem!_pos _ _ (by omega), List.getElem_append_left (by have := HPL.out; omega), ← getElem!_pos _ _ (by have := HPL.out; omega), insAt_get _ _ _ _ (by have := HPL.out; omega) (by have := HPL.out; omega), if_neg (by omega), if_pos rfl]
          have gy : (insAt x P (m + 1) ++ l.drop (i + 1))[m]! = y := by
            rw [getElem!_pos _ _ (by omega), List.getElem_append_left (by have := HPL.out; omega), ← getElem!_pos _ _ (by have := HPL.out; omega), insAt_get _ _ _ _ (by have := HPL.out; omega) (by have := HPL.out; omega), if_pos (by omega), ← hy]
          have HSW := Lib.hid (show ((insAt x P (m + 1) ++ l.drop (i + 1)).set (m + 1) y).set m x = insAt x P m ++ l.drop (i + 1) by
            rw [List.set_comm _ _ (by omega), hy]
            exact insAt_swap x P (l.drop (i + 1)) (m + 1) (by omega) (by have := HPL.out; omega))
          have HLT := Lib.hid hlT
          have HY := Lib.hid hy
          obtain ⟨x1, x2, x3, x4, xs⟩ := x
          obtain ⟨y1, y2, y3, y4, ys⟩ := y
          have x0c := HR.out.cell (i := m + 1) (j := 0) (by omega) (by omega) (u := .int .i64 x1) (by rw [gx]; rfl)
          have x1c := HR.out.cell (i := m + 1) (j := 1) (by omega) (by omega) (u := .int .i64 x2) (by rw [gx]; rfl)
          have x2c := HR.out.cell (i := m + 1) (j := 2) (by omega) (by omega) (u := .int .i64 x3) (by rw [gx]; rfl)
          have x3c := HR.out.cell (i := m + 1) (j := 3) (by omega) (by omega) (u := .int .i64 x4) (by rw [gx]; rfl)
          have x4c := HR.out.cell (i := m + 1) (j := 4) (by omega) (by omega) (u := .string xs) (by rw [gx]; rfl)
          have y0c := HR.out.cell (i := m) (j := 0) (by omega) (by omega) (u := .int .i64 y1) (by rw [gy]; rfl)
          have y1c := HR.out.cell (i := m) (j := 1) (by omega) (by omega) (u := .int .i64 y2) (by rw [gy]; rfl)
          have y2c := HR.out.cell (i := m) (j := 2) (by omega) (by omega) (u := .int .i64 y3) (by rw [gy]; rfl)
          have y3c := HR.out.cell (i := m) (j := 3) (by omega) (by omega) (u := .int .i64 y4) (by rw [gy]; rfl)
          have y4c := HR.out.cell (i := m) (j := 4) (by omega) (by omega) (u := .string ys) (by rw [gy]; rfl)
          rw [Nat.add_zero] at x0c y0c
          have hqz := HR.out.lt
          have hmn : m + 1 < n := by omega
          have hw1 : IntKind.i64.wrap ((m : Int) + 1 - 1) = (m : Int) := by rw [Int.add_sub_cancel]; exact IntWalk.i64_in _ (by omega)
          have hw0 : IntKind.i64.wrap (m : Int) = (m : Int) := IntWalk.i64_in _ (by omega)
          have hi1 : (0 : Int) ≤ (m : Int) + 1 := by omega
          have hi2 : (m : Int) + 1 < (n : Int) := by omega
          have hi3 : ((m : Int) + 1).toNat = m + 1 := by omega
          have hi4 : (0 : Int) ≤ (m : Int) := by omega
          have hi5 : (m : Int) < (n : Int) := by omega
          have HC := Lib.hid (fun W => cmpRel (x1, x2, x3, x4, xs) (y1, y2, y3, y4, ys) W)
          simp only [encR] at HC
          generalize hcr : cmpR (x1, x2, x3, x4, xs) (y1, y2, y3, y4, ys) = cr at HC
          have hle : decide (cr < 0) = lessR (x1, x2, x3, x4, xs) (y1, y2, y3, y4, ys) := by rw [← hcr, cmpR_less]
          have HLE := Lib.hid hle
          clear hle hcr gx gy hy hlA hlT
          go_wp2_with fail
          go_region_held3 (fun w' => (∀ b o, b < (wr).heap.size → w'.cell? ⟨b, o, none⟩ = (wr).cell? ⟨b, o, none⟩) ∧ Below (wr).heap.size (wr) w') (first | exact stay0 _ | exact stay ‹_› ‹_›) ((go_at_call 96; (with_reducible refine (HC.out _).mono ?_); rintro e w' ⟨rfl, hb⟩))
          have hbw : Below wr.heap.size wr w' := (Below.refl _ _).drew.trans hb
          have HR2 := Lib.hid (HR.out.below hbw)
          have HB2 := Lib.hid (HBW.out.trans (hbw.mono (Nat.le_trans HBB.out HBW.out.size)))
          have hck : ∀ o, w'.cell? ⟨q, o, none⟩ = wr.cell? ⟨q, o, none⟩ := fun o => hbw.cell (p := ⟨q, o, none⟩) hqz
          have x0d := (hck _).trans x0c
          have x1d := (hck _).trans x1c
          have x2d := (hck _).trans x2c
          have x3d := (hck _).trans x3c
          have x4d := (hck _).trans x4c
          have y0d := (hck _).trans y0c
          have y1d := (hck _).trans y1c
          have y2d := (hck _).trans y2c
          have y3d := (hck _).trans y3c
          have y4d := (hck _).trans y4c
          clear hck x0c x1c x2c x3c x4c y0c y1c y2c y3c y4c hbw hb
          generalize hdl : decide (cr < 0) = dl at HLE ⊢
          clear hdl
          cases dl with
          | false =>
            have HNX := Lib.hid (insAt_insR HS.out (x := (x1, x2, x3, x4, xs)) (j := m + 1) (by have := HPL.out; omega) (fun k h1 h2 => HL.out k h1 (by have := HPL.out; omega)) (.inr (by rw [Nat.add_sub_cancel, ← HY.out]; exact HLE.out.symm)))
            go_wp2
            go_roundw
            case rel =>
              refine ⟨i + 1, by go_num, by omega, .inl (by omega), ?_, ?_, HB2.out⟩
              · rw [sortP_succ (by have := HN.out; omega), ← HXI.out, ← HPI.out, HNX.out.1]
                exact HR2.out
              · rw [sortP_succ (by have := HN.out; omega), ← HXI.out, ← HPI.out]
                exact HNX.out.2
            case measure => simp [intOf] <;> omega
          | true =>
            have hfr : ∀ o, w'.frozen? ⟨q, o, none⟩ = false := fun o => BlkIs.frozen HR2.out o
            obtain ⟨fx0, fx1, fx2, fx3, fx4⟩ : w'.frozen? ⟨q, (m + 1) * 5, none⟩ = false ∧ w'.frozen? ⟨q, (m + 1) * 5 + 1, none⟩ = false ∧ w'.frozen? ⟨q, (m + 1) * 5 + 1 + 1, none⟩ = false ∧ w'.frozen? ⟨q, (m + 1) * 5 + 1 + 1 + 1, none⟩ = false ∧ w'.frozen? ⟨q, (m + 1) * 5 + 1 + 1 + 1 + 1, none⟩ = false := ⟨hfr _, hfr _, hfr _, hfr _, hfr _⟩
            obtain ⟨fy0, fy1, fy2, fy3, fy4⟩ : w'.frozen? ⟨q, m * 5, none⟩ = false ∧ w'.frozen? ⟨q, m * 5 + 1, none⟩ = false ∧ w'.frozen? ⟨q, m * 5 + 1 + 1, none⟩ = false ∧ w'.frozen? ⟨q, m * 5 + 1 + 1 + 1, none⟩ = false ∧ w'.frozen? ⟨q, m * 5 + 1 + 1 + 1 + 1, none⟩ = false := ⟨hfr _, hfr _, hfr _, hfr _, hfr _⟩
            clear hfr
            rename (∀ (b o : Nat), b < wr.heap.size → _) ∧ _ => hh
            clear hh
            go_wp2_with fail
            go_region
            have HRX := Lib.hid (((HR2.out.set (i := m + 1) (by have := HLT.out; omega) (y1, y2, y3, y4, ys)).set (i := m) (by rw [List.length_set]; have := HLT.out; omega) (x1, x2, x3, x4, xs)).below ((Below.refl _ _).drew))
            have HBX := Lib.hid ((below_set5 (o := m * 5) (below_set5 (o := (m + 1) * 5) HB2.out hBq (.int .i64 y1) (.int .i64 y2) (.int .i64 y3) (.int .i64 y4) (.string ys)) hBq (.int .i64 x1) (.int .i64 x2) (.int .i64 x3) (.int .i64 x4) (.string xs)).drew)
            rw [HSW.out] at HRX
            go_wp2
            go_roundw
            case rel =>
              refine ⟨m, by go_num, by omega, HRX.out, fun k h1 h2 => ?_, HBX.out⟩
              by_cases e : k = m
              · rw [e, ← HY.out]; exact HLE.out.symm
              · exact HL.out k (by omega) h2
            case measure => simp [intOf] <;> omega
    · obtain ⟨hin1, hin2⟩ : ¬ ((i : Int) < (n : Int)) ∧ sortP l i ++ l.drop i = sortP l n := by
        refine ⟨by omega, ?_⟩
        rcases hin with h | ⟨h1, h2⟩
        · obtain rfl : i = n := by omega
          rw [← HN.out, List.drop_length, List.append_nil]
        · subst h2
          have : l = [] := List.eq_nil_of_length_eq_zero (by have := HN.out; omega)
          subst this
          simp [sortP]
      have HE := Lib.hid hin2
      clear hin2
      go_wp2
      go_end0
      rw [← HE.out]
      exact ⟨rfl, HR.out, HBW.out⟩
theorem stableR (B q cap n : Nat) (l : List Rel) (J : List Value) (w : World) (hB : B ≤ w.heap.size) (hBq : B ≤ q) (hrow : RowR q l J w) (hn : l.length = n) (hbig : n < 20) :
    Calls Tryd.prog 134 #[.slice (some ⟨q, 0, none⟩) n cap, .int .i64 (n : Int), .func (.func 96) #[] #[]] w fun e w' => e = .returned (.tuple #[]) ∧ RowR q (sortP l n) J w' ∧ Below B w w' := by
  have K := Lib.hid (insSortR B q cap n l J w hB hBq hrow hn (by omega))
  clear hn hrow
  have h1 : ¬ ((20 : Int) ≤ (n : Int)) := by omega
  have h2 : ¬ ((20 : Int) < (n : Int)) := by omega
  go_enter Tryd.func134, Tryd.ntmps134
  go_wp2
  go_loopw [7, 8] (fun s7 s8 wr => s7 = .int .i64 0 ∧ s8 = .int .i64 20 ∧ w = wr) (fun _ _ _ => 0)
  case atStart => exact ⟨rfl, rfl, rfl⟩
  case round =>
    obtain ⟨rfl, rfl, rfl⟩ := hrel
    go_wp2_with fail
    refine K.out.mono ?_
    rintro e w1 ⟨rfl, hr, hb⟩
    have HR := Lib.hid hr
    have HB := Lib.hid hb
    clear hr hb
    go_wp2
    go_loopw [6] (fun s6 wr => s6 = .int .i64 20 ∧ w1 = wr) (fun _ _ => 0)
    case atStart => exact ⟨rfl, rfl⟩
    case round =>
      obtain ⟨rfl, rfl⟩ := hrel
      go_wp2
      go_end0
      exact ⟨rfl, HR.out, HB.out⟩
theorem sortNil (w : World) : Calls Tryd.prog 95 #[.slice none 0 0, .func (.func 96) #[] #[]] w fun e w' => e = .returned (.tuple #[]) ∧ w = w' := by
  have K1 : Calls Tryd.prog 155 #[.slice none 0 0, .int .i64 0, .int .i64 0, .func (.func 96) #[] #[]] w fun e w' => e = .returned (.tuple #[]) ∧ w = w' := by
    go_enter Tryd.func155, Tryd.ntmps155
    go_wp2
    go_loopw [8, 9] (fun s8 _ wr => s8 = .int .i64 1 ∧ w = wr) (fun _ _ _ => 0)
    case atStart => exact ⟨rfl, rfl⟩
    case round =>
      obtain ⟨rfl, rfl⟩ := hrel
      go_wp2
      go_end0
      exact ⟨rfl, rfl⟩
  have K1 := Lib.hid K1
  have K2 : Calls Tryd.prog 134 #[.slice none 0 0, .int .i64 0, .func (.func 96) #[] #[]] w fun e w' => e = .returned (.tuple #[]) ∧ w = w' := by
    go_enter Tryd.func134, Tryd.ntmps134
    go_wp2
    go_loopw [7, 8] (fun s7 s8 wr => s7 = .int .i64 0 ∧ s8 = .int .i64 20 ∧ w = wr) (fun _ _ _ => 0)
    case atStart => exact ⟨rfl, rfl, rfl⟩
    case round =>
      obtain ⟨rfl, rfl, rfl⟩ := hrel
      go_wp2_with fail
      refine K1.out.mono ?_
      rintro e w1 ⟨rfl, rfl⟩
      go_wp2
      go_loopw [6] (fun s6 wr => s6 = .int .i64 20 ∧ w = wr) (fun _ _ => 0)
      case atStart => exact ⟨rfl, rfl⟩
      case round =>
        obtain ⟨rfl, rfl⟩ := hrel
        go_wp2
        go_end0
        exact ⟨rfl, rfl⟩
  have K2 := Lib.hid K2
  go_enter Tryd.func95, Tryd.ntmps95
  go_wp2_with fail
  refine K2.out.mono ?_
  rintro e w1 ⟨rfl, rfl⟩
  go_wp2
  go_end0
  exact ⟨rfl, rfl⟩
theorem sortR (B : Nat) (v : Value) (l : List Rel) (w : World) (hB : B ≤ w.heap.size) (hown : w.ownsRow B 75 5 v l.length (l.flatMap encR)) (hbig : l.length < 20) :
    Calls Tryd.prog 95 #[v, .func (.func 96) #[] #[]] w fun e w' => e = .returned (.tuple #[]) ∧ w'.ownsRow B 75 5 v (sortP l l.length).length ((sortP l l.length).flatMap encR) ∧ Below B w w' := by
  rcases RowR.of_owns hown with ⟨rfl, rfl⟩ | ⟨q, cap, J, rfl, hBq, hrow, hcap, hmax, hlen⟩
  · refine (sortNil w).mono ?_
    rintro e w1 ⟨rfl, rfl⟩
    exact ⟨rfl, ⟨rfl, .inl ⟨rfl, rfl⟩⟩, Below.refl _ _⟩
  · have K := Lib.hid (stableR B q cap l.length l J w hB hBq hrow rfl hbig)
    have HQ := Lib.hid (fun (w1 : World) (hr : RowR q (sortP l l.length) J w1) => hr.owns (ys := sortP l l.length) (n := l.length) (cap := cap) (B := B) hBq (by rw [sortP_len _ _ (Nat.le_refl _)]) (by rw [List.take_of_length_le (by rw [sortP_len _ _ (Nat.le_refl _)]; exact Nat.le_refl _)]) (by rw [sortP_len _ _ (Nat.le_refl _)]; exact Nat.le_refl _) (by rw [sortP_len _ _ (Nat.le_refl _)]; exact hcap) hmax (by
      have h2 := flat_length (enc := encR) encR_len l
      have h3 := flat_length (enc := encR) encR_len (sortP l l.length)
      unfold flat at h2 h3
      rw [List.length_append] at hlen ⊢
      rw [h3, sortP_len _ _ (Nat.le_refl _), ← h2]
      exact hlen))
    clear hown hrow hcap hmax hlen
    generalize l.length = n at *
    generalize sortP l n = s at *
    go_enter Tryd.func95, Tryd.ntmps95
    go_wp2_with fail
    refine K.out.mono ?_
    rintro e w1 ⟨rfl, hr, hb⟩
    have HR := Lib.hid hr
    have HB := Lib.hid hb
    clear hr hb
    go_wp2
    go_end0
    exact ⟨rfl, HQ.out _ HR.out, HB.out⟩
end Go.Proofs.YtbbcicengfmhiaaDoor

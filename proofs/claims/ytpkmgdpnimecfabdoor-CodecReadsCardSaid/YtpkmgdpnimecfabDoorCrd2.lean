/- The document's reader: a number. Condition: the text's size. -/
import Derived.Test.YtpkmgdpnimecfabDoorCrd1
import Derived.Deep.DeepCutAuto
namespace Go.Proofs.YtpkmgdpnimecfabDoor
open Go.RowKit

theorem IntPost.bad {b : Nat} {s : List UInt8} {lo hi : Int} {w w' : World} (hr : RdAt b s true w') (hk : KeptB b w w') : IntPost b s true lo hi w (.returned (.int .i64 0)) w' := ⟨rfl, hr, hk⟩
set_option maxRecDepth 100000 in
set_option maxHeartbeats 16000000 in
theorem refInt (b : Nat) (s : List UInt8) (bad : Bool) (lo hi : Int) (w : World) (h : RdAt b s bad w) (hs : s.length ≤ 8388607) :
    Calls Tryd.prog 49 #[.pointer (some ⟨b, 0, none⟩), .int .i64 lo, .int .i64 hi] w (IntPost b s bad lo hi w) := by
  have HR := Lib.hid h
  obtain ⟨hbz, ⟨c0, c1⟩, f0, f1⟩ := h
  obtain ⟨t, ht⟩ : ∃ t : ByteArray, t = ⟨s.toArray⟩ := ⟨_, rfl⟩
  have hts : t.size = s.length := by rw [ht]; rfl
  have HI := Lib.hid (show ∀ k (h : k < t.size), (t[k]'h) = s[k]! from fun k h => by
    subst ht
    rw [getElem!_pos s k h]
    rfl)
  have HE := Lib.hid (fun k (hk : k ≤ s.length) => show t.extract 0 k = ⟨(s.take k).toArray⟩ by
    rw [ht]
    apply ByteArray.ext
    simp)
  have HE2 := Lib.hid (fun k => show t.extract k t.size = ⟨(s.drop k).toArray⟩ by
    rw [ht]
    apply ByteArray.ext
    simp [ByteArray.size]
    exact List.take_of_length_le (by simp))
  rw [← ht] at c0
  clear ht
  go_enter Tryd.func49, Tryd.ntmps49
  go_wp2
  go_loop [8] (fun v => ∃ k : Nat, k ≤ s.length ∧ k ≤ 21 ∧ v = .int .i64 k ∧ Hid (∀ j, j < k → s[j]! ≠ 44)) (fun v => 21 - (intOf v).toNat)
  case atStart => exact ⟨0, by omega, by omega, rfl, Lib.hid (fun j hj => absurd hj (by omega))⟩
  case round =>
    obtain ⟨k, hks, hk21, rfl, HA⟩ := hrel
    by_cases hk1 : k < s.length
    · have hk1z : (k : Int) < (t.size : Int) := by omega
      have ix := HI.out k (by omega)
      obtain ⟨ck, hck⟩ : ∃ ck, ck = s[k]! := ⟨_, rfl⟩
      rw [← hck] at ix
      have HCK := Lib.hid hck
      clear hck
      by_cases hc : ck = 44
      · have hcn : (ck.toNat : Int) = 44 := by rw [hc]; rfl
        by_cases h21 : k < 21
        · have h21z : (k : Int) < 21 := by omega
          cases bad with
          | true =>
            go_wp2
            go_ret
            exact IntPost.bad HR.out.setBad (KeptB.set 1 _)
          | false =>
            obtain ⟨L, hL⟩ : ∃ L, L = s.take k := ⟨_, rfl⟩
            have hLl : L.length = k := by rw [hL, List.length_take]; omega
            have hLg : ∀ j, j < k → L[j]! = s[j]! := fun j hj => by
              rw [hL, getElem!_pos _ j (by rw [List.length_take]; omega), getElem!_pos s j (by omega)]
              simp
            have HSP := Lib.hid (show s = L ++ 44 :: s.drop (k + 1) by
              have := List.drop_eq_getElem_cons (l := s) (i := k) hk1
              have h2 : s[k] = 44 := by have := HCK.out; rw [hc, getElem!_pos s k hk1] at this; exact this.symm
              rw [h2] at this
              rw [hL, ← this, List.take_append_drop])
            have HL44 := Lib.hid (show ∀ c ∈ L, c ≠ 44 from fun c hcc => by
              obtain ⟨j, hj, rfl⟩ := List.getElem_of_mem hcc
              have := HA.out j (by omega)
              rw [← hLg j (by omega), getElem!_pos L j hj] at this
              exact this)
            obtain ⟨u, hu⟩ : ∃ u : ByteArray, u = ⟨L.toArray⟩ := ⟨_, rfl⟩
            have hus : u.size = k := by rw [hu, ← hLl]; rfl
            have hex : t.extract 0 k = u := by rw [hu, hL]; exact HE.out k (by omega)
            have HU := Lib.hid (show ∀ j (h : j < u.size), (u[j]'h) = L[j]! from fun j h => by
              subst hu
              rw [getElem!_pos L j h]
              rfl)
            have hS2 : ∀ W, (Op.stringOp .add u ⟨#[44]⟩).run Tryd.prog W = .ok (.string ⟨(L ++ [44]).toArray⟩) W := fun W => by
              rw [hu]
              exact run_string_add_lists W L [44] (by omega) (by simp)
            have HS2 := Lib.hid hS2
            have HLl := Lib.hid hLl
            have HN0 := Lib.hid (fun hn => ref_none (lo := lo) (hi := hi) HSP.out HL44.out hn)
            have HN1 := Lib.hid (fun hb hn => ref_min (lo := lo) (hi := hi) HSP.out HL44.out hb hn)
            have HN2 := Lib.hid (fun (n N : Int) hn hN ho => ref_some (lo := lo) (hi := hi) (n := n) (N := N) HSP.out HL44.out hn hN ho)
            have HCm := Lib.hid (fun (N : Int) => show ((⟨(numL N).toArray⟩ : ByteArray).toList == (⟨(L ++ [44]).toArray⟩ : ByteArray).toList) = decide (Lib.itoa N = L) by
              by_cases e : Lib.itoa N = L
              · rw [decide_eq_true e, ← e]; simp [numL]
              · rw [decide_eq_false e]
                simp [numL]
                exact e)
            clear hL hLg hLl hu hS2
            have hB0 := Lib.hid (show k = 0 → isB L = false from fun e => by
              have := HLl.out
              have : L = [] := List.eq_nil_of_length_eq_zero (by omega)
              rw [this]; rfl)
            have hB1 := Lib.hid (show 0 < k → isB L = decide (L[0]!.toNat = 45) from fun e => by
              have := HLl.out
              match L, this with
              | [], h => simp at h; omega
              | c :: l, _ => rfl)
            have HT0 := Lib.hid (show accN (if isB L = true ∧ 0 = 0 then L.drop 1 else L.drop 0) 0 = accN (bodyOf L) 0 by
              unfold bodyOf
              cases isB L <;> simp)
            have HBo := Lib.hid (show accN (bodyOf L) 0 = accN (bodyOf L) 0 from rfl)
            generalize hTOT : accN (bodyOf L) 0 = TOT at HN0 HN1 HN2 HT0
            clear hTOT HBo
            have i0 := HU.out
            generalize isB L = B at HN1 HN2 HT0 hB0 hB1
            go_upto_region 9 with fail
            go_cut [10] (fun s10 wx => s10 = .bool B ∧ wx = w)
            case first =>
              by_cases hk0 : k = 0
              · have e := hB0.out hk0
                subst hk0
                subst e
                clear i0
                go_wp2_with fail
                go_meet
                case rel => exact ⟨rfl, rfl⟩
              · have hkp : (0 : Int) < (k : Int) := by omega
                have e := hB1.out (by omega)
                have i1 := i0 0 (by omega)
                clear i0
                generalize L[0]! = cc at e i1
                by_cases h45 : cc.toNat = 45
                · have h45z : (cc.toNat : Int) = 45 := by omega
                  rw [decide_eq_true h45] at e
                  subst e
                  go_wp2_with fail
                  go_meet
                  case rel => exact ⟨by first | rfl | (simp; omega), rfl⟩
                · have h45z : ¬ (cc.toNat : Int) = 45 := by omega
                  rw [decide_eq_false h45] at e
                  subst e
                  go_wp2_with fail
                  go_meet
                  case rel => exact ⟨by first | rfl | (simp; omega), rfl⟩
            case rest =>
              obtain ⟨rfl, rfl⟩ := hcut
              clear i0
              go_wp2
              go_loop [7, 11] (fun vn vi => ∃ (j : Nat) (n : Int), j ≤ k ∧ vi = .int .i64 j ∧ vn = .int .i64 n ∧ -9223372036854775808 ≤ n ∧ n ≤ 0 ∧ Hid (accN (if B = true ∧ j = 0 then L.drop 1 else L.drop j) n = TOT)) (fun _ vi => k - (intOf vi).toNat)
              case atStart => exact ⟨0, 0, by omega, rfl, rfl, by omega, by omega, Lib.hid (by simpa using HT0.out)⟩
              case round =>
                obtain ⟨j, n, hjk, rfl, rfl, hn0, hn1, HT⟩ := hrel
                by_cases hj : j < k
                · have hjz : (j : Int) < (k : Int) := by omega
                  by_cases hB : B = true ∧ j = 0
                  · obtain ⟨rfl, rfl⟩ := hB
                    have HT2 : Hid (accN (if true = true ∧ 0 + 1 = 0 then L.drop 1 else L.drop (0 + 1)) n = TOT) := Lib.hid (by have := HT.out; rwa [if_pos ⟨rfl, rfl⟩] at this)
                    go_wp2
                    go_round
                    case rel => exact ⟨0 + 1, n, by omega, by go_num, rfl, hn0, hn1, HT2⟩
                    case measure => simp [intOf] <;> omega
                  · rcases Nat.eq_zero_or_pos j with rfl | hjp
                    · have hBf : B = false := by
                        cases B with
                        | false => rfl
                        | true => exact absurd ⟨rfl, rfl⟩ hB
                      subst hBf
                      have hdr : L.drop 0 = L[0]! :: L.drop (0 + 1) := by
                        have := HLl.out
                        rw [getElem!_pos L 0 (by omega)]
                        exact List.drop_eq_getElem_cons (by omega)
                      have hT := HT.out
                      rw [if_neg hB, hdr] at hT
                      have ix2 := HU.out 0 (by omega)
                      have hnx : (if false = true ∧ 0 + 1 = 0 then L.drop 1 else L.drop (0 + 1)) = L.drop (0 + 1) := if_neg (by omega)
                      clear hdr HT
                      generalize L[0]! = e at hT ix2
                      have he8 : e.toNat < 256 := e.toNat_lt
                      unfold accN at hT
                      by_cases e1 : e.toNat < 48 ∨ 57 < e.toNat ∨ n < -922337203685477580
                      · rw [if_pos e1] at hT
                        have HNo := Lib.hid (HN0.out hT.symm)
                        clear hT
                        rcases e1 with e1 | e1 | e1
                        · have z1 : (e.toNat : Int) < 48 := by omega
                          go_wp2
                          go_ret
                          exact IntPost.none HNo.out HR.out.setBad (KeptB.set 1 _)
                        · have z0 : ¬ (e.toNat : Int) < 48 := by omega
                          have z1 : (57 : Int) < (e.toNat : Int) := by omega
                          go_wp2
                          go_ret
                          exact IntPost.none HNo.out HR.out.setBad (KeptB.set 1 _)
                        · by_cases z0 : (e.toNat : Int) < 48
                          · go_wp2
                            go_ret
                            exact IntPost.none HNo.out HR.out.setBad (KeptB.set 1 _)
                          · by_cases z1 : (57 : Int) < (e.toNat : Int)
                            · go_wp2
                              go_ret
                              exact IntPost.none HNo.out HR.out.setBad (KeptB.set 1 _)
                            · go_wp2
                              go_ret
                              exact IntPost.none HNo.out HR.out.setBad (KeptB.set 1 _)
                      · rw [if_neg e1] at hT
                        have z0 : ¬ (e.toNat : Int) < 48 := by omega
                        have z1 : ¬ (57 : Int) < (e.toNat : Int) := by omega
                        have z2 : ¬ n < -922337203685477580 := by omega
                        have z3 : (48 : Int) ≤ (e.toNat : Int) := by omega
                        by_cases e2 : n = -922337203685477580 ∧ 8 < (e.toNat : Int) - 48
                        · rw [if_pos e2] at hT
                          have HNo := Lib.hid (HN0.out hT.symm)
                          clear hT
                          obtain ⟨e2, e3⟩ := e2
                          subst e2
                          go_wp2
                          go_ret
                          exact IntPost.none HNo.out HR.out.setBad (KeptB.set 1 _)
                        · rw [if_neg e2] at hT
                          have HT2 : Hid (accN (if false = true ∧ 0 + 1 = 0 then L.drop 1 else L.drop (0 + 1)) (10 * n - ((e.toNat : Int) - 48)) = TOT) := Lib.hid (by rw [hnx]; exact hT)
                          have y1 : -9223372036854775808 ≤ 10 * n - ((e.toNat : Int) - 48) := by omega
                          have y2 : 10 * n - ((e.toNat : Int) - 48) ≤ 0 := by omega
                          have y3 : -9223372036854775800 ≤ 10 * n := by omega
                          clear hT hnx
                          by_cases e4 : n = -922337203685477580
                          · have e5 : ¬ 8 < (e.toNat : Int) - 48 := fun q => e2 ⟨e4, q⟩
                            clear e2 e1
                            subst e4
                            go_wp2
                            go_round
                            case rel => exact ⟨0 + 1, 10 * (-922337203685477580) - ((e.toNat : Int) - 48), by omega, by go_num, by go_num, y1, y2, HT2⟩
                            case measure => simp [intOf] <;> omega
                          · clear e2 e1
                            go_wp2
                            go_round
                            case rel => exact ⟨0 + 1, 10 * n - ((e.toNat : Int) - 48), by omega, by go_num, by go_num, y1, y2, HT2⟩
                            case measure => simp [intOf] <;> omega
                    · have hj0 : ¬ (j : Int) = 0 := by omega
                      have hdr : L.drop j = L[j]! :: L.drop (j + 1) := by
                        have := HLl.out
                        rw [getElem!_pos L j (by omega)]
                        exact List.drop_eq_getElem_cons (by omega)
                      have hT := HT.out
                      rw [if_neg hB, hdr] at hT
                      have ix2 := HU.out j (by omega)
                      have hnx : (if B = true ∧ j + 1 = 0 then L.drop 1 else L.drop (j + 1)) = L.drop (j + 1) := if_neg (by omega)
                      clear hdr HT
                      generalize L[j]! = e at hT ix2
                      have he8 : e.toNat < 256 := e.toNat_lt
                      unfold accN at hT
                      by_cases e1 : e.toNat < 48 ∨ 57 < e.toNat ∨ n < -922337203685477580
                      · rw [if_pos e1] at hT
                        have HNo := Lib.hid (HN0.out hT.symm)
                        clear hT
                        rcases e1 with e1 | e1 | e1
                        · have z1 : (e.toNat : Int) < 48 := by omega
                          go_wp2
                          go_ret
                          exact IntPost.none HNo.out HR.out.setBad (KeptB.set 1 _)
                        · have z0 : ¬ (e.toNat : Int) < 48 := by omega
                          have z1 : (57 : Int) < (e.toNat : Int) := by omega
                          go_wp2
                          go_ret
                          exact IntPost.none HNo.out HR.out.setBad (KeptB.set 1 _)
                        · by_cases z0 : (e.toNat : Int) < 48
                          · go_wp2
                            go_ret
                            exact IntPost.none HNo.out HR.out.setBad (KeptB.set 1 _)
                          · by_cases z1 : (57 : Int) < (e.toNat : Int)
                            · go_wp2
                              go_ret
                              exact IntPost.none HNo.out HR.out.setBad (KeptB.set 1 _)
                            · go_wp2
                              go_ret
                              exact IntPost.none HNo.out HR.out.setBad (KeptB.set 1 _)
                      · rw [if_neg e1] at hT
                        have z0 : ¬ (e.toNat : Int) < 48 := by omega
                        have z1 : ¬ (57 : Int) < (e.toNat : Int) := by omega
                        have z2 : ¬ n < -922337203685477580 := by omega
                        have z3 : (48 : Int) ≤ (e.toNat : Int) := by omega
                        by_cases e2 : n = -922337203685477580 ∧ 8 < (e.toNat : Int) - 48
                        · rw [if_pos e2] at hT
                          have HNo := Lib.hid (HN0.out hT.symm)
                          clear hT
                          obtain ⟨e2, e3⟩ := e2
                          subst e2
                          go_wp2
                          go_ret
                          exact IntPost.none HNo.out HR.out.setBad (KeptB.set 1 _)
                        · rw [if_neg e2] at hT
                          have HT2 : Hid (accN (if B = true ∧ j + 1 = 0 then L.drop 1 else L.drop (j + 1)) (10 * n - ((e.toNat : Int) - 48)) = TOT) := Lib.hid (by rw [hnx]; exact hT)
                          have y1 : -9223372036854775808 ≤ 10 * n - ((e.toNat : Int) - 48) := by omega
                          have y2 : 10 * n - ((e.toNat : Int) - 48) ≤ 0 := by omega
                          have y3 : -9223372036854775800 ≤ 10 * n := by omega
                          clear hT hnx
                          by_cases e4 : n = -922337203685477580
                          · have e5 : ¬ 8 < (e.toNat : Int) - 48 := fun q => e2 ⟨e4, q⟩
                            clear e2 e1
                            subst e4
                            go_wp2
                            go_round
                            case rel => exact ⟨j + 1, 10 * (-922337203685477580) - ((e.toNat : Int) - 48), by omega, by go_num, by go_num, y1, y2, HT2⟩
                            case measure => simp [intOf] <;> omega
                          · clear e2 e1
                            go_wp2
                            go_round
                            case rel => exact ⟨j + 1, 10 * n - ((e.toNat : Int) - 48), by omega, by go_num, by go_num, y1, y2, HT2⟩
                            case measure => simp [intOf] <;> omega
                · obtain rfl : j = k := by omega
                  have hT := HT.out
                  rw [if_neg (fun q => by have := hB0.out q.2; rw [q.1] at this; cases this), List.drop_eq_nil_of_le (by have := HLl.out; omega)] at hT
                  have HTn := Lib.hid (show TOT = some n from hT.symm)
                  clear hT HT
                  cases B with
                  | true =>
                    have hon : okI n := ⟨hn0, by omega⟩
                    have HX := Lib.hid (HN2.out n n HTn.out rfl hon)
                    have K52 := ref06Int n hon
                    have hS2 := HS2.out
                    have hCm := HCm.out (n)
                    have hsl : t.extract (j + 1) s.length = ⟨(s.drop (j + 1)).toArray⟩ := by rw [← hts]; exact HE2.out (j + 1)
                    generalize (⟨(numL (n)).toArray⟩ : ByteArray) = S1 at K52 hCm
                    generalize (⟨(L ++ [44]).toArray⟩ : ByteArray) = S2 at hS2 hCm
                    have HCm2 := Lib.hid hCm
                    clear hCm
                    go_wp2_with fail
                    refine (K52 _).mono ?_
                    rintro e w1 ⟨rfl, hb⟩
                    have HB := Lib.hid hb
                    have HR1 := Lib.hid (HR.out.below hb)
                    have hbz1 := Nat.lt_of_lt_of_le hbz hb.size
                    have c0 := (hb.cell (p := ⟨b, 0, none⟩) hbz).trans c0
                    have c1 := (hb.cell (p := ⟨b, 1, none⟩) hbz).trans c1
                    have f0 := (hb.frozen (p := ⟨b, 0, none⟩) hbz).trans f0
                    have f1 := (hb.frozen (p := ⟨b, 1, none⟩) hbz).trans f1
                    have HK := Lib.hid (KeptB.of hbz hb)
                    clear K52 hb
                    have hCm := HCm2.out
                    by_cases g1 : Lib.itoa (n) = L
                    · rw [decide_eq_true g1] at hCm
                      by_cases g2 : lo ≤ n
                      · have g2z : ¬ (n) < lo := by omega
                        by_cases g3 : n ≤ hi
                        · have g3z : ¬ hi < (n) := by omega
                          have HY := Lib.hid (show rdInt s lo hi = some (n, s.drop (j + 1)) by have := HX.out; rwa [if_pos ⟨g1, g2, g3⟩] at this)
                          clear g1
                          go_wp2
                          go_ret
                          first | (rw [hsl]; exact IntPost.some HY.out HR1.out.setText (HK.out.trans (KeptB.set 0 _))) | exact IntPost.some HY.out HR1.out.setText (HK.out.trans (KeptB.set 0 _)) | trace_state
                        · have g3z : hi < (n) := by omega
                          have HNo := Lib.hid (show rdInt s lo hi = none by have := HX.out; rwa [if_neg (fun q => g3 q.2.2)] at this)
                          clear g1
                          go_wp2
                          go_ret
                          exact IntPost.none HNo.out HR1.out.setBad (HK.out.trans (KeptB.set 1 _))
                      · have g2z : (n) < lo := by omega
                        have HNo := Lib.hid (show rdInt s lo hi = none by have := HX.out; rwa [if_neg (fun q => g2 q.2.1)] at this)
                        clear g1
                        go_wp2
                        go_ret
                        exact IntPost.none HNo.out HR1.out.setBad (HK.out.trans (KeptB.set 1 _))
                    · rw [decide_eq_false g1] at hCm
                      have HNo := Lib.hid (show rdInt s lo hi = none by have := HX.out; rwa [if_neg (fun q => g1 q.1)] at this)
                      clear g1
                      go_wp2
                      go_ret
                      exact IntPost.none HNo.out HR1.out.setBad (HK.out.trans (KeptB.set 1 _))
                  | false =>
                    by_cases hmin : n = -9223372036854775808
                    · subst hmin
                      have HNo := Lib.hid (HN1.out rfl HTn.out)
                      go_wp2
                      go_ret
                      exact IntPost.none HNo.out HR.out.setBad (KeptB.set 1 _)
                    · have hon : okI (-n) := ⟨by omega, by omega⟩
                      have HX := Lib.hid (HN2.out n (-n) HTn.out rfl hon)
                      have K52 := ref06Int (-n) hon
                      have wn : wrap64 (-n) = -n := by unfold wrap64; omega
                      have hS2 := HS2.out
                      have hCm := HCm.out (-n)
                      have hsl : t.extract (j + 1) s.length = ⟨(s.drop (j + 1)).toArray⟩ := by rw [← hts]; exact HE2.out (j + 1)
                      generalize (⟨(numL (-n)).toArray⟩ : ByteArray) = S1 at K52 hCm
                      generalize (⟨(L ++ [44]).toArray⟩ : ByteArray) = S2 at hS2 hCm
                      have HCm2 := Lib.hid hCm
                      clear hCm
                      go_wp2_with fail
                      refine (K52 _).mono ?_
                      rintro e w1 ⟨rfl, hb⟩
                      have HB := Lib.hid hb
                      have HR1 := Lib.hid (HR.out.below hb)
                      have hbz1 := Nat.lt_of_lt_of_le hbz hb.size
                      have c0 := (hb.cell (p := ⟨b, 0, none⟩) hbz).trans c0
                      have c1 := (hb.cell (p := ⟨b, 1, none⟩) hbz).trans c1
                      have f0 := (hb.frozen (p := ⟨b, 0, none⟩) hbz).trans f0
                      have f1 := (hb.frozen (p := ⟨b, 1, none⟩) hbz).trans f1
                      have HK := Lib.hid (KeptB.of hbz hb)
                      clear K52 hb
                      have hCm := HCm2.out
                      by_cases g1 : Lib.itoa (-n) = L
                      · rw [decide_eq_true g1] at hCm
                        by_cases g2 : lo ≤ -n
                        · have g2z : ¬ (-n) < lo := by omega
                          by_cases g3 : -n ≤ hi
                          · have g3z : ¬ hi < (-n) := by omega
                            have HY := Lib.hid (show rdInt s lo hi = some (-n, s.drop (j + 1)) by have := HX.out; rwa [if_pos ⟨g1, g2, g3⟩] at this)
                            clear g1
                            go_wp2
                            go_ret
                            first | (rw [hsl]; exact IntPost.some HY.out HR1.out.setText (HK.out.trans (KeptB.set 0 _))) | exact IntPost.some HY.out HR1.out.setText (HK.out.trans (KeptB.set 0 _)) | trace_state
                          · have g3z : hi < (-n) := by omega
                            have HNo := Lib.hid (show rdInt s lo hi = none by have := HX.out; rwa [if_neg (fun q => g3 q.2.2)] at this)
                            clear g1
                            go_wp2
                            go_ret
                            exact IntPost.none HNo.out HR1.out.setBad (HK.out.trans (KeptB.set 1 _))
                        · have g2z : (-n) < lo := by omega
                          have HNo := Lib.hid (show rdInt s lo hi = none by have := HX.out; rwa [if_neg (fun q => g2 q.2.1)] at this)
                          clear g1
                          go_wp2
                          go_ret
                          exact IntPost.none HNo.out HR1.out.setBad (HK.out.trans (KeptB.set 1 _))
                      · rw [decide_eq_false g1] at hCm
                        have HNo := Lib.hid (show rdInt s lo hi = none by have := HX.out; rwa [if_neg (fun q => g1 q.1)] at this)
                        clear g1
                        go_wp2
                        go_ret
                        exact IntPost.none HNo.out HR1.out.setBad (HK.out.trans (KeptB.set 1 _))
        · obtain rfl : k = 21 := by omega
          have HNo : Hid (rdInt s lo hi = none) := Lib.hid (ref_late (fun j h1 h2 => HA.out j h1))
          cases bad with
          | true =>
            go_wp2
            go_ret
            exact IntPost.bad HR.out.setBad (KeptB.set 1 _)
          | false =>
            go_wp2
            go_ret
            exact IntPost.none HNo.out HR.out.setBad (KeptB.set 1 _)
      · have hcn : ¬ (ck.toNat : Int) = 44 := fun e => hc (UInt8.toNat_inj.1 (by have : (44 : UInt8).toNat = 44 := rfl; omega))
        by_cases h21 : k < 21
        · have h21z : (k : Int) < 21 := by omega
          go_wp2
          go_round
          case rel => exact ⟨k + 1, by omega, by omega, by go_num, Lib.hid (fun j hj => by
            by_cases e : j = k
            · subst e; rw [← HCK.out]; exact hc
            · exact HA.out j (by omega))⟩
          case measure => simp [intOf] <;> omega
        · obtain rfl : k = 21 := by omega
          have HNo : Hid (rdInt s lo hi = none) := Lib.hid (ref_late (fun j h1 h2 => HA.out j h1))
          cases bad with
          | true =>
            go_wp2
            go_ret
            exact IntPost.bad HR.out.setBad (KeptB.set 1 _)
          | false =>
            go_wp2
            go_ret
            exact IntPost.none HNo.out HR.out.setBad (KeptB.set 1 _)
    · have hk2 : k = s.length := by omega
      have hk1z : ¬ (k : Int) < (t.size : Int) := by omega
      have HNo : Hid (rdInt s lo hi = none) := Lib.hid (ref_late (fun j h1 h2 => HA.out j (by omega)))
      cases bad with
      | true =>
        go_wp2
        go_ret
        exact IntPost.bad HR.out.setBad (KeptB.set 1 _)
      | false =>
        go_wp2
        go_ret
        exact IntPost.none HNo.out HR.out.setBad (KeptB.set 1 _)
end Go.Proofs.YtpkmgdpnimecfabDoor

/- InboxPlays' walk. Conditions: the listed variables hold what they are laid to. -/
import Derived.Test.YtbbcicengfmhiaaDoorInX
import Derived.Test.YtbbcicengfmhiaaDoorInZ
import Derived.Test.YtbbcicengfmhiaaDoorIn4
import Derived.Test.YtbbcicengfmhiaaDoorInQ
import Derived.Deep.RegionHeld3
import Derived.Deep.QuietTactic
import Derived.BigQuiet
namespace Go.Proofs.YtbbcicengfmhiaaDoor
set_option maxRecDepth 100000
open Go.RowKit

theorem seenR_len (now : Int) (l : List Rel) : (seenR now l).length ≤ l.length := by
  rw [← seenP_all]
  exact seenP_len now l _ (Nat.le_refl _)
theorem seenL (now : Int) (b : Nat) (cv : Value) (L : List Rel) (hL : L.length ≤ 12) (W : World) (h : IbAt b cv L W) : Calls Tryd.prog 46 #[.int .i64 now, .slice (some ⟨W.heap.size, 0, none⟩) 1 1] (W.alloc (.cells #[.pointer (some ⟨b, 0, none⟩)] 72)) (SeenPost now [some (b, cv, L)] (W.alloc (.cells #[.pointer (some ⟨b, 0, none⟩)] 72))) := by
  refine inbSeen now _ [some (b, cv, L)] _ ⟨some ⟨W.heap.size, 0, none⟩, 1, rfl, ⟨by simp, fun h => nomatch h⟩, fun _ => ⟨W.heap.size, 0, rfl, by simp, fun j hj i u hu => ?_⟩⟩ (fun k hk => ?_) (by simpa [allX, inX] using hL) (by simp)
  · have hj0 : j = 0 := by simpa using hj
    subst hj0
    have hi : i = 0 := by
      have := (List.getElem?_eq_some_iff.1 hu).1
      simp [encX] at this
      exact this
    subst hi
    rw [← hu]
    exact (BlkIs.alloc W [.pointer (some ⟨b, 0, none⟩)] 72).cell 0
  · have hk0 : k = 0 := by simpa using hk
    subst hk0
    intro b2 cv2 l2 e
    obtain ⟨rfl, rfl, rfl⟩ : b = b2 ∧ cv = cv2 ∧ L = l2 := by simpa using e
    exact ⟨h.below (below1 W _), hL⟩
def AddSt (b : Nat) (cv : Value) (A' : List Rel) (W w' : World) : Prop := ∃ cv', IbAt b cv' A' w' ∧ KeptI b cv W w' ∧ (cv'.ownBlock = cv.ownBlock ∨ ∀ q, cv'.ownBlock = some q → W.heap.size ≤ q)
set_option maxHeartbeats 8000000 in
theorem inboxPlays_walk (v : Value) (xs : List Rel) (now : Int) (w : World) (hS : SlAt 5 encR w v xs) (hm : xs.length ≤ maxLen) (hM : Met w) : Calls Tryd.prog 6 #[v, .int .i64 now] w fun e w' => e = .returned (.bool true) ∧ Below w.heap.size w w' := by
  unfold maxLen at hm
  have HM := Lib.hid hM
  have KA := Lib.hid (fun (W : World) (h : Met W) => awake15 W h)
  obtain ⟨pp, c, rfl, _, hcl⟩ := hS
  have HC := Lib.hid hcl
  clear hM hcl
  generalize hn : xs.length = n at *
  have HN := Lib.hid hn
  clear hn
  go_enter Tryd.func6, Tryd.ntmps6
  go_wp2_with fail
  refine (KA.out _ HM.out).mono ?_
  rintro e w1 ⟨rfl, hb⟩
  have HM1 := Lib.hid (HM.out.below hb)
  have HB1 := Lib.hid hb
  clear hb
  by_cases h100 : 100 < n
  · have h100z : (100 : Int) < (n : Int) := by omega
    go_wp2_with fail
    refine (KA.out _ HM1.out).mono ?_
    rintro e w2 ⟨rfl, hb⟩
    have HB2 := Lib.hid (HB1.out.trans (hb.mono HB1.out.size))
    clear hb
    go_wp2
    go_ret
    exact ⟨rfl, HB2.out⟩
  · have h100z : ¬ ((100 : Int) < (n : Int)) := by omega
    go_wp2_with fail
    refine (inbNew w1).mono ?_
    rintro e w2 ⟨rfl, hi, hb⟩
    have hbw : w.heap.size ≤ w1.heap.size := HB1.out.size
    have HT2 := Lib.hid (show TwoAt w1.heap.size (.slice none 0 0) (.slice none 0 0) [] w2 from ⟨hi, ⟨rfl, .inl ⟨rfl, rfl⟩⟩, fun q hq => by simp [Value.ownBlock] at hq⟩)
    have HB2 := Lib.hid (HB1.out.trans (hb.mono HB1.out.size))
    obtain ⟨b, hbe⟩ : ∃ b, b = w1.heap.size := ⟨_, rfl⟩
    rw [← hbe] at HT2 hbw ⊢
    clear hi hb hbe
    go_wp2
    go_loopw [6, 8, 25] (fun s6 _ s25 wr => ∃ (k : Nat) (cv : Value), s25 = .int .i64 k ∧ k ≤ n ∧ TwoAt b cv s6 (accR (xs.take k)) wr ∧ Below w.heap.size w wr) (fun _ _ s25 _ => n - (intOf s25).toNat)
    case atStart => exact ⟨0, _, by go_num, by omega, HT2.out, HB2.out⟩
    case round =>
      obtain ⟨k, cv, rfl, hk, hT, hB⟩ := hrel
      obtain ⟨pv, cvv, rfl⟩ := row_slice hT.2.1
      have HT := Lib.hid hT
      have HB := Lib.hid hB
      have HOK := Lib.hid (accR_ok (xs.take k))
      have HL12 := Lib.hid (accR_ok (xs.take k)).len
      clear hT hB
      by_cases hlt : k < n
      · have hltz : (k : Int) < (n : Int) := by omega
        obtain ⟨g, off, rfl, hg, hc⟩ := HC.out (by omega)
        have HAS := Lib.hid (accR_succ (l := xs) (k := k) (by have := HN.out; omega))
        have c0 := (HB.out.cell (p := ⟨g, off + k * 5, none⟩) hg).trans (hc k (by omega) 0 _ rfl)
        have c1 := (HB.out.cell (p := ⟨g, off + k * 5 + 1, none⟩) hg).trans (hc k (by omega) 1 _ rfl)
        have c2 := (HB.out.cell (p := ⟨g, off + k * 5 + 1 + 1, none⟩) hg).trans (hc k (by omega) 2 _ rfl)
        have c3 := (HB.out.cell (p := ⟨g, off + k * 5 + 1 + 1 + 1, none⟩) hg).trans (hc k (by omega) 3 _ rfl)
        have c4 := (HB.out.cell (p := ⟨g, off + k * 5 + 1 + 1 + 1 + 1, none⟩) hg).trans (hc k (by omega) 4 _ rfl)
        clear hc
        generalize hA : accR (xs.take k) = A at *
        have HAA := Lib.hid hA
        clear hA
        generalize xs[k]! = r at *
        obtain ⟨a1, a2, a3, a4, s⟩ := r
        by_cases h300 : 300 < s.size
        · have h300z : (300 : Int) < (s.size : Int) := by omega
          have HX := Lib.hid (below1 wr (.cells #[.int .i64 a1, .int .i64 a2, .int .i64 a3, .int .i64 a4, .string s] 75))
          go_wp2
          go_ret
          exact ⟨rfl, HB.out.trans (HX.out.mono HB.out.size)⟩
        · have h300z : ¬ ((300 : Int) < (s.size : Int)) := by omega
          have HSM := Lib.hid (show s.size ≤ maxLen by unfold maxLen; omega)
          have hbx := below1 wr (.cells #[.int .i64 a1, .int .i64 a2, .int .i64 a3, .int .i64 a4, .string s] 75)
          have HQ := Lib.hid (show BlkIs (wr.alloc (.cells #[.int .i64 a1, .int .i64 a2, .int .i64 a3, .int .i64 a4, .string s] 75)) wr.heap.size (encR (a1, a2, a3, a4, s)) 75 from BlkIs.alloc wr _ 75)
          have HCQ := Lib.hid (owns_lt HT.out.1.2)
          have HVQ := Lib.hid (owns_lt HT.out.2.1)
          have hbq := HT.out.1.1.lt
          have HT := Lib.hid (HT.out.below hbx)
          have HB := Lib.hid (HB.out.trans (hbx.mono HB.out.size))
          clear hbx
          obtain ⟨kk, hkk⟩ : ∃ kk, kk = addR A (a1, a2, a3, a4, s) := ⟨_, rfl⟩
          have KR := Lib.hid (fun (W : World) (h : OwnR W (b + 1) (.slice pv A.length cvv) A) => (show Calls Tryd.prog 34 #[.slice pv A.length cvv, .agg #[.int .i64 a1, .int .i64 a2, .int .i64 a3, .int .i64 a4, .string s]] W fun e w' => e = .returned (.int .i64 kk) ∧ Below W.heap.size W w' from by
            rw [hkk]; exact ref15Add _ A a1 a2 a3 a4 s W h.sl (by have := HL12.out; omega) HSM.out))
          have KD := Lib.hid (fun (W : World) (h : IbAt b cv A W) => (show Calls Tryd.prog 35 #[.pointer (some ⟨b, 0, none⟩), .agg #[.int .i64 a1, .int .i64 a2, .int .i64 a3, .int .i64 a4, .string s]] W fun e w' => e = .returned (.int .i64 kk) ∧ AddSt b cv (putR A (a1, a2, a3, a4, s)) W w' from by
            rw [hkk]; exact inbAdd b cv A a1 a2 a3 a4 s W h HL12.out HSM.out))
          have HKK := Lib.hid hkk
          have hself : ((kk : Int) != kk) = false := by simp
          clear hkk
          go_wp2_with fail
          generalize wr.alloc (.cells #[.int .i64 a1, .int .i64 a2, .int .i64 a3, .int .i64 a4, .string s] 75) = W0 at HQ HT HB ⊢
          obtain ⟨q, hqe⟩ : ∃ q, q = wr.heap.size := ⟨_, rfl⟩
          rw [← hqe] at HQ HCQ HVQ hbq ⊢
          clear hqe c0 c1 c2 c3 c4
          refine (KR.out _ HT.out.2.1).mono ?_
          rintro e w3 ⟨rfl, hb⟩
          have HT := Lib.hid (HT.out.below hb)
          have HQ := Lib.hid (HQ.out.below hb)
          have HB := Lib.hid (HB.out.trans (hb.mono HB.out.size))
          clear hb KR
          have q0 := HQ.out.cell 0
          have q1 := HQ.out.cell 1
          have q2 := HQ.out.cell 2
          have q3 := HQ.out.cell 3
          have q4 := HQ.out.cell 4
          simp only [encR, List.getElem?_cons_zero, List.getElem?_cons_succ] at q0 q1 q2 q3 q4
          go_wp2_with fail
          refine (KD.out _ HT.out.1).mono ?_
          rintro e w5 ⟨rfl, hst⟩
          unfold AddSt at hst
          obtain ⟨cv', hi', hki, how⟩ := hst
          clear q0 q1 q2 q3 q4 KD
          have HQ := Lib.hid (HQ.out.of (hki.2.1 q HQ.out.lt (by omega) (fun e => by have := HCQ.out q e; omega)))
          have HV := Lib.hid (OwnR.keptI HT.out.2.1 hki (by omega) HT.out.2.2)
          have HI := Lib.hid hi'
          have HB5 := Lib.hid (HB.out.trans (hki.1 w.heap.size (by omega)))
          have HDI := Lib.hid (show ∀ q, cv'.ownBlock = some q → (Value.slice pv A.length cvv).ownBlock ≠ some q from fun p hp e => by
            rcases how with h1 | h1
            · rw [h1] at hp; exact HT.out.2.2 p hp e
            · have h2 := h1 p hp
              have h3 := owns_lt HT.out.2.1 p e
              omega)
          clear hi' hki how
          --REST1
          have HTTx : ∃ TT : ByteArray, Hid (TT = ⟨(printL (a1, a2, a3, a4, s)).toArray⟩) := ⟨_, Lib.hid rfl⟩
          obtain ⟨TT, HTT⟩ := HTTx
          by_cases hk0 : kk = 0
          · have hrr : rightR (a1, a2, a3, a4, s) = true := (addR_zero.1 (HKK.out.symm.trans hk0)).1
            have HPU := Lib.hid (show putR A (a1, a2, a3, a4, s) = snocR A (a1, a2, a3, a4, s) by rw [putR, if_pos (by rw [← HKK.out]; exact hk0)]; rfl)
            have hk1 : (kk == 0) = true := by simpa using hk0
            clear hk0
            have HRR := Lib.hid hrr
            clear hrr
            have q0 := HQ.out.cell 0
            have q1 := HQ.out.cell 1
            have q2 := HQ.out.cell 2
            have q3 := HQ.out.cell 3
            have q4 := HQ.out.cell 4
            simp only [encR, List.getElem?_cons_zero, List.getElem?_cons_succ] at q0 q1 q2 q3 q4
            go_wp2_with (at_builtin; refine wpList_appRN rfl (.tmp 43) (.tmp 45) rfl (b + 1) _ A (a1, a2, a3, a4, s) rfl HV.out rfl (by have := HL12.out; omega) HI.out.1.lt ?_)
            intro v2 w6 HO2 HKV HWH
            obtain ⟨pw, cw, rfl⟩ := row_slice HO2.out
            have HT6 := Lib.hid (show TwoAt b cv' (.slice pw (snocR A (a1, a2, a3, a4, s)).length cw) (putR A (a1, a2, a3, a4, s)) w6 from ⟨HI.out.keptV HKV.out (fun e => by have := owns_block HV.out b e; omega) HDI.out, by rw [HPU.out]; exact HO2.out, fun p hp e => by
              rcases HWH.out with h1 | h1
              · rw [h1] at e; exact HDI.out p hp e
              · have h2 := h1 p e
                have h3 := owns_lt HI.out.2 p hp
                omega⟩)
            have HQ6 := Lib.hid (HQ.out.of (HKV.out.2.1 q HQ.out.lt (fun e => by have := HVQ.out q e; omega)))
            have HB6 := Lib.hid (HB5.out.trans (HKV.out.1 w.heap.size (by omega)))
            clear HO2 HKV HWH q0 q1 q2 q3 q4 HQ HV HI HB5 HDI HB HT
            have hrr := HRR.out
            have q0 := HQ6.out.cell 0
            have q1 := HQ6.out.cell 1
            have q2 := HQ6.out.cell 2
            have q3 := HQ6.out.cell 3
            have q4 := HQ6.out.cell 4
            simp only [encR, List.getElem?_cons_zero, List.getElem?_cons_succ] at q0 q1 q2 q3 q4
            have K36 := Lib.hid (fun (W : World) => (show Calls Tryd.prog 36 #[.agg #[.int .i64 a1, .int .i64 a2, .int .i64 a3, .int .i64 a4, .string s]] W fun e w' => e = .returned (.bool true) ∧ Below W.heap.size W w' from by
              have := ref15Right a1 a2 a3 a4 s W HSM.out
              rw [hrr] at this
              exact this))
            have K38 := Lib.hid (fun (W : World) (h : Met W) => (show Calls Tryd.prog 38 #[.agg #[.int .i64 a1, .int .i64 a2, .int .i64 a3, .int .i64 a4, .string s]] W fun e w' => e = .returned (.string TT) ∧ Below W.heap.size W w' from by
              rw [HTT.out]
              exact inbPrint a1 a2 a3 a4 s W HSM.out h))
            have K37 := Lib.hid (fun (W : World) (h : Met W) => (show Calls Tryd.prog 37 #[.string TT] W fun e w' => e = .returned (.tuple #[.agg (encR (a1, a2, a3, a4, s)).toArray, .bool true]) ∧ Below W.heap.size W w' from by
              rw [HTT.out]
              have h1 := printL_len (a1, a2, a3, a4, s)
              have h3 : (⟨(printL (a1, a2, a3, a4, s)).toArray⟩ : ByteArray).size = (printL (a1, a2, a3, a4, s)).length := List.size_toArray
              have := inbRead ⟨(printL (a1, a2, a3, a4, s)).toArray⟩ W (by omega) h
              rw [show (⟨(printL (a1, a2, a3, a4, s)).toArray⟩ : ByteArray).data.toList = printL (a1, a2, a3, a4, s) from rfl, readR_print, hrr] at this
              exact this))
            simp only [encR] at K37
            have K39 := Lib.hid (fun (W : World) => (show Calls Tryd.prog 39 #[.agg #[.int .i64 a1, .int .i64 a2, .int .i64 a3, .int .i64 a4, .string s]] W fun e w' => e = .returned (.string TT) ∧ Below W.heap.size W w' from by
              rw [HTT.out]
              exact ref15Print a1 a2 a3 a4 s W hrr))
            have hte : TT.toList.isEmpty = false := by
              rw [HTT.out, ByteArray.toList_eq]
              show (printL (a1, a2, a3, a4, s)).isEmpty = false
              rw [printL_of hrr]
              simp [relL, numsL, numL]
            have hte2 : (TT.toList == []) = false := by
              cases hl : TT.toList with
              | nil => rw [hl] at hte; cases hte
              | cons a b => rfl
            have hte3 : ¬ (TT.toList = []) := fun e => by rw [e] at hte; cases hte
            clear hrr
            go_wp2_with fail
            refine (K36.out _).mono ?_
            rintro e w7 ⟨rfl, hb⟩
            have HT6 := Lib.hid (HT6.out.below hb)
            have HQ6 := Lib.hid (HQ6.out.below hb)
            have HB6 := Lib.hid (HB6.out.trans (hb.mono HB6.out.size))
            clear hb
            clear q0 q1 q2 q3 q4
            have q0 := HQ6.out.cell 0
            have q1 := HQ6.out.cell 1
            have q2 := HQ6.out.cell 2
            have q3 := HQ6.out.cell 3
            have q4 := HQ6.out.cell 4
            simp only [encR, List.getElem?_cons_zero, List.getElem?_cons_succ] at q0 q1 q2 q3 q4
            go_wp2_with fail
            refine (K38.out _ (HM.out.below HB6.out)).mono ?_
            rintro e w8 ⟨rfl, hb⟩
            have HT6 := Lib.hid (HT6.out.below hb)
            have HQ6 := Lib.hid (HQ6.out.below hb)
            have HB6 := Lib.hid (HB6.out.trans (hb.mono HB6.out.size))
            clear hb
            go_wp2_with fail
            refine (K37.out _ (HM.out.below HB6.out)).mono ?_
            rintro e w9 ⟨rfl, hb⟩
            have HT6 := Lib.hid (HT6.out.below hb)
            have HQ6 := Lib.hid (HQ6.out.below hb)
            have HB6 := Lib.hid (HB6.out.trans (hb.mono HB6.out.size))
            clear hb
            have hb := below1 w9 (.cells #[.int .i64 a1, .int .i64 a2, .int .i64 a3, .int .i64 a4, .string s] 75)
            have HY := Lib.hid (show BlkIs (w9.alloc (.cells #[.int .i64 a1, .int .i64 a2, .int .i64 a3, .int .i64 a4, .string s] 75)) w9.heap.size (encR (a1, a2, a3, a4, s)) 75 from BlkIs.alloc w9 _ 75)
            have HT6 := Lib.hid (HT6.out.below hb)
            have HQ6 := Lib.hid (HQ6.out.below hb)
            have HB6 := Lib.hid (HB6.out.trans (hb.mono HB6.out.size))
            clear hb
            clear q0 q1 q2 q3 q4
            go_wp2_with fail
            generalize w9.alloc (.cells #[.int .i64 a1, .int .i64 a2, .int .i64 a3, .int .i64 a4, .string s] 75) = W9 at *
            generalize w9.heap.size = y at *
            have q0 := HQ6.out.cell 0
            have q1 := HQ6.out.cell 1
            have q2 := HQ6.out.cell 2
            have q3 := HQ6.out.cell 3
            have q4 := HQ6.out.cell 4
            simp only [encR, List.getElem?_cons_zero, List.getElem?_cons_succ] at q0 q1 q2 q3 q4
            have y0 := HY.out.cell 0
            have y1 := HY.out.cell 1
            have y2 := HY.out.cell 2
            have y3 := HY.out.cell 3
            have y4 := HY.out.cell 4
            simp only [encR, List.getElem?_cons_zero, List.getElem?_cons_succ] at y0 y1 y2 y3 y4
            have hqz := HQ6.out.lt
            have hyz := HY.out.lt
            have HM9 := Lib.hid (HM.out.below HB6.out)
            have HD9 := Lib.hid (show Below W9.heap.size W9 W9.drew from (Below.refl _ _).drew)
            have hgd := eqGuardR
            have hneq := fun W => run_neqR (a1, a2, a3, a4, s) (a1, a2, a3, a4, s) W
            rw [decide_eq_true rfl] at hneq
            simp only [encR] at hneq
            go_region_held3 (fun w' => (∀ b o, b < (W9).heap.size → w'.cell? ⟨b, o, none⟩ = (W9).cell? ⟨b, o, none⟩) ∧ Below (W9).heap.size (W9) w') (first | exact stay0 _ | exact stay ‹_› ‹_›) (first
              | (go_at_call 38; (with_reducible refine (K38.out _ (HM9.out.below HD9.out)).mono ?_); rintro e wA ⟨rfl, hbA⟩; have HA9 := Lib.hid (HD9.out.trans hbA); clear HD9)
              | (go_at_call 38; (with_reducible refine (K38.out _ (HM9.out.below HA9.out)).mono ?_); rintro e wB ⟨rfl, hbB⟩; have HB9 := Lib.hid (HA9.out.trans (hbB.mono HA9.out.size)))
              | (go_at_call 39; (with_reducible refine (K39.out _).mono ?_); rintro e wC ⟨rfl, hbC⟩; have HC9 := Lib.hid (HB9.out.trans (hbC.mono HB9.out.size))))
            have HT6 := Lib.hid (HT6.out.below HC9.out)
            have HB6 := Lib.hid (HB6.out.trans (HC9.out.mono HB6.out.size))
            go_wp2
            go_roundw
            case rel => exact ⟨k + 1, cv', by go_num, by omega, by rw [HAS.out]; exact HT6.out, HB6.out⟩
            case measure => simp [intOf] <;> omega
          · have HPU := Lib.hid (show putR A (a1, a2, a3, a4, s) = A by rw [putR, if_neg (by rw [← HKK.out]; exact hk0)])
            have hk1 : (kk == 0) = false := by simpa using hk0
            clear hk0
            have HT6 := Lib.hid (show TwoAt b cv' (.slice pv A.length cvv) (putR A (a1, a2, a3, a4, s)) w5 from ⟨HI.out, by rw [HPU.out]; exact HV.out, HDI.out⟩)
            have HQ6 := HQ
            have HB6 := HB5
            clear HQ HV HI HB5 HDI HB HT
            cases hrr : rightR (a1, a2, a3, a4, s) with
            | true =>
              have q0 := HQ6.out.cell 0
              have q1 := HQ6.out.cell 1
              have q2 := HQ6.out.cell 2
              have q3 := HQ6.out.cell 3
              have q4 := HQ6.out.cell 4
              simp only [encR, List.getElem?_cons_zero, List.getElem?_cons_succ] at q0 q1 q2 q3 q4
              have K36 := Lib.hid (fun (W : World) => (show Calls Tryd.prog 36 #[.agg #[.int .i64 a1, .int .i64 a2, .int .i64 a3, .int .i64 a4, .string s]] W fun e w' => e = .returned (.bool true) ∧ Below W.heap.size W w' from by
                have := ref15Right a1 a2 a3 a4 s W HSM.out
                rw [hrr] at this
                exact this))
              have K38 := Lib.hid (fun (W : World) (h : Met W) => (show Calls Tryd.prog 38 #[.agg #[.int .i64 a1, .int .i64 a2, .int .i64 a3, .int .i64 a4, .string s]] W fun e w' => e = .returned (.string TT) ∧ Below W.heap.size W w' from by
                rw [HTT.out]
                exact inbPrint a1 a2 a3 a4 s W HSM.out h))
              have K37 := Lib.hid (fun (W : World) (h : Met W) => (show Calls Tryd.prog 37 #[.string TT] W fun e w' => e = .returned (.tuple #[.agg (encR (a1, a2, a3, a4, s)).toArray, .bool true]) ∧ Below W.heap.size W w' from by
                rw [HTT.out]
                have h1 := printL_len (a1, a2, a3, a4, s)
                have h3 : (⟨(printL (a1, a2, a3, a4, s)).toArray⟩ : ByteArray).size = (printL (a1, a2, a3, a4, s)).length := List.size_toArray
                have := inbRead ⟨(printL (a1, a2, a3, a4, s)).toArray⟩ W (by omega) h
                rw [show (⟨(printL (a1, a2, a3, a4, s)).toArray⟩ : ByteArray).data.toList = printL (a1, a2, a3, a4, s) from rfl, readR_print, hrr] at this
                exact this))
              simp only [encR] at K37
              have K39 := Lib.hid (fun (W : World) => (show Calls Tryd.prog 39 #[.agg #[.int .i64 a1, .int .i64 a2, .int .i64 a3, .int .i64 a4, .string s]] W fun e w' => e = .returned (.string TT) ∧ Below W.heap.size W w' from by
                rw [HTT.out]
                exact ref15Print a1 a2 a3 a4 s W hrr))
              have hte : TT.toList.isEmpty = false := by
                rw [HTT.out, ByteArray.toList_eq]
                show (printL (a1, a2, a3, a4, s)).isEmpty = false
                rw [printL_of hrr]
                simp [relL, numsL, numL]
              have hte2 : (TT.toList == []) = false := by
                cases hl : TT.toList with
                | nil => rw [hl] at hte; cases hte
                | cons a b => rfl
              have hte3 : ¬ (TT.toList = []) := fun e => by rw [e] at hte; cases hte
              clear hrr
              go_wp2_with fail
              refine (K36.out _).mono ?_
              rintro e w7 ⟨rfl, hb⟩
              have HT6 := Lib.hid (HT6.out.below hb)
              have HQ6 := Lib.hid (HQ6.out.below hb)
              have HB6 := Lib.hid (HB6.out.trans (hb.mono HB6.out.size))
              clear hb
              clear q0 q1 q2 q3 q4
              have q0 := HQ6.out.cell 0
              have q1 := HQ6.out.cell 1
              have q2 := HQ6.out.cell 2
              have q3 := HQ6.out.cell 3
              have q4 := HQ6.out.cell 4
              simp only [encR, List.getElem?_cons_zero, List.getElem?_cons_succ] at q0 q1 q2 q3 q4
              go_wp2_with fail
              refine (K38.out _ (HM.out.below HB6.out)).mono ?_
              rintro e w8 ⟨rfl, hb⟩
              have HT6 := Lib.hid (HT6.out.below hb)
              have HQ6 := Lib.hid (HQ6.out.below hb)
              have HB6 := Lib.hid (HB6.out.trans (hb.mono HB6.out.size))
              clear hb
              go_wp2_with fail
              refine (K37.out _ (HM.out.below HB6.out)).mono ?_
              rintro e w9 ⟨rfl, hb⟩
              have HT6 := Lib.hid (HT6.out.below hb)
              have HQ6 := Lib.hid (HQ6.out.below hb)
              have HB6 := Lib.hid (HB6.out.trans (hb.mono HB6.out.size))
              clear hb
              have hb := below1 w9 (.cells #[.int .i64 a1, .int .i64 a2, .int .i64 a3, .int .i64 a4, .string s] 75)
              have HY := Lib.hid (show BlkIs (w9.alloc (.cells #[.int .i64 a1, .int .i64 a2, .int .i64 a3, .int .i64 a4, .string s] 75)) w9.heap.size (encR (a1, a2, a3, a4, s)) 75 from BlkIs.alloc w9 _ 75)
              have HT6 := Lib.hid (HT6.out.below hb)
              have HQ6 := Lib.hid (HQ6.out.below hb)
              have HB6 := Lib.hid (HB6.out.trans (hb.mono HB6.out.size))
              clear hb
              clear q0 q1 q2 q3 q4
              go_wp2_with fail
              generalize w9.alloc (.cells #[.int .i64 a1, .int .i64 a2, .int .i64 a3, .int .i64 a4, .string s] 75) = W9 at *
              generalize w9.heap.size = y at *
              have q0 := HQ6.out.cell 0
              have q1 := HQ6.out.cell 1
              have q2 := HQ6.out.cell 2
              have q3 := HQ6.out.cell 3
              have q4 := HQ6.out.cell 4
              simp only [encR, List.getElem?_cons_zero, List.getElem?_cons_succ] at q0 q1 q2 q3 q4
              have y0 := HY.out.cell 0
              have y1 := HY.out.cell 1
              have y2 := HY.out.cell 2
              have y3 := HY.out.cell 3
              have y4 := HY.out.cell 4
              simp only [encR, List.getElem?_cons_zero, List.getElem?_cons_succ] at y0 y1 y2 y3 y4
              have hqz := HQ6.out.lt
              have hyz := HY.out.lt
              have HM9 := Lib.hid (HM.out.below HB6.out)
              have HD9 := Lib.hid (show Below W9.heap.size W9 W9.drew from (Below.refl _ _).drew)
              have hgd := eqGuardR
              have hneq := fun W => run_neqR (a1, a2, a3, a4, s) (a1, a2, a3, a4, s) W
              rw [decide_eq_true rfl] at hneq
              simp only [encR] at hneq
              go_region_held3 (fun w' => (∀ b o, b < (W9).heap.size → w'.cell? ⟨b, o, none⟩ = (W9).cell? ⟨b, o, none⟩) ∧ Below (W9).heap.size (W9) w') (first | exact stay0 _ | exact stay ‹_› ‹_›) (first
                | (go_at_call 38; (with_reducible refine (K38.out _ (HM9.out.below HD9.out)).mono ?_); rintro e wA ⟨rfl, hbA⟩; have HA9 := Lib.hid (HD9.out.trans hbA); clear HD9)
                | (go_at_call 38; (with_reducible refine (K38.out _ (HM9.out.below HA9.out)).mono ?_); rintro e wB ⟨rfl, hbB⟩; have HB9 := Lib.hid (HA9.out.trans (hbB.mono HA9.out.size)))
                | (go_at_call 39; (with_reducible refine (K39.out _).mono ?_); rintro e wC ⟨rfl, hbC⟩; have HC9 := Lib.hid (HB9.out.trans (hbC.mono HB9.out.size))))
              have HT6 := Lib.hid (HT6.out.below HC9.out)
              have HB6 := Lib.hid (HB6.out.trans (HC9.out.mono HB6.out.size))
              go_wp2
              go_roundw
              case rel => exact ⟨k + 1, cv', by go_num, by omega, by rw [HAS.out]; exact HT6.out, HB6.out⟩
              case measure => simp [intOf] <;> omega
            | false =>
              have q0 := HQ6.out.cell 0
              have q1 := HQ6.out.cell 1
              have q2 := HQ6.out.cell 2
              have q3 := HQ6.out.cell 3
              have q4 := HQ6.out.cell 4
              simp only [encR, List.getElem?_cons_zero, List.getElem?_cons_succ] at q0 q1 q2 q3 q4
              have K36 := Lib.hid (fun (W : World) => (show Calls Tryd.prog 36 #[.agg #[.int .i64 a1, .int .i64 a2, .int .i64 a3, .int .i64 a4, .string s]] W fun e w' => e = .returned (.bool false) ∧ Below W.heap.size W w' from by
                have := ref15Right a1 a2 a3 a4 s W HSM.out
                rw [hrr] at this
                exact this))
              have K38 := Lib.hid (fun (W : World) (h : Met W) => (show Calls Tryd.prog 38 #[.agg #[.int .i64 a1, .int .i64 a2, .int .i64 a3, .int .i64 a4, .string s]] W fun e w' => e = .returned (.string TT) ∧ Below W.heap.size W w' from by
                rw [HTT.out]
                exact inbPrint a1 a2 a3 a4 s W HSM.out h))
              have K37 := Lib.hid (fun (W : World) (h : Met W) => (show Calls Tryd.prog 37 #[.string TT] W fun e w' => e = .returned (.tuple #[.agg (encR noR).toArray, .bool false]) ∧ Below W.heap.size W w' from by
                rw [HTT.out]
                have h1 := printL_len (a1, a2, a3, a4, s)
                have h3 : (⟨(printL (a1, a2, a3, a4, s)).toArray⟩ : ByteArray).size = (printL (a1, a2, a3, a4, s)).length := List.size_toArray
                have := inbRead ⟨(printL (a1, a2, a3, a4, s)).toArray⟩ W (by omega) h
                rw [show (⟨(printL (a1, a2, a3, a4, s)).toArray⟩ : ByteArray).data.toList = printL (a1, a2, a3, a4, s) from rfl, readR_print, hrr] at this
                exact this))
              simp only [encR, noR] at K37
              have hte : TT = ⟨#[]⟩ := by
                rw [HTT.out, printL, if_neg (by rw [hrr]; decide)]
              subst hte
              clear hrr
              go_wp2_with fail
              refine (K36.out _).mono ?_
              rintro e w7 ⟨rfl, hb⟩
              have HT6 := Lib.hid (HT6.out.below hb)
              have HQ6 := Lib.hid (HQ6.out.below hb)
              have HB6 := Lib.hid (HB6.out.trans (hb.mono HB6.out.size))
              clear hb
              clear q0 q1 q2 q3 q4
              have q0 := HQ6.out.cell 0
              have q1 := HQ6.out.cell 1
              have q2 := HQ6.out.cell 2
              have q3 := HQ6.out.cell 3
              have q4 := HQ6.out.cell 4
              simp only [encR, List.getElem?_cons_zero, List.getElem?_cons_succ] at q0 q1 q2 q3 q4
              go_wp2_with fail
              refine (K38.out _ (HM.out.below HB6.out)).mono ?_
              rintro e w8 ⟨rfl, hb⟩
              have HT6 := Lib.hid (HT6.out.below hb)
              have HQ6 := Lib.hid (HQ6.out.below hb)
              have HB6 := Lib.hid (HB6.out.trans (hb.mono HB6.out.size))
              clear hb
              go_wp2_with fail
              refine (K37.out _ (HM.out.below HB6.out)).mono ?_
              rintro e w9 ⟨rfl, hb⟩
              have HT6 := Lib.hid (HT6.out.below hb)
              have HQ6 := Lib.hid (HQ6.out.below hb)
              have HB6 := Lib.hid (HB6.out.trans (hb.mono HB6.out.size))
              clear hb
              have hb := below1 w9 (.cells #[.int .i64 0, .int .i64 0, .int .i64 0, .int .i64 0, .string ⟨#[]⟩] 75)
              have HY := Lib.hid (show BlkIs (w9.alloc (.cells #[.int .i64 0, .int .i64 0, .int .i64 0, .int .i64 0, .string ⟨#[]⟩] 75)) w9.heap.size (encR (0, 0, 0, 0, ⟨#[]⟩)) 75 from BlkIs.alloc w9 _ 75)
              have HT6 := Lib.hid (HT6.out.below hb)
              have HQ6 := Lib.hid (HQ6.out.below hb)
              have HB6 := Lib.hid (HB6.out.trans (hb.mono HB6.out.size))
              clear hb
              clear q0 q1 q2 q3 q4
              go_wp2_with fail
              generalize w9.alloc (.cells #[.int .i64 0, .int .i64 0, .int .i64 0, .int .i64 0, .string ⟨#[]⟩] 75) = W9 at *
              generalize w9.heap.size = y at *
              have q0 := HQ6.out.cell 0
              have q1 := HQ6.out.cell 1
              have q2 := HQ6.out.cell 2
              have q3 := HQ6.out.cell 3
              have q4 := HQ6.out.cell 4
              simp only [encR, List.getElem?_cons_zero, List.getElem?_cons_succ] at q0 q1 q2 q3 q4
              have hqz := HQ6.out.lt
              have hyz := HY.out.lt
              have HM9 := Lib.hid (HM.out.below HB6.out)
              have HD9 := Lib.hid (show Below W9.heap.size W9 W9.drew from (Below.refl _ _).drew)
              refine wp_region_held_drew (S := (fun w' => (∀ b o, b < (W9).heap.size → w'.cell? ⟨b, o, none⟩ = (W9).cell? ⟨b, o, none⟩) ∧ Below (W9).heap.size (W9) w')) (by kernel_rfl) (stay0 _) (fun hHeld => ?_)
              try dsimp only [List.size_toArray, List.length_cons, List.length_nil]
              refine takeL (i := 0) rfl (v := ?v0x1) (by kernel_rfl) (by kernel_rfl) (by kernel_rfl) (fun _ _ _ h => h) (Or.inl ⟨by rfl, fun _w _hSw => ?hy0x1⟩) (by assumption) ?rest0x1
              case hy0x1 =>
                (try dsimp only at _hSw)
                go_simp
                try with_reducible rfl
              try simp only [Act.put, List.setIfInBounds_toArray, List.set_cons_zero, List.set_cons_succ]
              refine takeL (i := 3) rfl (v := ?v3x1) (by kernel_rfl) (by kernel_rfl) (by kernel_rfl) (fun _ _ _ h => h) (Or.inl ⟨by rfl, fun _w _hSw => ?hy3x1⟩) (by assumption) ?rest3x1
              case hy3x1 =>
                (try dsimp only at _hSw)
                go_simp
                try with_reducible rfl
              try simp only [Act.put, List.setIfInBounds_toArray, List.set_cons_zero, List.set_cons_succ]
              refine wpAnyH_ready (rs := [1]) (by kernel_rfl) (by simp) (readyL rfl (fun K hK => ?_) AllReadyH.nil)
              go_simp
              with_reducible refine (K38.out _ (HM9.out.below HD9.out)).mono ?_
              rintro e w' ⟨rfl, hbA⟩
              have HA9 := Lib.hid (HD9.out.trans hbA); have hb := hbA
              try dsimp only
              refine hK.out _ _ (stay ‹_› ‹_›) (fun hHeld => ?_)
              clear hK K
              try simp only [Act.put, List.setIfInBounds_toArray, List.set_cons_zero, List.set_cons_succ]
              refine takeL (i := 2) rfl (v := ?v2x1) (by kernel_rfl) (by kernel_rfl) (by kernel_rfl) (fun _ _ _ h => h) (Or.inl ⟨by rfl, fun _w _hSw => ?hy2x1⟩) (by assumption) ?rest2x1
              case hy2x1 =>
                (try dsimp only at _hSw)
                go_simp
                try with_reducible rfl
              try simp only [Act.put, List.setIfInBounds_toArray, List.set_cons_zero, List.set_cons_succ]
              refine takeL (i := 4) rfl (v := ?v4x1) (by kernel_rfl) (by kernel_rfl) (by kernel_rfl) (fun _ _ _ h => h) (Or.inl ⟨by rfl, fun _w _hSw => ?hy4x1⟩) (by assumption) ?rest4x1
              case hy4x1 =>
                (try dsimp only at _hSw)
                go_simp
                try with_reducible rfl
              try simp only [Act.put, List.setIfInBounds_toArray, List.set_cons_zero, List.set_cons_succ]
              refine takeL (i := 5) rfl (v := ?v5x1) (by kernel_rfl) (by kernel_rfl) (by kernel_rfl) (fun _ _ _ h => h) (Or.inl ⟨by rfl, fun _w _hSw => ?hy5x1⟩) (by assumption) ?rest5x1
              case hy5x1 =>
                (try dsimp only at _hSw)
                go_simp
                try with_reducible rfl
              try simp only [Act.put, List.setIfInBounds_toArray, List.set_cons_zero, List.set_cons_succ]
              refine takeL (i := 6) rfl (v := ?v6x1) (by kernel_rfl) (by kernel_rfl) (by kernel_rfl) (fun _ _ _ h => h) (Or.inl ⟨by rfl, fun _w _hSw => ?hy6x1⟩) (by assumption) ?rest6x1
              case hy6x1 =>
                (try dsimp only at _hSw)
                go_simp
                try with_reducible rfl
              try simp only [Act.put, List.setIfInBounds_toArray, List.set_cons_zero, List.set_cons_succ]
              refine takeL (i := 7) rfl (v := ?v7x1) (by kernel_rfl) (by kernel_rfl) (by kernel_rfl) (fun _ _ _ h => h) (Or.inl ⟨by rfl, fun _w _hSw => ?hy7x1⟩) (by assumption) ?rest7x1
              case hy7x1 =>
                (try dsimp only at _hSw)
                go_simp
                try with_reducible rfl
              try simp only [Act.put, List.setIfInBounds_toArray, List.set_cons_zero, List.set_cons_succ]
              refine takeL (i := 8) rfl (v := ?v8x1) (by kernel_rfl) (by kernel_rfl) (by kernel_rfl) (fun _ _ _ h => h) (Or.inl ⟨by rfl, fun _w _hSw => ?hy8x1⟩) (by assumption) ?rest8x1
              case hy8x1 =>
                (try dsimp only at _hSw)
                go_simp
                try with_reducible rfl
              try simp only [Act.put, List.setIfInBounds_toArray, List.set_cons_zero, List.set_cons_succ]
              refine takeL (i := 9) rfl (v := ?v9x1) (by kernel_rfl) (by kernel_rfl) (by kernel_rfl) (fun _ _ _ h => h) (Or.inl ⟨by rfl, fun _w _hSw => ?hy9x1⟩) (by assumption) ?rest9x1
              case hy9x1 =>
                (try dsimp only at _hSw)
                go_simp
                try with_reducible rfl
              try simp only [Act.put, List.setIfInBounds_toArray, List.set_cons_zero, List.set_cons_succ]
              refine takeL (i := 10) rfl (v := ?v10x1) (by kernel_rfl) (by kernel_rfl) (by kernel_rfl) (fun _ _ _ h => h) (Or.inl ⟨by rfl, fun _w _hSw => ?hy10x1⟩) (by assumption) ?rest10x1
              case hy10x1 =>
                (try dsimp only at _hSw)
                go_simp
                try with_reducible rfl
              try simp only [Act.put, List.setIfInBounds_toArray, List.set_cons_zero, List.set_cons_succ]
              refine takeL (i := 11) rfl (v := ?v11x1) (by kernel_rfl) (by kernel_rfl) (by kernel_rfl) (fun _ _ _ h => h) (Or.inl ⟨by rfl, fun _w _hSw => ?hy11x1⟩) (by assumption) ?rest11x1
              case hy11x1 =>
                (try dsimp only at _hSw)
                go_simp
                try with_reducible rfl
              try simp only [Act.put, List.setIfInBounds_toArray, List.set_cons_zero, List.set_cons_succ]
              refine takeL (i := 12) rfl (v := ?v12x1) (by kernel_rfl) (by kernel_rfl) (by kernel_rfl) (fun _ _ _ h => h) (Or.inl ⟨by rfl, fun _w _hSw => ?hy12x1⟩) (by assumption) ?rest12x1
              case hy12x1 =>
                (try dsimp only at _hSw)
                go_simp
                try with_reducible rfl
              try simp only [Act.put, List.setIfInBounds_toArray, List.set_cons_zero, List.set_cons_succ]
              refine takeL (i := 13) rfl (v := undef) (by kernel_rfl) (by kernel_rfl) (by kernel_rfl) (fun _ _ _ h => h) (Or.inr ⟨by rfl, rfl⟩) (by assumption) ?_
              try simp only [Act.put, List.setIfInBounds_toArray, List.set_cons_zero, List.set_cons_succ]
              refine takeL (i := 14) rfl (v := undef) (by kernel_rfl) (by kernel_rfl) (by kernel_rfl) (fun _ _ _ h => h) (Or.inr ⟨by rfl, rfl⟩) (by assumption) ?_
              try simp only [Act.put, List.setIfInBounds_toArray, List.set_cons_zero, List.set_cons_succ]
              refine takeL (i := 15) rfl (v := undef) (by kernel_rfl) (by kernel_rfl) (by kernel_rfl) (fun _ _ _ h => h) (Or.inr ⟨by rfl, rfl⟩) (by assumption) ?_
              try simp only [Act.put, List.setIfInBounds_toArray, List.set_cons_zero, List.set_cons_succ]
              refine takeL (i := 16) rfl (v := undef) (by kernel_rfl) (by kernel_rfl) (by kernel_rfl) (fun _ _ _ h => h) (Or.inr ⟨by rfl, rfl⟩) (by assumption) ?_
              try simp only [Act.put, List.setIfInBounds_toArray, List.set_cons_zero, List.set_cons_succ]
              refine takeL (i := 17) rfl (v := undef) (by kernel_rfl) (by kernel_rfl) (by kernel_rfl) (fun _ _ _ h => h) (Or.inr ⟨by rfl, rfl⟩) (by assumption) ?_
              try simp only [Act.put, List.setIfInBounds_toArray, List.set_cons_zero, List.set_cons_succ]
              refine takeL (i := 18) rfl (v := undef) (by kernel_rfl) (by kernel_rfl) (by kernel_rfl) (fun _ _ _ h => h) (Or.inr ⟨by rfl, rfl⟩) (by assumption) ?_
              try simp only [Act.put, List.setIfInBounds_toArray, List.set_cons_zero, List.set_cons_succ]
              refine takeL (i := 19) rfl (v := undef) (by kernel_rfl) (by kernel_rfl) (by kernel_rfl) (fun _ _ _ h => h) (Or.inr ⟨by rfl, rfl⟩) (by assumption) ?_
              try simp only [Act.put, List.setIfInBounds_toArray, List.set_cons_zero, List.set_cons_succ]
              refine takeL (i := 20) rfl (v := undef) (by kernel_rfl) (by kernel_rfl) (by kernel_rfl) (fun _ _ _ h => h) (Or.inr ⟨by rfl, rfl⟩) (by assumption) ?_
              try simp only [Act.put, List.setIfInBounds_toArray, List.set_cons_zero, List.set_cons_succ]
              refine takeL (i := 21) rfl (v := undef) (by kernel_rfl) (by kernel_rfl) (by kernel_rfl) (fun _ _ _ h => h) (Or.inr ⟨by rfl, rfl⟩) (by assumption) ?_
              try simp only [Act.put, List.setIfInBounds_toArray, List.set_cons_zero, List.set_cons_succ]
              refine takeL (i := 22) rfl (v := undef) (by kernel_rfl) (by kernel_rfl) (by kernel_rfl) (fun _ _ _ h => h) (Or.inr ⟨by rfl, rfl⟩) (by assumption) ?_
              try simp only [Act.put, List.setIfInBounds_toArray, List.set_cons_zero, List.set_cons_succ]
              refine takeL (i := 23) rfl (v := ?v23x1) (by kernel_rfl) (by kernel_rfl) (by kernel_rfl) (fun _ _ _ h => h) (Or.inl ⟨by rfl, fun _w _hSw => ?hy23x1⟩) (by assumption) ?rest23x1
              case hy23x1 =>
                (try dsimp only at _hSw)
                go_simp
                try with_reducible rfl
              try simp only [Act.put, List.setIfInBounds_toArray, List.set_cons_zero, List.set_cons_succ]
              refine takeL (i := 24) rfl (v := ?v24x1) (by kernel_rfl) (by kernel_rfl) (by kernel_rfl) (fun _ _ _ h => h) (Or.inl ⟨by rfl, fun _w _hSw => ?hy24x1⟩) (by assumption) ?rest24x1
              case hy24x1 =>
                (try dsimp only at _hSw)
                go_simp
                try with_reducible rfl
              try simp only [Act.put, List.setIfInBounds_toArray, List.set_cons_zero, List.set_cons_succ]
              refine wpAnyH_done (by kernel_rfl) ?_ _
              have HT6 := Lib.hid (HT6.out.below HA9.out)
              have HB6 := Lib.hid (HB6.out.trans (HA9.out.mono HB6.out.size))
              go_wp2
              go_roundw
              case rel => exact ⟨k + 1, cv', by go_num, by omega, by rw [HAS.out]; exact HT6.out, HB6.out⟩
              case measure => simp [intOf] <;> omega
      · obtain rfl : k = n := by omega
        --REST2
        generalize hL : accR (xs.take k) = L at *
        clear hL
        have hl12 := HL12.out
        obtain ⟨TT, HTT⟩ : ∃ TT : ByteArray, Hid (TT = ⟨(inbL L).toArray⟩) := ⟨_, Lib.hid rfl⟩
        have KT := Lib.hid (fun (W : World) (b : Nat) (cv : Value) (h : IbAt b cv L W) (hm : Met W) => (show Calls Tryd.prog 41 #[.pointer (some ⟨b, 0, none⟩)] W fun e w' => e = .returned (.string TT) ∧ Below W.heap.size W w' from by
          rw [HTT.out]
          exact inbText b cv L W h HOK.out hm))
        have KRT := Lib.hid (fun (W : World) (v : Value) (h : OwnR W (b + 1) v L) => (show Calls Tryd.prog 44 #[v] W fun e w' => e = .returned (.string TT) ∧ Below W.heap.size W w' from by
          rw [HTT.out]
          exact ref15Text v L W h.sl HOK.out))
        have KP := Lib.hid (fun (W : World) (hm : Met W) => (show Calls Tryd.prog 40 #[.string TT] W (ParsePost L W) from by
          rw [HTT.out]
          exact inbParse L W HOK.out hm))
        have KS := Lib.hid (fun (W : World) (h : IbAt b cv L W) => (show Calls Tryd.prog 46 #[.int .i64 now, .slice (some ⟨W.heap.size, 0, none⟩) 1 1] (W.alloc (.cells #[.pointer (some ⟨b, 0, none⟩)] 72)) (SeenPost now [some (b, cv, L)] (W.alloc (.cells #[.pointer (some ⟨b, 0, none⟩)] 72))) from seenL now b cv L hl12 W h))
        clear HTT HC HN HM1 HB1 HB2 HT2
        go_wp2_with fail
        refine (KT.out _ b cv HT.out.1 (HM.out.below HB.out)).mono ?_
        rintro e w3 ⟨rfl, hb⟩
        have HT := Lib.hid (HT.out.below hb)
        have HB := Lib.hid (HB.out.trans (hb.mono HB.out.size))
        clear hb
        go_wp2_with fail
        refine (KP.out _ (HM.out.below HB.out)).mono ?_
        rintro e w4 hp
        unfold ParsePost at hp
        obtain ⟨c2, cc2, rfl, hci, _, hb⟩ := hp
        have HCI := Lib.hid hci
        clear hci
        have HT := Lib.hid (HT.out.below hb)
        have HB := Lib.hid (HB.out.trans (hb.mono HB.out.size))
        clear hb
        go_wp2_with fail
        refine (inbAll b cv L _ HT.out.1 (by omega)).mono ?_
        rintro e w5 ⟨v1, rfl, hs, hb⟩
        have Hv1 := Lib.hid hs
        have HT := Lib.hid (HT.out.below hb)
        have HCI := Lib.hid (HCI.out.below hb)
        have HB := Lib.hid (HB.out.trans (hb.mono HB.out.size))
        clear hb
        obtain ⟨pv1, cv1, rfl, _⟩ := id Hv1.out
        go_wp2_with fail
        refine (ref15Same _ _ L L w5 Hv1.out HT.out.2.1.sl (by omega) (by omega)).mono ?_
        rintro e w6 hp
        unfold SamePost at hp
        rw [decide_eq_true rfl] at hp
        obtain ⟨rfl, hb⟩ := hp
        have HT := Lib.hid (HT.out.below hb)
        have HCI := Lib.hid (HCI.out.below hb)
        have HB := Lib.hid (HB.out.trans (hb.mono HB.out.size))
        clear hb
        go_wp2_with fail
        refine (KT.out _ b cv HT.out.1 (HM.out.below HB.out)).mono ?_
        rintro e w7 ⟨rfl, hb⟩
        have HT := Lib.hid (HT.out.below hb)
        have HCI := Lib.hid (HCI.out.below hb)
        have HB := Lib.hid (HB.out.trans (hb.mono HB.out.size))
        clear hb
        go_wp2_with fail
        refine (KRT.out _ _ HT.out.2.1).mono ?_
        rintro e w8 ⟨rfl, hb⟩
        have HT := Lib.hid (HT.out.below hb)
        have HCI := Lib.hid (HCI.out.below hb)
        have HB := Lib.hid (HB.out.trans (hb.mono HB.out.size))
        clear hb
        go_wp2_with fail
        refine (inbLen b cv L _ HT.out.1 (by omega)).mono ?_
        rintro e w9 ⟨rfl, rfl⟩
        go_wp2_with fail
        refine (inbAll c2 cc2 L _ HCI.out (by omega)).mono ?_
        rintro e w10 ⟨v2, rfl, hs, hb⟩
        have Hv2 := Lib.hid hs
        have HT := Lib.hid (HT.out.below hb)
        have HCI := Lib.hid (HCI.out.below hb)
        have HB := Lib.hid (HB.out.trans (hb.mono HB.out.size))
        clear hb
        obtain ⟨pv2, cv2, rfl, _⟩ := id Hv2.out
        go_wp2_with fail
        refine (ref15Same _ _ L L w10 Hv2.out HT.out.2.1.sl (by omega) (by omega)).mono ?_
        rintro e w11 hp
        unfold SamePost at hp
        rw [decide_eq_true rfl] at hp
        obtain ⟨rfl, hb⟩ := hp
        have HT := Lib.hid (HT.out.below hb)
        have HCI := Lib.hid (HCI.out.below hb)
        have HB := Lib.hid (HB.out.trans (hb.mono HB.out.size))
        clear hb
        go_wp2_with fail
        refine (KS.out _ HT.out.1).mono ?_
        rintro e w12 hp
        unfold SeenPost at hp
        obtain ⟨v3, rfl, hs, hb⟩ := hp
        rw [show allX [some (b, cv, L)] = L by simp [allX, inX]] at hs
        have HV3 := Lib.hid hs
        have hb0 := below1 w11 (.cells #[.pointer (some ⟨b, 0, none⟩)] 72)
        have HT := Lib.hid ((HT.out.below hb0).below hb)
        have HB := Lib.hid ((HB.out.trans (hb0.mono HB.out.size)).trans (hb.mono (Nat.le_trans HB.out.size hb0.size)))
        obtain ⟨p3, c3, rfl, _⟩ := id HV3.out
        clear hb hb0 hs
        go_wp2_with fail
        refine (ref15Seen now _ L w12 HT.out.2.1.sl (by omega)).mono ?_
        rintro e w13 hp
        unfold RefPost at hp
        obtain ⟨v4, rfl, hs, hb⟩ := hp
        have HV3 := Lib.hid (HV3.out.below hb)
        have HV4 := Lib.hid hs
        have HB := Lib.hid (HB.out.trans (hb.mono HB.out.size))
        obtain ⟨p4, c4, rfl, _⟩ := id HV4.out
        have hsl := seenR_len now L
        clear hb hs
        go_wp2_with fail
        refine (ref15Same _ _ (seenR now L) (seenR now L) w13 HV3.out HV4.out (by omega) (by omega)).mono ?_
        rintro e w14 hp
        unfold SamePost at hp
        rw [decide_eq_true rfl] at hp
        obtain ⟨rfl, hb⟩ := hp
        have HB := Lib.hid (HB.out.trans (hb.mono HB.out.size))
        clear hb
        go_wp2
        go_ret
        exact ⟨rfl, HB.out⟩
end Go.Proofs.YtbbcicengfmhiaaDoor

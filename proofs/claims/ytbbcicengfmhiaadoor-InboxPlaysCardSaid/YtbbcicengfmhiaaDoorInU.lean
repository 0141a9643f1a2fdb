/- The document's Seen. Conditions: few releases. -/
import Derived.Test.YtbbcicengfmhiaaDoorIn9
import Derived.Test.YtbbcicengfmhiaaDoorIn5
import Derived.Test.YtbbcicengfmhiaaDoorInR
import Derived.Deep.RegionHeld3
namespace Go.Proofs.YtbbcicengfmhiaaDoor
set_option maxRecDepth 100000
open Go.RowKit

def snocR (l : List Rel) (r : Rel) : List Rel := l ++ [r]
theorem snocR_eq (l : List Rel) (r : Rel) : snocR l r = l ++ [r] := rfl
/-- a row of one's own with releases -/
def OwnR (w : World) (B : Nat) (v : Value) (l : List Rel) : Prop := w.ownsRow B 75 5 v l.length (l.flatMap encR)
/-- one release more behind a row of one's own -/
theorem wpList_appR {X : World} {ops : Array Oper} {rest : List Oper} {o : Oper} {a : Act} {Q : Exit → Act → World → Prop} (hgd : o.guard = none) (s x : Operand) (ho : o.op = .call { callee := .builtin .append, args := #[s, x], argTypes := #[71, 71] })
    (base : Nat) (v : Value) (l : List Rel) (r : Rel) (hs : a.eval s = v) (hown : X.ownsRow base 75 5 v l.length (l.flatMap encR)) (hx : a.eval x = .slice (some ⟨X.heap.size, 0, none⟩) 1 1) (hl : l.length ≤ 1000) (hbase : base ≤ X.heap.size)
    (h : ∀ v' w', Hid (OwnR w' base v' (snocR l r)) → Hid (∀ w0, Below base w0 X → Below base w0 w') → wpList Tryd.prog ops Q rest (a.put o.dst v') w') : wpList Tryd.prog ops Q (o :: rest) a (X.alloc (.cells (encR r).toArray 75)) := by
  obtain ⟨i0, z, hi, hz0, hz1, hz2, hzs⟩ := info_cloneR
  have hb := below1 X (.cells (encR r).toArray 75)
  refine wpList_append_own _ hgd s x 71 ho base 75 i0 z 5 48 Tryd.underlying71 hi hz0 hz1 hz2 hzs (by decide) v l.length (l.flatMap encR) hs (owns_below hown hb) ⟨X.heap.size, 0, none⟩ 1 1 (encR r) hx (by rw [encR_len]) ?_ (by simp [encR, Value.oneCell']) (by unfold maxLen; omega) (by omega) (Nat.le_trans hbase hb.size) ?_
  · intro j u hj
    rw [Go.WideShapes.add_plain, Nat.zero_add]
    exact (BlkIs.alloc X (encR r) 75).cell j |>.trans hj
  · intro v' w' ho' hg _
    refine h v' w' (Lib.hid (by unfold OwnR snocR; rw [List.length_append, List.flatMap_append]; simpa using ho')) (Lib.hid fun w0 h0 => ?_)
    exact (h0.trans (hb.mono hbase)).grown hg (Nat.le_trans hbase hb.size) (owns_block hown)
theorem owns_base {w : World} {b b2 : Nat} {e : TypeId} {size : Nat} {v : Value} {n : Nat} {xs : List Value} (h : w.ownsRow b e size v n xs) (hb : b2 ≤ b) : w.ownsRow b2 e size v n xs := by
  refine ⟨h.1, ?_⟩
  rcases h.2 with h2 | ⟨g, cap, cur, hv, hg, hr⟩
  · exact .inl h2
  · exact .inr ⟨g, cap, cur, hv, Nat.le_trans hb hg, hr⟩
/-- those of the first i that are seen -/
def seenP (now : Int) (l : List Rel) (i : Nat) : List Rel := ((l.take i).filter fun r => decide (r.1 < now)).foldl (fun o x => insR x o) []
theorem seenP_succ {now : Int} {l : List Rel} {i : Nat} (hi : i < l.length) : seenP now l (i + 1) = if l[i]!.1 < now then insR l[i]! (seenP now l i) else seenP now l i := by
  unfold seenP
  rw [filter_succ hi, List.foldl_append]
  by_cases h : l[i]!.1 < now
  · rw [if_pos (by simpa using h), if_pos h]; rfl
  · rw [if_neg (by simpa using h), if_neg h]; rfl
theorem seenP_len (now : Int) (l : List Rel) : ∀ i, i ≤ l.length → (seenP now l i).length ≤ i := by
  intro i
  induction i with
  | zero => intro _; simp [seenP]
  | succ i ih =>
    intro h
    rw [seenP_succ (by omega)]
    have := ih (by omega)
    split
    · rw [insR_len]; omega
    · omega
theorem seenP_all (now : Int) (l : List Rel) : seenP now l l.length = seenR now l := by unfold seenP seenR; rw [List.take_length]
def tailR (x : Rel) (d : Bool) (r : List Rel) : List Rel := if d then r else insR x r
theorem tail_step (x y : Rel) (r : List Rel) : (lessR x y = true → tailR x false (y :: r) = x :: y :: tailR x true r) ∧ (lessR x y = false → tailR x false (y :: r) = y :: tailR x false r) ∧ tailR x true (y :: r) = y :: tailR x true r := by
  refine ⟨fun h => ?_, fun h => ?_, rfl⟩
  · show insR x (y :: r) = _
    rw [insR, if_pos h]; rfl
  · show insR x (y :: r) = _
    rw [insR, if_neg (by simp [h])]; rfl
def RefPost (now : Int) (l : List Rel) (w : World) (e : Ending) (w' : World) : Prop := ∃ v', e = .returned v' ∧ SlAt 5 encR w' v' (seenR now l) ∧ Below w.heap.size w w'
set_option maxHeartbeats 4000000 in
theorem ref15Seen (now : Int) (v : Value) (l : List Rel) (w : World) (hS : SlAt 5 encR w v l) (hl : l.length ≤ 100) : Calls Tryd.prog 47 #[.int .i64 now, v] w (RefPost now l w) := by
  have HFIN := Lib.hid (fun (v' : Value) (w' : World) (h1 : w'.ownsRow w.heap.size 75 5 v' (seenP now l l.length).length ((seenP now l l.length).flatMap encR)) (h2 : Below w.heap.size w w') => (show RefPost now l w (.returned v') w' from ⟨v', rfl, by rw [← seenP_all]; exact SlAt.of_owns (enc := encR) (k := 5) encR_len h1, h2⟩))
  obtain ⟨pp, c, rfl, _, hcl⟩ := hS
  have HC := Lib.hid hcl
  clear hcl
  generalize hn : l.length = n at *
  have HN := Lib.hid hn
  clear hn
  go_enter Tryd.func47, Tryd.ntmps47
  go_wp2
  go_loopw [5, 6, 7, 8, 9] (fun s5 s6 _ _ _ wr => ∃ i : Nat, s6 = .int .i64 i ∧ i ≤ n ∧ wr.ownsRow w.heap.size 75 5 s5 (seenP now l i).length ((seenP now l i).flatMap encR) ∧ Below w.heap.size w wr) (fun _ s6 _ _ _ _ => n - (intOf s6).toNat)
  case atStart => exact ⟨0, by go_num, by omega, ⟨rfl, .inl ⟨rfl, rfl⟩⟩, Below.refl _ _⟩
  case round =>
    obtain ⟨i, rfl, hi, hown, hB⟩ := hrel
    obtain ⟨po, co, rfl⟩ := row_slice hown
    have HO := Lib.hid hown
    have HB := Lib.hid hB
    clear hown hB
    obtain ⟨wo, rfl⟩ : ∃ wo : World, wo = wr := ⟨_, rfl⟩
    by_cases hlt : i < n
    · have hltz : (i : Int) < (n : Int) := by omega
      obtain ⟨g, off, rfl, hg, hc⟩ := HC.out (by omega)
      have hgo : g < wo.heap.size := Nat.lt_of_lt_of_le hg HB.out.size
      have x0 := (HB.out.cell (p := ⟨g, off + i * 5, none⟩) hg).trans (hc i (by omega) 0 _ rfl)
      have x1 := (HB.out.cell (p := ⟨g, off + i * 5 + 1, none⟩) hg).trans (hc i (by omega) 1 _ rfl)
      have x2 := (HB.out.cell (p := ⟨g, off + i * 5 + 1 + 1, none⟩) hg).trans (hc i (by omega) 2 _ rfl)
      have x3 := (HB.out.cell (p := ⟨g, off + i * 5 + 1 + 1 + 1, none⟩) hg).trans (hc i (by omega) 3 _ rfl)
      have x4 := (HB.out.cell (p := ⟨g, off + i * 5 + 1 + 1 + 1 + 1, none⟩) hg).trans (hc i (by omega) 4 _ rfl)
      have HSU := Lib.hid (seenP_succ (now := now) (l := l) (i := i) (by have := HN.out; omega))
      have HSL := Lib.hid (seenP_len now l i (by have := HN.out; omega))
      clear hc
      obtain ⟨P, hP⟩ : ∃ P, P = seenP now l i := ⟨_, rfl⟩
      rw [← hP] at HO HSU HSL ⊢
      clear hP
      generalize l[i]! = x at *
      obtain ⟨a1, a2, a3, a4, s⟩ := x
      by_cases hnow : a1 < now
      · have HX := Lib.hid (show seenP now l (i + 1) = insR (a1, a2, a3, a4, s) P by rw [HSU.out, if_pos hnow])
        have hnz : ¬ (now ≤ a1) := by omega
        have HXC := Lib.hid (show ∀ W, Below wo.heap.size wo W → W.cell? ⟨g, off + i * 5, none⟩ = some (.int .i64 a1) ∧ W.cell? ⟨g, off + i * 5 + 1, none⟩ = some (.int .i64 a2) ∧ W.cell? ⟨g, off + i * 5 + 1 + 1, none⟩ = some (.int .i64 a3) ∧ W.cell? ⟨g, off + i * 5 + 1 + 1 + 1, none⟩ = some (.int .i64 a4) ∧ W.cell? ⟨g, off + i * 5 + 1 + 1 + 1 + 1, none⟩ = some (.string s) from fun W hb => ⟨(hb.cell (p := ⟨g, _, none⟩) hgo).trans x0, (hb.cell (p := ⟨g, _, none⟩) hgo).trans x1, (hb.cell (p := ⟨g, _, none⟩) hgo).trans x2, (hb.cell (p := ⟨g, _, none⟩) hgo).trans x3, (hb.cell (p := ⟨g, _, none⟩) hgo).trans x4⟩)
        go_wp2
        clear x0 x1 x2 x3 x4
        obtain ⟨p', c', hpc, _, hpl⟩ := (SlAt.of_owns (enc := encR) (k := 5) encR_len HO.out : SlAt 5 encR wo _ P)
        simp only [Value.slice.injEq] at hpc
        obtain ⟨rfl, _, rfl⟩ := hpc
        have HPL := Lib.hid hpl
        clear hpl
        go_loopw [7, 8, 9] (fun s7 s8 s9 wr => ∃ (k : Nat) (d : Bool) (nl : List Rel), s9 = .int .i64 k ∧ k ≤ P.length ∧ s8 = .bool d ∧ wr.ownsRow wo.heap.size 75 5 s7 nl.length (nl.flatMap encR) ∧ Below wo.heap.size wo wr ∧ insR (a1, a2, a3, a4, s) P = nl ++ tailR (a1, a2, a3, a4, s) d (P.drop k)) (fun _ _ s9 _ => P.length - (intOf s9).toNat)
        case atStart => exact ⟨0, false, [], by go_num, by omega, rfl, ⟨rfl, .inl ⟨rfl, rfl⟩⟩, Below.refl _ _, rfl⟩
        case round =>
          obtain ⟨k, d, nl, rfl, hk, rfl, hown, hB, hE⟩ := hrel
          obtain ⟨pn, cn, rfl⟩ := row_slice hown
          have HN1 := Lib.hid hown
          have HBW := Lib.hid hB
          have hnl : nl.length ≤ 101 := by
            have h1 := insR_len (a1, a2, a3, a4, s) P
            rw [hE, List.length_append] at h1
            have := HSL.out
            omega
          have HE := Lib.hid hE
          have HNL := Lib.hid hnl
          clear hown hB hE hnl
          obtain ⟨m, hm⟩ : ∃ m, m = P.length := ⟨_, rfl⟩
          have HM := Lib.hid hm
          rw [← hm] at hk ⊢
          clear hm
          have hm1 : m ≤ 1000 := by have := HM.out; have := HSL.out; omega
          by_cases hkl : k < m
          · have hklz : (k : Int) < (m : Int) := by omega
            have hkP : k < P.length := by have := HM.out; omega
            obtain ⟨g2, off2, rfl, hg2, hc2⟩ := HPL.out (by omega)
            have hy0 := hc2 k hkP 0 _ rfl
            have hy1 := hc2 k hkP 1 _ rfl
            have hy2 := hc2 k hkP 2 _ rfl
            have hy3 := hc2 k hkP 3 _ rfl
            have hy4 := hc2 k hkP 4 _ rfl
            have HD := Lib.hid (drop_cons hkP)
            clear hc2 hkP
            generalize P[k]! = y at *
            obtain ⟨b1, b2, b3, b4, t⟩ := y
            have HYC := Lib.hid (show ∀ W, Below wo.heap.size wo W → W.cell? ⟨g2, off2 + k * 5, none⟩ = some (.int .i64 b1) ∧ W.cell? ⟨g2, off2 + k * 5 + 1, none⟩ = some (.int .i64 b2) ∧ W.cell? ⟨g2, off2 + k * 5 + 1 + 1, none⟩ = some (.int .i64 b3) ∧ W.cell? ⟨g2, off2 + k * 5 + 1 + 1 + 1, none⟩ = some (.int .i64 b4) ∧ W.cell? ⟨g2, off2 + k * 5 + 1 + 1 + 1 + 1, none⟩ = some (.string t) from fun W hb => ⟨(hb.cell (p := ⟨g2, _, none⟩) hg2).trans hy0, (hb.cell (p := ⟨g2, _, none⟩) hg2).trans hy1, (hb.cell (p := ⟨g2, _, none⟩) hg2).trans hy2, (hb.cell (p := ⟨g2, _, none⟩) hg2).trans hy3, (hb.cell (p := ⟨g2, _, none⟩) hg2).trans hy4⟩)
            clear hy0 hy1 hy2 hy3 hy4
            have HT := Lib.hid (tail_step (a1, a2, a3, a4, s) (b1, b2, b3, b4, t) (P.drop (k + 1)))
            cases d with
            | true =>
              have HE1 := Lib.hid (show insR (a1, a2, a3, a4, s) P = (snocR nl (b1, b2, b3, b4, t)) ++ tailR (a1, a2, a3, a4, s) true (P.drop (k + 1)) by
                rw [HE.out, HD.out, HT.out.2.2]; simp [snocR])
              go_wp2_with fail
              go_quiet (fail)
              obtain ⟨y0, y1, y2, y3, y4⟩ := HYC.out _ (belowN HBW.out nq)
              go_wp2_with (at_builtin; refine wpList_appR rfl (.tmp 49) (.tmp 54) rfl wo.heap.size _ nl (b1, b2, b3, b4, t) rfl (owns_below HN1.out (belowN (Below.refl _ _) nq)) rfl (by have := HNL.out; omega) HBW.out.size ?_)
              intro v2 w2 HO2 HBF
              have HB2 := Lib.hid (HBF.out wo (belowN HBW.out nq))
              clear HBF y0 y1 y2 y3 y4
              go_wp2
              go_roundw
              case rel => exact ⟨k + 1, true, _, by go_num, by have := HM.out; omega, rfl, HO2.out, HB2.out, HE1.out⟩
              case measure => have := HM.out; simp [intOf] <;> omega
            | false =>
              have KL := Lib.hid (fun W => ref15Less (a1, a2, a3, a4, s) (b1, b2, b3, b4, t) W)
              simp only [encR] at KL
              obtain ⟨x0, x1, x2, x3, x4⟩ := HXC.out _ HBW.out
              obtain ⟨y0, y1, y2, y3, y4⟩ := HYC.out _ HBW.out
              have hgw : g < wr.heap.size := Nat.lt_of_lt_of_le hgo HBW.out.size
              have hgw2 : g2 < wr.heap.size := Nat.lt_of_lt_of_le hg2 HBW.out.size
              have hi0 : (0 : Int) ≤ (i : Int) := by omega
              have hk0 : (0 : Int) ≤ (k : Int) := by omega
              generalize hls : lessR (a1, a2, a3, a4, s) (b1, b2, b3, b4, t) = ls at KL
              have HLS := Lib.hid hls
              clear hls
              go_wp2_with fail
              go_region_held3 (fun w' => (∀ b o, b < (wr).heap.size → w'.cell? ⟨b, o, none⟩ = (wr).cell? ⟨b, o, none⟩) ∧ Below (wr).heap.size (wr) w') (first | exact stay0 _ | exact stay ‹_› ‹_›) ((go_at_call 99; (with_reducible refine (KL.out _).mono ?_); rintro e w' ⟨rfl, hb⟩))
              have HB3 := Lib.hid (HBW.out.trans (((Below.refl _ _).drew.trans hb : Below wr.heap.size wr w').mono HBW.out.size))
              have HN3 := Lib.hid (owns_below HN1.out ((Below.refl _ _).drew.trans hb : Below wr.heap.size wr w'))
              rename (∀ (b o : Nat), b < wr.heap.size → _) ∧ _ => hh
              clear hh hb x0 x1 x2 x3 x4 y0 y1 y2 y3 y4
              cases ls with
              | true =>
                have HE1 := Lib.hid (show insR (a1, a2, a3, a4, s) P = (snocR (snocR nl (a1, a2, a3, a4, s)) (b1, b2, b3, b4, t)) ++ tailR (a1, a2, a3, a4, s) true (P.drop (k + 1)) by
                  rw [HE.out, HD.out, HT.out.1 HLS.out]; simp [snocR])
                obtain ⟨x0, x1, x2, x3, x4⟩ := HXC.out _ HB3.out
                go_wp2_with (at_builtin; refine wpList_appR rfl (.tmp 42) (.tmp 47) rfl wo.heap.size _ nl (a1, a2, a3, a4, s) rfl HN3.out rfl (by have := HNL.out; omega) HB3.out.size ?_)
                intro v2 w2 HO2 HBF
                have HB2 := Lib.hid (HBF.out wo HB3.out)
                obtain ⟨pv2, cv2, rfl⟩ := row_slice HO2.out
                clear HBF x0 x1 x2 x3 x4
                obtain ⟨y0, y1, y2, y3, y4⟩ := HYC.out _ HB2.out
                go_wp2_with (at_builtin; refine wpList_appR rfl (.tmp 49) (.tmp 54) rfl wo.heap.size _ (snocR nl (a1, a2, a3, a4, s)) (b1, b2, b3, b4, t) rfl HO2.out rfl (by have := HNL.out; rw [snocR_eq, List.length_append, List.length_singleton]; omega) HB2.out.size ?_)
                intro v4 w4 HO4 HBF
                have HB4 := Lib.hid (HBF.out wo HB2.out)
                clear HBF y0 y1 y2 y3 y4
                go_wp2
                go_roundw
                case rel => exact ⟨k + 1, true, _, by go_num, by have := HM.out; omega, rfl, HO4.out, HB4.out, HE1.out⟩
                case measure => have := HM.out; simp [intOf] <;> omega
              | false =>
                have HE1 := Lib.hid (show insR (a1, a2, a3, a4, s) P = (snocR nl (b1, b2, b3, b4, t)) ++ tailR (a1, a2, a3, a4, s) false (P.drop (k + 1)) by
                  rw [HE.out, HD.out, HT.out.2.1 HLS.out]; simp [snocR])
                obtain ⟨y0, y1, y2, y3, y4⟩ := HYC.out _ HB3.out
                go_wp2_with (at_builtin; refine wpList_appR rfl (.tmp 49) (.tmp 54) rfl wo.heap.size _ nl (b1, b2, b3, b4, t) rfl HN3.out rfl (by have := HNL.out; omega) HB3.out.size ?_)
                intro v4 w4 HO4 HBF
                have HB4 := Lib.hid (HBF.out wo HB3.out)
                clear HBF y0 y1 y2 y3 y4
                go_wp2
                go_roundw
                case rel => exact ⟨k + 1, false, _, by go_num, by have := HM.out; omega, rfl, HO4.out, HB4.out, HE1.out⟩
                case measure => have := HM.out; simp [intOf] <;> omega
          · obtain rfl : k = m := by omega
            have HDN := Lib.hid (show P.drop k = [] by rw [HM.out]; exact List.drop_length)
            rw [HDN.out] at HE
            cases d with
            | true =>
              have HX2 := Lib.hid (show seenP now l (i + 1) = nl by rw [HX.out, HE.out]; simp [tailR])
              go_wp2
              go_roundw
              case rel => exact ⟨i + 1, by go_num, by omega, by rw [HX2.out]; exact owns_base HN1.out HB.out.size, HB.out.trans (HBW.out.mono HB.out.size)⟩
              case measure => simp [intOf] <;> omega
            | false =>
              have HX2 := Lib.hid (show seenP now l (i + 1) = snocR nl (a1, a2, a3, a4, s) by rw [HX.out, HE.out]; simp [tailR, insR, snocR])
              obtain ⟨x0, x1, x2, x3, x4⟩ := HXC.out _ HBW.out
              go_wp2_with (at_builtin; refine wpList_appR rfl (.tmp 58) (.tmp 63) rfl wo.heap.size _ nl (a1, a2, a3, a4, s) rfl HN1.out rfl (by have := HNL.out; omega) HBW.out.size ?_)
              intro v2 w2 HO2 HBF
              have HB2 := Lib.hid (HBF.out wo HBW.out)
              clear HBF x0 x1 x2 x3 x4
              go_wp2
              go_roundw
              case rel => exact ⟨i + 1, by go_num, by omega, by rw [HX2.out]; exact owns_base HO2.out HB.out.size, HB.out.trans (HB2.out.mono HB.out.size)⟩
              case measure => simp [intOf] <;> omega
      · have HX := Lib.hid (show seenP now l (i + 1) = P by rw [HSU.out, if_neg hnow])
        have hnz : now ≤ a1 := by omega
        go_wp2
        go_roundw
        case rel => exact ⟨i + 1, by go_num, by omega, by rw [HX.out]; exact HO.out, HB.out⟩
        case measure => simp [intOf] <;> omega
    · obtain rfl : i = n := by omega
      go_wp2
      go_ret
      exact HFIN.out _ _ HO.out HB.out
end Go.Proofs.YtbbcicengfmhiaaDoor

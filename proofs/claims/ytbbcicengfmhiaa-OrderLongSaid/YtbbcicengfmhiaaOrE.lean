/- order.Long. Conditions: sizes. -/
import Derived.Test.YtbbcicengfmhiaaOrD
import Derived.Test.YtbbcicengfmhiaaOrd2
import Derived.RegionTactic
import Derived.ChangeAlike
import Derived.BigRegion
namespace Go.Proofs.Ytbbcicengfmhiaa
set_option maxRecDepth 100000
open Go.RowKit

/-- a block of ints -/
def IntsAt (bm : Nat) (d : List Int) (w : World) : Prop := w.heap[bm]? = some (.cells (d.map (Value.int .i64)).toArray 3 (0, 0))
theorem IntsAt.lt {bm : Nat} {d : List Int} {w : World} (h : IntsAt bm d w) : bm < w.heap.size := (Array.getElem?_eq_some_iff.1 h).1
theorem IntsAt.cell {bm : Nat} {d : List Int} {w : World} (h : IntsAt bm d w) {a : Nat} (ha : a < d.length) : w.cell? ⟨bm, a, none⟩ = some (.int .i64 d[a]!) ∧ w.frozen? ⟨bm, a, none⟩ = false := by
  refine ⟨?_, Lib.frozen_of_heap h a⟩
  rw [Lib.cell_of_heap h, getElem!_pos d a ha]
  simp [ha]
theorem IntsAt.set {bm : Nat} {d : List Int} {w : World} (h : IntsAt bm d w) (a : Nat) (x : Int) : IntsAt bm (d.set a x) (w.setCell ⟨bm, a, none⟩ (.int .i64 x)) := by
  unfold IntsAt
  rw [Joins.block_setCell h]
  simp [List.map_set]
theorem IntsAt.drewN {bm : Nat} {d : List Int} {w : World} (h : IntsAt bm d w) (q : Nat) : IntsAt bm d (w.drewN q) := h
theorem made_ints (n : Nat) : (madeCells #[Value.int .i64 0] n).toList = (List.replicate n (0 : Int)).map (Value.int .i64) := by
  apply List.ext_getElem
  · simp [madeCells]
  · intro j h1 h2
    simp [madeCells, Nat.mod_one]
def longP (nm : ByteArray) (ts : List TaskV) : Int := (longF (afters ts) (orderP nm ts) (orderP nm ts).length).2
theorem afOk_of {ts : List TaskV} (h : AftIn ts) : AfOk (afters ts) := by
  intro j hj a ha
  rw [afters_len] at hj
  rw [afters_at hj] at ha
  obtain ⟨k, hk, rfl⟩ := List.getElem_of_mem ha
  have := h j hj k hk
  rw [getElem!_pos _ k hk] at this
  rw [afters_len]
  exact this
theorem rowFactsP {nm : ByteArray} {ts : List TaskV} {k : Nat} (hk : k < (orderP nm ts).length) : RowFacts (afters ts) (orderP nm ts) k ∧ AftIn ts := by
  unfold orderP at hk ⊢
  split at hk
  · rename_i hq
    rw [if_pos hq]
    unfold orderL at hk ⊢
    cases h : ordF (afters ts) (afters ts).length with
    | none => rw [h] at hk; simp at hk
    | some s =>
      obtain ⟨d, l⟩ := s
      rw [h] at hk
      exact ⟨rowFacts (afOk_of (aftIn_of hq)) h hk, aftIn_of hq⟩
  · simp at hk
theorem orderP_len (nm : ByteArray) (ts : List TaskV) : (orderP nm ts).length ≤ ts.length := by
  unfold orderP
  split
  · unfold orderL
    cases h : ordF (afters ts) (afters ts).length with
    | none => simp
    | some s =>
      obtain ⟨d, l⟩ := s
      have := (ordF_inv _ _ _ _ h).num
      rw [afters_len] at this
      show l.length ≤ _
      omega
  · simp

set_option maxHeartbeats 8000000 in
theorem ordLong (nm : ByteArray) (vt : Value) (ts : List TaskV) (w : World) (h : TasksAt w vt ts) (hok : okTs ts) (hnm : nm.size ≤ maxLen) (hbig : ts.length ≤ 1000) :
    Calls Try.prog 7 #[.agg #[.string nm, vt]] w fun e w' => e = .returned (.int .i64 (longP nm ts)) ∧ Below w.heap.size w w' := by
  obtain ⟨i0, hi, hq0, hq1, hq2⟩ := info_int
  have HP := Lib.hid (PipeAt.mk (nm := nm) h)
  have HB0 := Lib.hid (below1 w (.cells #[.string nm, vt] 24))
  have K1 := Lib.hid (fun W (hW : TasksAt W vt ts) => ordOrder nm vt ts W hW hok hnm)
  have HLA := Lib.hid (fun j (hj : j < ts.length) => (hok.2 j hj).2.2.1)
  have HRF := Lib.hid (fun k (hk : k < (orderP nm ts).length) => rowFactsP hk)
  have HRE := Lib.hid (show longP nm ts = (longF (afters ts) (orderP nm ts) (orderP nm ts).length).2 from rfl)
  have HOL := Lib.hid (orderP_len nm ts)
  have HAL := Lib.hid (afters_len ts)
  generalize longP nm ts = R at HRE ⊢
  generalize orderP nm ts = l at K1 HRF HRE HOL
  generalize orderQ nm ts = oq at K1
  obtain ⟨p, c, rfl, hp⟩ := h.val
  have HPP := Lib.hid hp
  clear hp hok hnm h
  generalize hn : ts.length = n at *
  have HN := Lib.hid hn
  clear hn
  generalize hm : l.length = m at HRE HOL HRF
  have HM := Lib.hid hm
  clear hm
  have hmn : m ≤ n := HOL.out
  go_enter Try.func7, Try.ntmps7
  obtain ⟨_, c0, c1, hts⟩ := id HP.out
  have HT0 := Lib.hid hts
  clear hts
  go_wp2_with fail
  generalize w.alloc (.cells #[.string nm, .slice p n c] 24) = W0 at HP HB0 HT0 c0 c1 ⊢
  refine (K1.out W0 HT0.out).mono ?_
  rintro e w1 ⟨v1, rfl, hs, hb⟩
  have HP1 := Lib.hid (HP.out.below hb)
  have HB1 := Lib.hid (HB0.out.trans (hb.mono HB0.out.size))
  have HS1 := Lib.hid hs
  obtain ⟨p1, c1', rfl, _⟩ := id hs
  rw [HM.out]
  clear hb c0 c1 HT0 HP HB0 hs
  obtain ⟨_, c0, c1, ht1⟩ := id HP1.out
  clear ht1
  go_wp2_with (refine wpList_make_full _ rfl _ _ 29 rfl w1.heap.size 3 i0 (.int .i64 0) 1 Try.underlying29 hi hq0 hq1 _ _ (n : Int) (n : Int) n rfl rfl rfl rfl ?q1 ?q2 ?q3 ?_)
  case q1 => rw [hq2]; omega
  case q2 => unfold maxLen; omega
  case q3 => exact Nat.le_refl _
  intro wm hown hg
  rw [made_ints] at hown
  have HI0 := Lib.hid (show IntsAt w1.heap.size (List.replicate n 0) wm from owns_full hown)
  have HBW := Lib.hid ((Below.refl w1.heap.size w1).grown hg (Nat.le_refl _) (fun k hk => by cases hk))
  clear hown hg hi hq0 hq1 hq2 c0 c1
  go_wp2_with fail
  generalize hbm : w1.heap.size = bm at *
  have HBM := Lib.hid hbm
  clear hbm
  go_loopw [2, 21] (fun v2 t wr => ∃ k : Nat, k ≤ m ∧ t = .int .i64 k ∧ v2 = .int .i64 (longF (afters ts) l k).2 ∧ Below bm w1 wr ∧ IntsAt bm (longF (afters ts) l k).1 wr) (fun _ t _ => m - (intOf t).toNat)
  case atStart => exact ⟨0, by omega, rfl, rfl, HBW.out, by
    have : (longF (afters ts) l 0).1 = List.replicate n 0 := by
      show List.replicate (afters ts).length (0 : Int) = _
      rw [HAL.out]
    rw [this]; exact HI0.out⟩
  case round =>
    obtain ⟨k, hk, rfl, rfl, hb, hia⟩ := hrel
    have HB := Lib.hid hb
    have HIA := Lib.hid hia
    have HLN := Lib.hid ((longF_len (afters ts) l k).trans HAL.out)
    clear hb hia
    by_cases hlt : k < m
    · have hltz : (k : Int) < (m : Int) := by omega
      have HSr := Lib.hid (HS1.out.below (by rw [HBM.out]; exact HB.out))
      have hsl := HSr.out
      rw [HM.out] at hsl
      obtain ⟨b1, o1, hp1, hck⟩ := hsl.cellI (k := k) (by have := HM.out; omega)
      subst hp1
      obtain ⟨⟨⟨j, hj1, hj2⟩, hnn, hle⟩, haf⟩ := HRF.out k hlt
      rw [hj1] at hck hnn hle
      simp only [Int.toNat_natCast] at hnn hle
      have hjn : j < n := by have := HAL.out; omega
      have hjz : (j : Int) < (n : Int) := by omega
      have haj : (afters ts)[j]! = ts[j]!.after := afters_at (by have := HN.out; omega)
      rw [haj] at hnn hle
      have HNNF := Lib.hid hnn
      have HLEF := Lib.hid hle
      have HAF := Lib.hid (haf j (by have := HN.out; omega))
      have HFS := Lib.hid (show longF (afters ts) l (k + 1) = (farK ts[j]!.after (j : Int) (longF (afters ts) l k).1 ts[j]!.after.length, max (longF (afters ts) l k).2 (farK ts[j]!.after (j : Int) (longF (afters ts) l k).1 ts[j]!.after.length)[j]!) by
        rw [longF_succ _ _ (by have := HM.out; omega), hj1]
        unfold farStep
        simp only [Int.toNat_natCast]
        rw [haj])
      have HPr := Lib.hid (HP1.out.below (by rw [HBM.out]; exact HB.out))
      obtain ⟨b, off, rfl⟩ := HPP.out (by omega)
      have HTK := Lib.hid (HPr.out.2.2.2.at (j := j) (by have := HN.out; omega))
      obtain ⟨d0, d1, d2, d3, d4, d5, d6⟩ := HTK.out.cells
      obtain ⟨ps, cs, hv, _⟩ := HTK.out.2.2
      have HV := Lib.hid hv
      rw [hv] at d1
      have hlj := HLA.out j hjn
      unfold maxLen at hlj
      obtain ⟨_, c0, c1, _⟩ := HPr.out
      obtain ⟨f0, f1⟩ := HIA.out.cell (a := j) (by rw [HLN.out]; exact hjn)
      have HI1 := Lib.hid (show IntsAt bm (farK ts[j]!.after (j : Int) (longF (afters ts) l k).1 0) (wr.setCell ⟨bm, j, none⟩ (.int .i64 1)) from HIA.out.set j 1)
      have HB2 := Lib.hid (HB.out.setCell (p := ⟨bm, j, none⟩) (Nat.le_refl bm) (.int .i64 1))
      have hbne : ∀ b0 o0 x, w1.cell? ⟨b0, o0, none⟩ = some x → b0 ≠ bm := fun b0 o0 x hx => by have := cell_lt hx; have := HBM.out; omega
      have HFL := Lib.hid (fun q => (farK_len ts[j]!.after (j : Int) (longF (afters ts) l k).1 q).trans HLN.out)
      have HFK := Lib.hid (fun q (hq : q < ts[j]!.after.length) => farK_succ ts[j]!.after (j : Int) (longF (afters ts) l k).1 hq)
      clear hsl hnn hle haf haj hj1 hv hbne
      have HFX := Lib.hid (show (longF (afters ts) l k).1.length = n from HLN.out)
      generalize (longF (afters ts) l k).1[j]! = fj at f0
      generalize hal : ts[j]!.after.length = mm at d1 hlj HFS HFK
      have HMM := Lib.hid hal
      clear hal
      go_wp2_with fail
      clear d0 d1 d2 d3 d4 d5 d6 c0 c1 f0 f1 hck
      generalize wr.setCell ⟨bm, j, none⟩ (.int .i64 1) = wo at HI1 HB2 ⊢
      go_loopw [35] (fun t wi => ∃ q : Nat, q ≤ mm ∧ t = .int .i64 q ∧ Below bm w1 wi ∧ IntsAt bm (farK ts[j]!.after (j : Int) (longF (afters ts) l k).1 q) wi) (fun t _ => mm - (intOf t).toNat)
      case atStart => exact ⟨0, by omega, rfl, HB2.out, HI1.out⟩
      case round =>
        obtain ⟨q, hq, rfl, hb, hia⟩ := hrel
        have HBi := Lib.hid hb
        have HIi := Lib.hid hia
        clear hb hia
        obtain ⟨g0, g1⟩ := HIi.out.cell (a := j) (by rw [HFL.out]; exact hjn)
        have hnj := HNNF.out j q
        have hej := HLEF.out j q
        by_cases hlq : q < mm
        · have hlqz : (q : Int) < (mm : Int) := by omega
          have hsi := (HP1.out.below (by rw [HBM.out]; exact HBi.out)).2.2.2.2 j (by have := HN.out; omega)
          rw [HV.out] at hsi
          obtain ⟨b2, o2, rfl, hak⟩ := hsi.cellI (k := q) (by have := HMM.out; omega)
          obtain ⟨a0, a1⟩ := HAF.out q (by have := HMM.out; omega)
          have HFKq := Lib.hid (HFK.out q hlq)
          clear hsi
          generalize ts[j]!.after[q]! = a at hak a0 a1 HFKq
          obtain ⟨aa, rfl⟩ := Int.eq_ofNat_of_zero_le a0
          have haan : aa < n := by have := HN.out; omega
          have haz : (aa : Int) < (n : Int) := by omega
          obtain ⟨e0, e1⟩ := HIi.out.cell (a := aa) (by rw [HFL.out]; exact haan)
          have hna := HNNF.out aa q
          have hea := HLEF.out aa q
          have HIS := Lib.hid (HIi.out.set j (max (farK ts[j]!.after (j : Int) (longF (afters ts) l k).1 q)[j]! ((farK ts[j]!.after (j : Int) (longF (afters ts) l k).1 q)[aa]! + 1)))
          have HBS := Lib.hid (HBi.out.setCell (p := ⟨bm, j, none⟩) (Nat.le_refl bm) (.int .i64 (max (farK ts[j]!.after (j : Int) (longF (afters ts) l k).1 q)[j]! ((farK ts[j]!.after (j : Int) (longF (afters ts) l k).1 q)[aa]! + 1))))
          simp only [Int.toNat_natCast] at HFKq
          rw [← HFKq.out] at HIS
          generalize (farK ts[j]!.after (j : Int) (longF (afters ts) l k).1 q)[j]! = fj at g0 hnj hej HIS HBS
          generalize (farK ts[j]!.after (j : Int) (longF (afters ts) l k).1 q)[aa]! = fa at e0 hna hea HIS HBS
          go_wp2_with fail
          go_region
          go_wp2
          go_roundw
          case rel =>
            have r1 : Below bm w1 (wr.setCell ⟨bm, j, none⟩ (.int .i64 (max fj (fa + 1)))).drew := HBS.out.drew
            have r2 : IntsAt bm (farK ts[j]!.after (j : Int) (longF (afters ts) l k).1 (q + 1)) (wr.setCell ⟨bm, j, none⟩ (.int .i64 (max fj (fa + 1)))).drew := HIS.out
            first | exact ⟨q + 1, by omega, by go_num, r1, r2⟩ | ((repeat apply Exists.intro); exact ⟨⟨q + 1, by omega, by go_num, r1, r2⟩, rfl⟩) | trace_state
          case measure => simp [intOf] <;> omega
        · obtain rfl : q = mm := by omega
          have hmx := HFS.out
          have HF1 := Lib.hid (show (longF (afters ts) l (k + 1)).1 = farK ts[j]!.after (j : Int) (longF (afters ts) l k).1 q by rw [hmx])
          have HF2 := Lib.hid (show (longF (afters ts) l (k + 1)).2 = max (longF (afters ts) l k).2 (farK ts[j]!.after (j : Int) (longF (afters ts) l k).1 q)[j]! by rw [hmx])
          clear hmx hnj hej
          generalize (farK ts[j]!.after (j : Int) (longF (afters ts) l k).1 q)[j]! = fj at g0 HF2
          generalize (longF (afters ts) l k).2 = mo at HF2 ⊢
          go_wp2
          go_roundw
          case rel =>
            have r2 : IntsAt bm (longF (afters ts) l (k + 1)).1 wr := by rw [HF1.out]; exact HIi.out
            first | exact ⟨k + 1, by omega, by go_num, by rw [HF2.out], HBi.out, r2⟩ | ((repeat apply Exists.intro); exact ⟨⟨k + 1, by omega, by go_num, by rw [HF2.out], HBi.out, r2⟩, rfl⟩) | trace_state
          case measure => simp [intOf] <;> omega
    · obtain rfl : k = m := by omega
      go_wp2
      go_ret
      exact ⟨by rw [HRE.out]; rfl, HB1.out.trans (by have := HB.out; rw [← HBM.out] at this; exact this.mono HB1.out.size)⟩
end Go.Proofs.Ytbbcicengfmhiaa

/- The document's: lockageref09.Round, lockageref13.May. Conditions: sizes. -/
import Derived.Test.YtbbcicengfmhiaaGreatDoorRefT
import Derived.Test.YtbbcicengfmhiaaGreatDoorM8
namespace Go.Proofs.YtbbcicengfmhiaaGreatDoor
set_option maxRecDepth 100000
open Go.RowKit

/-- what Round gives -/
def RoundPost (nm : ByteArray) (ts : List TaskV) (w : World) (e : Ending) (w' : World) : Prop :=
  Below w.heap.size w w' ∧ ∃ z : Int, e = .returned (.int .i64 z) ∧ (mayP nm ts = true → z < 0)
theorem okAf_of {ts : List TaskV} (h : AftIn ts) : okAf (afters ts) := by
  intro i hi a ha
  rw [afters_len] at hi ⊢
  rw [afters_at hi] at ha
  obtain ⟨k, hk, rfl⟩ := List.getElem_of_mem ha
  have := h i hi k hk
  rw [getElem!_pos _ k hk] at this
  exact this
theorem may_way {nm : ByteArray} {ts : List TaskV} (h : mayP nm ts = true) {i : Nat} (hi : i < ts.length) : ¬ Way (afters ts) i i := by
  unfold mayP at h
  simp only [Bool.and_eq_true, decide_eq_true_eq] at h
  obtain ⟨h1, h2, _⟩ := h
  unfold roundP at h2
  rw [if_pos h1] at h2
  exact round_no (okAf_of (aftIn_of h1)) h2 (by rw [afters_len]; exact hi)
theorem may_lone {nm : ByteArray} {ts : List TaskV} (h : mayP nm ts = true) {i : Nat} (hi : i < ts.length) : loneB ts[i]! = false := by
  unfold mayP at h
  simp only [Bool.and_eq_true, Bool.not_eq_true', List.any_eq_false] at h
  have := h.2.2 ts[i]! (by rw [getElem!_pos ts i hi]; exact List.getElem_mem hi)
  simpa using this
set_option maxHeartbeats 4000000 in
theorem refRound (nm : ByteArray) (v : Value) (ts : List TaskV) (w : World) (h : TasksAt w v ts) (hok : okTs ts) (hnm : nm.size ≤ maxLen) (hbig : ts.length ≤ 1000) : Calls Tryz.prog 54 #[.agg #[.string nm, v]] w (RoundPost nm ts w) := by
  have HP0 := Lib.hid (PipeAt.mk (nm := nm) h)
  have HB0 := Lib.hid (below1 w (.cells #[.string nm, v] 46))
  obtain ⟨p, c, rfl, hp⟩ := h.val
  have KR := Lib.hid (fun W (hW : TasksAt W (.slice p ts.length c) ts) => ref08Right nm _ ts W hW hok hnm hbig)
  have KW := Lib.hid (fun (h : mayP nm ts = true) i (hi : i < ts.length) => may_way h hi)
  have HF := Lib.hid (fun (w' : World) (z : Int) (h1 : Below w.heap.size w w') (h2 : mayP nm ts = true → z < 0) => (show RoundPost nm ts w (.returned (.int .i64 z)) w' from ⟨h1, z, rfl, h2⟩))
  generalize hGP : RoundPost nm ts w = GP at *
  clear hGP hp h
  cases hpb : pipeB nm ts with
  | false =>
    rw [hpb] at KR
    have HNM := Lib.hid (show mayP nm ts = true → (-1 : Int) < 0 from fun _ => by decide)
    clear hpb
    go_enter Tryz.func54, Tryz.ntmps54
    obtain ⟨hz, c0, c1, hT⟩ := id HP0.out
    go_wp2_with fail
    generalize w.alloc (.cells #[.string nm, .slice p ts.length c] 46) = W0 at HP0 HB0 hz c0 c1 hT ⊢
    refine (KR.out _ hT).mono ?_
    rintro e w1 ⟨rfl, hb⟩
    have HB1 := Lib.hid (HB0.out.trans (hb.mono HB0.out.size))
    clear hT hb
    go_wp2
    exact HF.out _ _ HB1.out HNM.out
  | true =>
    rw [hpb] at KR
    have hl := pipeB_len hpb
    have KC := Lib.hid (fun W (hW : TasksAt W (.slice p ts.length c) ts) => refReach nm _ ts W hW (aftIn_of hpb) hl.1 hl.2 (fun j hj => by have := pipeB_afterLen hpb hj; omega))
    obtain ⟨n, hn⟩ : ∃ n, n = ts.length := ⟨_, rfl⟩
    rw [← hn] at hl HP0 HB0 KR KC KW
    have HN := Lib.hid hn
    rw [← hn]
    have HNM := Lib.hid (show mayP nm ts = true → (-1 : Int) < 0 from fun _ => by decide)
    clear hpb hn
    go_enter Tryz.func54, Tryz.ntmps54
    obtain ⟨hz, c0, c1, hT⟩ := id HP0.out
    go_wp2_with fail
    generalize w.alloc (.cells #[.string nm, .slice p n c] 46) = W0 at HP0 HB0 hz c0 c1 hT ⊢
    generalize w.heap.size = Bp at HP0 hz c0 c1 ⊢
    refine (KR.out _ hT).mono ?_
    rintro e w1 ⟨rfl, hb⟩
    have HB1 := Lib.hid (HB0.out.trans (hb.mono HB0.out.size))
    have HP1 := Lib.hid (HP0.out.below hb)
    clear hT hb hz c0 c1
    obtain ⟨hz, c0, c1, hT⟩ := id HP1.out
    go_wp2_with fail
    refine (KC.out _ hT).mono ?_
    rintro e w2 ⟨base, v', rows, rfl, hm, hrl, hsd, hb⟩
    have HB2 := Lib.hid (HB1.out.trans (hb.mono HB1.out.size))
    rw [← HN.out] at hm hrl
    rcases hm.own.2 with ⟨_, h0⟩ | ⟨g, cap, cur, hv, _⟩
    · omega
    subst hv
    rw [hrl] at hm ⊢
    have HM := Lib.hid hm
    have HS := Lib.hid hsd
    clear hT hb hm hsd hz c0 c1
    go_wp2_with fail
    go_loopw [4] (fun s4 wr => ∃ i : Nat, s4 = .int .i64 i ∧ i ≤ n ∧ wr = w2) (fun s4 _ => n - (intOf s4).toNat)
    case atStart => exact ⟨0, by go_num, by omega, rfl⟩
    case round =>
      obtain ⟨i, rfl, hi, rfl⟩ := hrel
      by_cases hlt : i < n
      · have hltz : (i : Int) < (n : Int) := by omega
        have hri : i < rows.length := by omega
        have r1 := HM.out.cellR2 hri
        obtain ⟨b1, _⟩ := HM.out.cellB hri hlt
        have HW := Lib.hid (fun h => HS.out i hri i h)
        generalize rows[i]!.2[i]! = x at b1 HW
        generalize rows[i]!.1 = q at r1 b1
        cases x with
        | true =>
          have HNO := Lib.hid (show mayP nm ts = true → (i : Int) < 0 from fun h => absurd (HW.out rfl) (KW.out h i hlt))
          go_wp2
          exact HF.out _ _ HB2.out HNO.out
        | false =>
          go_wp2
          go_roundw
          case rel => exact ⟨i + 1, by go_num, by omega, (by first | trivial | rfl)⟩
          case measure => simp [intOf] <;> omega
      · have hin : n = i := by omega
        subst hin
        go_wp2
        exact HF.out _ _ HB2.out HNM.out
/-- what May gives -/
def MayPost (nm : ByteArray) (ts : List TaskV) (w : World) (e : Ending) (w' : World) : Prop :=
  Below w.heap.size w w' ∧ ∃ q : Bool, e = .returned (.bool q) ∧ (mayP nm ts = true → q = true)
set_option maxHeartbeats 4000000 in
theorem refMay (nm : ByteArray) (v : Value) (ts : List TaskV) (w : World) (h : TasksAt w v ts) (hok : okTs ts) (hnm : nm.size ≤ maxLen) (hbig : ts.length ≤ 1000) : Calls Tryz.prog 16 #[.agg #[.string nm, v]] w (MayPost nm ts w) := by
  have HP0 := Lib.hid (PipeAt.mk (nm := nm) h)
  have HB0 := Lib.hid (below1 w (.cells #[.string nm, v] 46))
  obtain ⟨p, c, rfl, hp⟩ := h.val
  have KR := Lib.hid (fun W (hW : TasksAt W (.slice p ts.length c) ts) => ref08Right nm _ ts W hW hok hnm hbig)
  have KC := Lib.hid (fun W (hW : TasksAt W (.slice p ts.length c) ts) => refRound nm _ ts W hW hok hnm hbig)
  have KL := Lib.hid (fun (h : mayP nm ts = true) i (hi : i < ts.length) => may_lone h hi)
  have HLA := Lib.hid (fun i (hi : i < ts.length) => (hok.2 i hi).2.2.1)
  have HNP := Lib.hid (fun (hq : pipeB nm ts = false) (h : mayP nm ts = true) => show False from by unfold mayP at h; rw [hq] at h; cases h)
  have HF := Lib.hid (fun (w' : World) (q : Bool) (h1 : Below w.heap.size w w') (h2 : mayP nm ts = true → q = true) => (show MayPost nm ts w (.returned (.bool q)) w' from ⟨h1, q, rfl, h2⟩))
  generalize hGP : MayPost nm ts w = GP at *
  clear hGP hp h
  obtain ⟨n, hn⟩ : ∃ n, n = ts.length := ⟨_, rfl⟩
  rw [← hn] at hbig HP0 HB0 KR KC KL HLA
  have HN := Lib.hid hn
  rw [← hn]
  clear hn
  go_enter Tryz.func16, Tryz.ntmps16
  obtain ⟨hz, c0, c1, hT⟩ := id HP0.out
  go_wp2_with fail
  generalize w.alloc (.cells #[.string nm, .slice p n c] 46) = W0 at HP0 HB0 hz c0 c1 hT ⊢
  generalize w.heap.size = Bp at HP0 hz c0 c1 ⊢
  refine (KR.out _ hT).mono ?_
  rintro e w1 ⟨rfl, hb⟩
  have HB1 := Lib.hid (HB0.out.trans (hb.mono HB0.out.size))
  have HP1 := Lib.hid (HP0.out.below hb)
  clear hT hb hz c0 c1
  cases hpb : pipeB nm ts with
  | false =>
    have HNO := Lib.hid (show mayP nm ts = true → false = true from fun h => (HNP.out hpb h).elim)
    clear hpb
    go_wp2
    exact HF.out _ _ HB1.out HNO.out
  | true =>
    clear hpb
    obtain ⟨hz, c0, c1, hT⟩ := id HP1.out
    go_wp2_with fail
    refine (KC.out _ hT).mono ?_
    rintro e w2 ⟨hb, z, rfl, hzz⟩
    have HB2 := Lib.hid (HB1.out.trans (hb.mono HB1.out.size))
    have HP2 := Lib.hid (HP1.out.below hb)
    have HZZ := Lib.hid hzz
    clear hT hb hz c0 c1 hzz
    by_cases hz0 : 0 ≤ z
    · have HNO := Lib.hid (show mayP nm ts = true → false = true from fun h => by have := HZZ.out h; omega)
      go_wp2
      exact HF.out _ _ HB2.out HNO.out
    · have hz1 : decide (0 ≤ z) = false := by simpa using hz0
      obtain ⟨hz, c0, c1, hT⟩ := id HP2.out
      clear hT
      go_wp2_with fail
      go_loopw [3] (fun s3 wr => ∃ i : Nat, s3 = .int .i64 i ∧ i ≤ n ∧ wr = w2) (fun s3 _ => n - (intOf s3).toNat)
      case atStart => exact ⟨0, by go_num, by omega, rfl⟩
      case round =>
        obtain ⟨i, rfl, hi, rfl⟩ := hrel
        by_cases hlt : i < n
        · have hltz : (i : Int) < (n : Int) := by omega
          obtain ⟨tb, tf, sp, sc, hpe, hne, t1, t4, _⟩ := taskS_at HP2.out (i := i) (by rw [← HN.out]; exact hlt)
          subst hpe
          have HL := Lib.hid (fun h => KL.out h i hlt)
          have hla := HLA.out i hlt
          unfold maxLen at hla
          have HD := Lib.hid (show loneB ts[i]! = (decide (0 < ts[i]!.need) && (ts[i]!.after.length != 1)) from rfl)
          rw [HD.out] at HL
          clear HD hne
          generalize ts[i]!.need = nd at *
          generalize ts[i]!.after.length = m at *
          by_cases hnd : 0 < nd
          · have hnd1 : decide (0 < nd) = true := by simpa using hnd
            rw [hnd1] at HL
            by_cases hm : m = 1
            · subst hm
              go_wp2
              go_roundw
              case rel => exact ⟨i + 1, by go_num, by omega, (by first | trivial | rfl)⟩
              case measure => simp [intOf] <;> omega
            · have hmz : ((m : Int) != 1) = true := by simp; omega
              have HNO := Lib.hid (show mayP nm ts = true → false = true from fun h => by have := HL.out h; simp at this; omega)
              go_wp2
              exact HF.out _ _ HB2.out HNO.out
          · have hnd1 : decide (0 < nd) = false := by simpa using hnd
            go_wp2
            go_roundw
            case rel => exact ⟨i + 1, by go_num, by omega, (by first | trivial | rfl)⟩
            case measure => simp [intOf] <;> omega
        · have hin : n = i := by omega
          subst hin
          go_wp2
          exact HF.out _ _ HB2.out (fun _ => rfl)
end Go.Proofs.YtbbcicengfmhiaaGreatDoor

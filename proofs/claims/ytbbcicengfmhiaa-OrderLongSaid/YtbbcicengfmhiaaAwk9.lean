/- The statements' own awake of layer 9. Conditions: none. -/
import Derived.Test.YtbbcicengfmhiaaRefS
import Derived.Test.YtbbcicengfmhiaaSamI
namespace Go.Proofs.Ytbbcicengfmhiaa
set_option maxRecDepth 100000
open Go.RowKit

def tsP (B C : Nat) : List TaskV := [⟨⟨#[97]⟩, .slice none 0 0, [], 0, 1, 0, 0, 0⟩, ⟨⟨#[98]⟩, .slice (some ⟨B, 0, none⟩) 1 1, [0], 0, 1, 0, 0, 0⟩, ⟨⟨#[99]⟩, .slice (some ⟨C, 0, none⟩) 2 2, [0, 1], 0, 1, 0, 0, 0⟩]
def tsQ (B C : Nat) : List TaskV := [⟨⟨#[97]⟩, .slice (some ⟨B, 0, none⟩) 1 1, [1], 0, 1, 0, 0, 0⟩, ⟨⟨#[98]⟩, .slice (some ⟨C, 0, none⟩) 1 1, [0], 0, 1, 0, 0, 0⟩]
def nmP : ByteArray := ⟨#[112]⟩
theorem orderPp (B C : Nat) : orderP nmP (tsP B C) = [0, 1, 2] := by kernel_rfl
theorem orderPq (B C : Nat) : orderQ nmP (tsP B C) = true := by kernel_rfl
theorem longPp (B C : Nat) : longP nmP (tsP B C) = 3 := by kernel_rfl
theorem readyPp (B C : Nat) : readyP nmP (tsP B C) [true] = [1] := by kernel_rfl
theorem roundPp (B C : Nat) : roundP nmP (tsP B C) = -1 := by kernel_rfl
theorem behindPp (B C : Nat) : behindP nmP (tsP B C) 0 = [1, 2] := by kernel_rfl
theorem aheadPp (B C : Nat) : placesL (allF (afters (tsP B C)) (2 : Nat)) (tsP B C).length = [0, 1] := by kernel_rfl
theorem pipePp (B C : Nat) : pipeB nmP (tsP B C) = true := by kernel_rfl
theorem orderQq (B C : Nat) : orderQ nmP (tsQ B C) = false := by kernel_rfl
theorem longPq (B C : Nat) : longP nmP (tsQ B C) = 0 := by kernel_rfl
theorem roundPq (B C : Nat) : roundP nmP (tsQ B C) = 0 := by kernel_rfl
theorem roundP0 : roundP ⟨#[]⟩ [] = -1 := by kernel_rfl
theorem okTP (B C : Nat) : okTs (tsP B C) := by
  refine ⟨by simp [tsP, maxLen], fun j hj => ?_⟩
  match j, hj with
  | 0, _ => exact ⟨show (0 : Nat) < 65536 by decide, by simp [tsP, maxLen, ByteArray.size], by simp [tsP, maxLen], fun k hk => by simp [tsP] at hk⟩
  | 1, _ =>
    refine ⟨show (0 : Nat) < 65536 by decide, by simp [tsP, maxLen, ByteArray.size], by simp [tsP, maxLen], fun k hk => ?_⟩
    match k, hk with
    | 0, _ => exact (show (-9223372036854775808 : Int) ≤ 0 ∧ (0 : Int) ≤ 9223372036854775807 by decide)
  | 2, _ =>
    refine ⟨show (0 : Nat) < 65536 by decide, by simp [tsP, maxLen, ByteArray.size], by simp [tsP, maxLen], fun k hk => ?_⟩
    match k, hk with
    | 0, _ => exact (show (-9223372036854775808 : Int) ≤ 0 ∧ (0 : Int) ≤ 9223372036854775807 by decide)
    | 1, _ => exact (show (-9223372036854775808 : Int) ≤ 1 ∧ (1 : Int) ≤ 9223372036854775807 by decide)
theorem okTQ (B C : Nat) : okTs (tsQ B C) := by
  refine ⟨by simp [tsQ, maxLen], fun j hj => ?_⟩
  match j, hj with
  | 0, _ =>
    refine ⟨show (0 : Nat) < 65536 by decide, by simp [tsQ, maxLen, ByteArray.size], by simp [tsQ, maxLen], fun k hk => ?_⟩
    match k, hk with
    | 0, _ => exact (show (-9223372036854775808 : Int) ≤ 1 ∧ (1 : Int) ≤ 9223372036854775807 by decide)
  | 1, _ =>
    refine ⟨show (0 : Nat) < 65536 by decide, by simp [tsQ, maxLen, ByteArray.size], by simp [tsQ, maxLen], fun k hk => ?_⟩
    match k, hk with
    | 0, _ => exact (show (-9223372036854775808 : Int) ≤ 0 ∧ (0 : Int) ≤ 9223372036854775807 by decide)
/-- the two pipelines lie there -/
def St (w : World) (P b B C P' b' B' C' : Nat) (W : World) : Prop := Below w.heap.size w W ∧ PipeAt W P nmP (.slice (some ⟨b, 0, none⟩) 3 3) (tsP B C) ∧ PipeAt W P' nmP (.slice (some ⟨b', 0, none⟩) 2 2) (tsQ B' C')
theorem St.next {w W W' : World} {P b B C P' b' B' C' : Nat} (h : St w P b B C P' b' B' C' W) (hb : Below W.heap.size W W') : St w P b B C P' b' B' C' W' :=
  ⟨h.1.trans (hb.mono h.1.size), h.2.1.below hb, h.2.2.below hb⟩
set_option maxHeartbeats 4000000 in
theorem mkP (w : World) : Below w.heap.size w ((((((w).alloc (.cells #[.int .i64 0] 3)).alloc (.cells #[.int .i64 0, .int .i64 1] 3)).alloc (.cells #[.string ⟨#[97]⟩, .slice none 0 0, .int .i64 0, .int .i64 1, .int .i64 0, .int .i64 0, .int .u16 0, .string ⟨#[98]⟩, .slice (some ⟨(w).heap.size, 0, none⟩) 1 1, .int .i64 0, .int .i64 1, .int .i64 0, .int .i64 0, .int .u16 0, .string ⟨#[99]⟩, .slice (some ⟨(w).heap.size + 1, 0, none⟩) 2 2, .int .i64 0, .int .i64 1, .int .i64 0, .int .i64 0, .int .u16 0] 34)).alloc (.cells #[.string ⟨#[112]⟩, .slice (some ⟨(w).heap.size + 1 + 1, 0, none⟩) 3 3] 24))) ∧ PipeAt ((((((w).alloc (.cells #[.int .i64 0] 3)).alloc (.cells #[.int .i64 0, .int .i64 1] 3)).alloc (.cells #[.string ⟨#[97]⟩, .slice none 0 0, .int .i64 0, .int .i64 1, .int .i64 0, .int .i64 0, .int .u16 0, .string ⟨#[98]⟩, .slice (some ⟨(w).heap.size, 0, none⟩) 1 1, .int .i64 0, .int .i64 1, .int .i64 0, .int .i64 0, .int .u16 0, .string ⟨#[99]⟩, .slice (some ⟨(w).heap.size + 1, 0, none⟩) 2 2, .int .i64 0, .int .i64 1, .int .i64 0, .int .i64 0, .int .u16 0] 34)).alloc (.cells #[.string ⟨#[112]⟩, .slice (some ⟨(w).heap.size + 1 + 1, 0, none⟩) 3 3] 24))) (w.heap.size + 1 + 1 + 1) nmP (.slice (some ⟨w.heap.size + 1 + 1, 0, none⟩) 3 3) (tsP w.heap.size (w.heap.size + 1)) := by
  refine ⟨below4 w _ _ _ _, by simp, by unfold nmP; go_simp, by go_simp, ?_, ?_⟩
  · refine slAt_of (k := 7) (enc := encT) (fun _ => rfl) rfl (by decide) (by simp <;> omega) ?_
    rintro j u hj
    match j, hj with
    | 0, hj => simp [flat, tsP, encT] at hj; subst hj; go_simp
    | 1, hj => simp [flat, tsP, encT] at hj; subst hj; go_simp
    | 2, hj => simp [flat, tsP, encT] at hj; subst hj; go_simp
    | 3, hj => simp [flat, tsP, encT] at hj; subst hj; go_simp
    | 4, hj => simp [flat, tsP, encT] at hj; subst hj; go_simp
    | 5, hj => simp [flat, tsP, encT] at hj; subst hj; go_simp
    | 6, hj => simp [flat, tsP, encT] at hj; subst hj; go_simp
    | 7, hj => simp [flat, tsP, encT] at hj; subst hj; go_simp
    | 8, hj => simp [flat, tsP, encT] at hj; subst hj; go_simp
    | 9, hj => simp [flat, tsP, encT] at hj; subst hj; go_simp
    | 10, hj => simp [flat, tsP, encT] at hj; subst hj; go_simp
    | 11, hj => simp [flat, tsP, encT] at hj; subst hj; go_simp
    | 12, hj => simp [flat, tsP, encT] at hj; subst hj; go_simp
    | 13, hj => simp [flat, tsP, encT] at hj; subst hj; go_simp
    | 14, hj => simp [flat, tsP, encT] at hj; subst hj; go_simp
    | 15, hj => simp [flat, tsP, encT] at hj; subst hj; go_simp
    | 16, hj => simp [flat, tsP, encT] at hj; subst hj; go_simp
    | 17, hj => simp [flat, tsP, encT] at hj; subst hj; go_simp
    | 18, hj => simp [flat, tsP, encT] at hj; subst hj; go_simp
    | 19, hj => simp [flat, tsP, encT] at hj; subst hj; go_simp
    | 20, hj => simp [flat, tsP, encT] at hj; subst hj; go_simp
  · rintro j hj
    match j, hj with
    | 0, _ => exact SlAt.nil _ _ _
    | 1, _ =>
      refine slAt_of (k := 1) (enc := encI) (fun _ => rfl) rfl (by decide) (by simp <;> omega) ?_
      rintro j u hj
      match j, hj with
      | 0, hj => simp [flat, tsP, encI] at hj; subst hj; go_simp
    | 2, _ =>
      refine slAt_of (k := 1) (enc := encI) (fun _ => rfl) rfl (by decide) (by simp <;> omega) ?_
      rintro j u hj
      match j, hj with
      | 0, hj => simp [flat, tsP, encI] at hj; subst hj; go_simp
      | 1, hj => simp [flat, tsP, encI] at hj; subst hj; go_simp
set_option maxHeartbeats 4000000 in
theorem mkQ (w : World) : Below w.heap.size w ((((((w).alloc (.cells #[.int .i64 1] 3)).alloc (.cells #[.int .i64 0] 3)).alloc (.cells #[.string ⟨#[97]⟩, .slice (some ⟨(w).heap.size, 0, none⟩) 1 1, .int .i64 0, .int .i64 1, .int .i64 0, .int .i64 0, .int .u16 0, .string ⟨#[98]⟩, .slice (some ⟨(w).heap.size + 1, 0, none⟩) 1 1, .int .i64 0, .int .i64 1, .int .i64 0, .int .i64 0, .int .u16 0] 34)).alloc (.cells #[.string ⟨#[112]⟩, .slice (some ⟨(w).heap.size + 1 + 1, 0, none⟩) 2 2] 24))) ∧ PipeAt ((((((w).alloc (.cells #[.int .i64 1] 3)).alloc (.cells #[.int .i64 0] 3)).alloc (.cells #[.string ⟨#[97]⟩, .slice (some ⟨(w).heap.size, 0, none⟩) 1 1, .int .i64 0, .int .i64 1, .int .i64 0, .int .i64 0, .int .u16 0, .string ⟨#[98]⟩, .slice (some ⟨(w).heap.size + 1, 0, none⟩) 1 1, .int .i64 0, .int .i64 1, .int .i64 0, .int .i64 0, .int .u16 0] 34)).alloc (.cells #[.string ⟨#[112]⟩, .slice (some ⟨(w).heap.size + 1 + 1, 0, none⟩) 2 2] 24))) (w.heap.size + 1 + 1 + 1) nmP (.slice (some ⟨w.heap.size + 1 + 1, 0, none⟩) 2 2) (tsQ w.heap.size (w.heap.size + 1)) := by
  refine ⟨below4 w _ _ _ _, by simp, by unfold nmP; go_simp, by go_simp, ?_, ?_⟩
  · refine slAt_of (k := 7) (enc := encT) (fun _ => rfl) rfl (by decide) (by simp <;> omega) ?_
    rintro j u hj
    match j, hj with
    | 0, hj => simp [flat, tsQ, encT] at hj; subst hj; go_simp
    | 1, hj => simp [flat, tsQ, encT] at hj; subst hj; go_simp
    | 2, hj => simp [flat, tsQ, encT] at hj; subst hj; go_simp
    | 3, hj => simp [flat, tsQ, encT] at hj; subst hj; go_simp
    | 4, hj => simp [flat, tsQ, encT] at hj; subst hj; go_simp
    | 5, hj => simp [flat, tsQ, encT] at hj; subst hj; go_simp
    | 6, hj => simp [flat, tsQ, encT] at hj; subst hj; go_simp
    | 7, hj => simp [flat, tsQ, encT] at hj; subst hj; go_simp
    | 8, hj => simp [flat, tsQ, encT] at hj; subst hj; go_simp
    | 9, hj => simp [flat, tsQ, encT] at hj; subst hj; go_simp
    | 10, hj => simp [flat, tsQ, encT] at hj; subst hj; go_simp
    | 11, hj => simp [flat, tsQ, encT] at hj; subst hj; go_simp
    | 12, hj => simp [flat, tsQ, encT] at hj; subst hj; go_simp
    | 13, hj => simp [flat, tsQ, encT] at hj; subst hj; go_simp
  · rintro j hj
    match j, hj with
    | 0, _ =>
      refine slAt_of (k := 1) (enc := encI) (fun _ => rfl) rfl (by decide) (by simp <;> omega) ?_
      rintro j u hj
      match j, hj with
      | 0, hj => simp [flat, tsQ, encI] at hj; subst hj; go_simp
    | 1, _ =>
      refine slAt_of (k := 1) (enc := encI) (fun _ => rfl) rfl (by decide) (by simp <;> omega) ?_
      rintro j u hj
      match j, hj with
      | 0, hj => simp [flat, tsQ, encI] at hj; subst hj; go_simp
set_option maxHeartbeats 8000000 in
theorem awake09 (w : World) : Calls Try.prog 4 #[] w fun e w' => e = .returned (.bool true) ∧ Below w.heap.size w w' := by
  go_enter Try.func4, Try.ntmps4
  go_wp2_with fail
  obtain ⟨hb1, hp1⟩ := mkP w
  generalize ((((((w).alloc (.cells #[.int .i64 0] 3)).alloc (.cells #[.int .i64 0, .int .i64 1] 3)).alloc (.cells #[.string ⟨#[97]⟩, .slice none 0 0, .int .i64 0, .int .i64 1, .int .i64 0, .int .i64 0, .int .u16 0, .string ⟨#[98]⟩, .slice (some ⟨(w).heap.size, 0, none⟩) 1 1, .int .i64 0, .int .i64 1, .int .i64 0, .int .i64 0, .int .u16 0, .string ⟨#[99]⟩, .slice (some ⟨(w).heap.size + 1, 0, none⟩) 2 2, .int .i64 0, .int .i64 1, .int .i64 0, .int .i64 0, .int .u16 0] 34)).alloc (.cells #[.string ⟨#[112]⟩, .slice (some ⟨(w).heap.size + 1 + 1, 0, none⟩) 3 3] 24))) = W1 at hb1 hp1 ⊢
  refine (ordOrder nmP _ (tsP w.heap.size (w.heap.size + 1)) W1 hp1.2.2.2 (okTP _ _) (by decide)).mono ?_
  rintro e w2 ⟨v2, rfl, hv2, hb2⟩
  rw [orderPp] at hv2
  rw [orderPq]
  have HV := Lib.hid hv2
  have HB := Lib.hid (hb1.trans (hb2.mono hb1.size))
  have HP := Lib.hid (hp1.below hb2)
  clear hb1 hb2 hp1 hv2
  go_wp2_with fail
  obtain ⟨hbq, hpq⟩ := mkQ w2
  have HV := Lib.hid (HV.out.below hbq)
  have HS := Lib.hid (show St w _ _ _ _ _ _ _ _ _ from ⟨HB.out.trans (hbq.mono HB.out.size), HP.out.below hbq, hpq⟩)
  clear hbq hpq HB HP
  generalize ((((((w2).alloc (.cells #[.int .i64 1] 3)).alloc (.cells #[.int .i64 0] 3)).alloc (.cells #[.string ⟨#[97]⟩, .slice (some ⟨(w2).heap.size, 0, none⟩) 1 1, .int .i64 0, .int .i64 1, .int .i64 0, .int .i64 0, .int .u16 0, .string ⟨#[98]⟩, .slice (some ⟨(w2).heap.size + 1, 0, none⟩) 1 1, .int .i64 0, .int .i64 1, .int .i64 0, .int .i64 0, .int .u16 0] 34)).alloc (.cells #[.string ⟨#[112]⟩, .slice (some ⟨(w2).heap.size + 1 + 1, 0, none⟩) 2 2] 24))) = W3 at HV HS ⊢
  generalize w2.heap.size + 1 + 1 + 1 = P' at HS ⊢
  generalize w2.heap.size + 1 + 1 = b' at HS ⊢
  generalize w2.heap.size + 1 = C' at HS ⊢
  generalize w2.heap.size = B' at HS ⊢
  generalize w.heap.size + 1 + 1 + 1 = P at HS ⊢
  generalize w.heap.size + 1 + 1 = b at HS ⊢
  generalize w.heap.size + 1 = C at HS ⊢
  generalize hB0 : w.heap.size = B at HS ⊢
  refine (ordOrder nmP _ (tsQ B' C') W3 HS.out.2.2.2.2.2 (okTQ _ _) (by decide)).mono ?_
  rintro e w4 ⟨v4, rfl, _, hb4⟩
  rw [orderQq]
  have HV := Lib.hid (HV.out.below hb4)
  have HS := Lib.hid (HS.out.next hb4)
  clear hb4
  obtain ⟨_, ⟨_, c0, c1, _⟩, ⟨_, d0, d1, _⟩⟩ := id HS.out
  go_wp2_with fail
  have hx := below1 w4 (.cells #[.int .i64 0, .int .i64 1, .int .i64 2] 3)
  refine (same02 _ _ [0, 1, 2] [0, 1, 2] _ (HV.out.below hx) (slAt_of (enc := encI) (fun _ => rfl) rfl (by decide) (by simp) ?d10) (by decide) (by decide)).mono ?_
  case d10 =>
    rintro j u hj
    match j, hj with
    | 0, hj => simp [flat, encI] at hj; subst hj; go_simp
    | 1, hj => simp [flat, encI] at hj; subst hj; go_simp
    | 2, hj => simp [flat, encI] at hj; subst hj; go_simp
  rintro e w5 ⟨rfl, hbx⟩
  rw [show decide (([0, 1, 2] : List Int) = [0, 1, 2]) = true by decide]
  have HS := Lib.hid ((HS.out.next hx).next hbx)
  clear hx hbx c0 c1 d0 d1 HV
  obtain ⟨_, ⟨_, c0, c1, _⟩, ⟨_, d0, d1, _⟩⟩ := id HS.out
  go_wp2_with fail
  refine (orderRound nmP _ (tsQ B' C') w5 HS.out.2.2.2.2.2 (okTQ _ _) (by decide)).mono ?_
  rintro e w6 ⟨rfl, hb⟩
  rw [roundPq]
  have HS := Lib.hid (HS.out.next hb)
  clear hb c0 c1 d0 d1
  obtain ⟨_, ⟨_, c0, c1, _⟩, ⟨_, d0, d1, _⟩⟩ := id HS.out
  go_wp2_with fail
  refine (orderRound nmP _ (tsP _ _) w6 HS.out.2.1.2.2.2 (okTP _ _) (by decide)).mono ?_
  rintro e w7 ⟨rfl, hb⟩
  rw [roundPp]
  have HS := Lib.hid (HS.out.next hb)
  clear hb c0 c1 d0 d1
  obtain ⟨_, ⟨_, c0, c1, _⟩, ⟨_, d0, d1, _⟩⟩ := id HS.out
  go_wp2_with fail
  refine (ordLong nmP _ (tsP _ _) w7 HS.out.2.1.2.2.2 (okTP _ _) (by decide) (by simp [tsP])).mono ?_
  rintro e w8 ⟨rfl, hb⟩
  rw [longPp]
  have HS := Lib.hid (HS.out.next hb)
  clear hb c0 c1 d0 d1
  obtain ⟨_, ⟨_, c0, c1, _⟩, ⟨_, d0, d1, _⟩⟩ := id HS.out
  go_wp2_with fail
  refine (ordLong nmP _ (tsQ B' C') w8 HS.out.2.2.2.2.2 (okTQ _ _) (by decide) (by simp [tsQ])).mono ?_
  rintro e w9 ⟨rfl, hb⟩
  rw [longPq]
  have HS := Lib.hid (HS.out.next hb)
  clear hb c0 c1 d0 d1
  obtain ⟨_, ⟨_, c0, c1, _⟩, ⟨_, d0, d1, _⟩⟩ := id HS.out
  go_wp2_with fail
  have hx := below1 w9 (.cells #[.bool true] 4)
  refine (ordReadyP nmP _ _ (tsP _ _) [true] _ (HS.out.next hx).2.1.2.2.2 (slAt_of (enc := encB) (fun _ => rfl) rfl (by decide) (by simp) ?e1) (by decide) (okTP _ _) (by decide)).mono ?_
  case e1 =>
    rintro j u hj
    match j, hj with
    | 0, hj => simp [flat, encB] at hj; subst hj; go_simp
  rintro e w10 ⟨v10, rfl, hv, hb⟩
  rw [readyPp] at hv
  have HV := Lib.hid hv
  have HS := Lib.hid ((HS.out.next hx).next hb)
  clear hx hb hv c0 c1 d0 d1
  obtain ⟨_, ⟨_, c0, c1, _⟩, ⟨_, d0, d1, _⟩⟩ := id HS.out
  go_wp2_with fail
  have hx := below1 w10 (.cells #[.int .i64 1] 3)
  refine (same02 _ _ [1] [1] _ (HV.out.below hx) (slAt_of (enc := encI) (fun _ => rfl) rfl (by decide) (by simp) ?d11) (by decide) (by decide)).mono ?_
  case d11 =>
    rintro j u hj
    match j, hj with
    | 0, hj => simp [flat, encI] at hj; subst hj; go_simp
  rintro e w11 ⟨rfl, hbx⟩
  rw [show decide (([1] : List Int) = [1]) = true by decide]
  have HS := Lib.hid ((HS.out.next hx).next hbx)
  clear hx hbx c0 c1 d0 d1 HV
  obtain ⟨_, ⟨_, c0, c1, _⟩, ⟨_, d0, d1, _⟩⟩ := id HS.out
  go_wp2_with fail
  refine (ordBehind nmP _ (tsP _ _) 0 w11 HS.out.2.1.2.2.2 (okTP _ _) (by decide)).mono ?_
  rintro e w12 ⟨v12, rfl, hv, hb⟩
  rw [behindPp] at hv
  have HV := Lib.hid hv
  have HS := Lib.hid (HS.out.next hb)
  clear hb hv c0 c1 d0 d1
  obtain ⟨_, ⟨_, c0, c1, _⟩, ⟨_, d0, d1, _⟩⟩ := id HS.out
  go_wp2_with fail
  have hx := below1 w12 (.cells #[.int .i64 1, .int .i64 2] 3)
  refine (same02 _ _ [1, 2] [1, 2] _ (HV.out.below hx) (slAt_of (enc := encI) (fun _ => rfl) rfl (by decide) (by simp) ?d12) (by decide) (by decide)).mono ?_
  case d12 =>
    rintro j u hj
    match j, hj with
    | 0, hj => simp [flat, encI] at hj; subst hj; go_simp
    | 1, hj => simp [flat, encI] at hj; subst hj; go_simp
  rintro e w13 ⟨rfl, hbx⟩
  rw [show decide (([1, 2] : List Int) = [1, 2]) = true by decide]
  have HS := Lib.hid ((HS.out.next hx).next hbx)
  clear hx hbx c0 c1 d0 d1 HV
  obtain ⟨_, ⟨_, c0, c1, _⟩, ⟨_, d0, d1, _⟩⟩ := id HS.out
  go_wp2_with fail
  refine (ordAhead nmP _ (tsP _ _) 2 w13 HS.out.2.1.2.2.2 (okTP _ _) (by decide) (pipePp _ _) (by simp [tsP])).mono ?_
  rintro e w14 ⟨v14, rfl, hv, hb⟩
  rw [aheadPp] at hv
  have HV := Lib.hid hv
  have HS := Lib.hid (HS.out.next hb)
  clear hb hv c0 c1 d0 d1
  obtain ⟨_, ⟨_, c0, c1, _⟩, ⟨_, d0, d1, _⟩⟩ := id HS.out
  go_wp2_with fail
  have hx := below1 w14 (.cells #[.int .i64 0, .int .i64 1] 3)
  refine (same02 _ _ [0, 1] [0, 1] _ (HV.out.below hx) (slAt_of (enc := encI) (fun _ => rfl) rfl (by decide) (by simp) ?d13) (by decide) (by decide)).mono ?_
  case d13 =>
    rintro j u hj
    match j, hj with
    | 0, hj => simp [flat, encI] at hj; subst hj; go_simp
    | 1, hj => simp [flat, encI] at hj; subst hj; go_simp
  rintro e w15 ⟨rfl, hbx⟩
  rw [show decide (([0, 1] : List Int) = [0, 1]) = true by decide]
  have HS := Lib.hid ((HS.out.next hx).next hbx)
  clear hx hbx c0 c1 d0 d1 HV
  obtain ⟨_, ⟨_, c0, c1, _⟩, ⟨_, d0, d1, _⟩⟩ := id HS.out
  go_wp2_with fail
  refine (orderRound ⟨#[]⟩ (.slice none 0 0) [] w15 ⟨SlAt.nil _ _ _, fun j hj => absurd hj (by simp)⟩ ⟨by simp, fun j hj => absurd hj (by simp)⟩ (by decide)).mono ?_
  rintro e w16 ⟨rfl, hb⟩
  rw [roundP0]
  have HS := Lib.hid (HS.out.next hb)
  clear hb c0 c1 d0 d1
  go_wp2
  go_ret
  exact ⟨rfl, HS.out.1⟩
end Go.Proofs.Ytbbcicengfmhiaa

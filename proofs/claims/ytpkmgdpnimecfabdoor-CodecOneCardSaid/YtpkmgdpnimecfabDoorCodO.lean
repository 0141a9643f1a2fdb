/- CodecOne: unlike numbers have unlike texts, none another one's beginning. Every input. -/
import Derived.Test.YtpkmgdpnimecfabDoorAwk6
import Derived.Test.YtpkmgdpnimecfabDoorTk
namespace Go.Proofs.YtpkmgdpnimecfabDoor
open Go.ChangeShapes Go.WideShapes Go.ChangeAt Go.RowKit

theorem num_pre {a b : Int} (ha : okI a) (hb : okI b) (hle : (numL a).length ≤ (numL b).length) (h : numL a = (numL b).take (numL a).length) : a = b := by
  have hl : (Lib.itoa a).length ≤ (Lib.itoa b).length := by simp [numL] at hle; exact hle
  rcases Nat.lt_or_ge (Lib.itoa a).length (Lib.itoa b).length with hlt | hge
  · have h1 : (numL a)[(Lib.itoa a).length]? = some 44 := by simp [numL]
    rw [h, List.getElem?_take, if_pos (by simp [numL])] at h1
    unfold numL at h1
    rw [List.getElem?_append_left hlt, List.getElem?_eq_getElem hlt] at h1
    have := itoa_mem (n := b) _ (List.getElem_mem hlt)
    simp at h1
    exact absurd h1 this
  · have he : (Lib.itoa a).length = (Lib.itoa b).length := by omega
    rw [List.take_of_length_le (by simp [numL]; omega)] at h
    unfold numL at h
    have := List.append_cancel_right h
    exact itoa_inj ha.1 ha.2 hb.1 hb.2 this
theorem num_take {a b : Int} (ha : okI a) (hb : okI b) (hne : a ≠ b) : (numL a).take (min (numL a).length (numL b).length) ≠ (numL b).take (min (numL a).length (numL b).length) := by
  intro h
  rcases Nat.le_total (numL a).length (numL b).length with hle | hle
  · rw [Nat.min_eq_left hle, List.take_length] at h
    exact hne (num_pre ha hb hle h)
  · rw [Nat.min_eq_right hle, List.take_length] at h
    exact hne (num_pre hb ha hle h.symm).symm

set_option maxRecDepth 100000 in
set_option maxHeartbeats 4000000 in
theorem codecOne_walk (a b : Int) (ha : okI a) (hb : okI b) (w : World) (hM : Met w) :
    Calls Tryd.prog 9 #[.int .i64 a, .int .i64 b] w fun e w' => e = .returned (.bool true) ∧ Below w.heap.size w w' := by
  have h5 := hM.size
  have HM := Lib.hid hM
  have OA := Lib.hid ha
  have OB := Lib.hid hb
  clear hM ha hb
  go_enter Tryd.func9, Tryd.ntmps9
  go_upto_region 2 with fail
  have hb0 := below3 w (.cells #[.pointer none, .slice none 0 0] 59) (.cells #[.pointer none, .slice none 0 0] 59) (.cells #[.int .i64 a] 3)
  have hx := alloc_at2 w (.cells #[.pointer none, .slice none 0 0] 59) (.cells #[.pointer none, .slice none 0 0] 59)
  have hy := alloc_at2 (w.alloc (.cells #[.pointer none, .slice none 0 0] 59)) (.cells #[.pointer none, .slice none 0 0] 59) (.cells #[.int .i64 a] 3)
  rw [show (w.alloc (.cells #[.pointer none, .slice none 0 0] 59)).heap.size = w.heap.size + 1 by simp] at hy
  have hx := ((below1 ((w.alloc (.cells #[.pointer none, .slice none 0 0] 59)).alloc (.cells #[.pointer none, .slice none 0 0] 59)) (.cells #[.int .i64 a] 3)).block w.heap.size (by simp; omega)).trans hx
  have hsz : (((w.alloc (.cells #[.pointer none, .slice none 0 0] 59)).alloc (.cells #[.pointer none, .slice none 0 0] 59)).alloc (.cells #[.int .i64 a] 3)).heap.size = w.heap.size + 3 := by simp
  have hc : (((w.alloc (.cells #[.pointer none, .slice none 0 0] 59)).alloc (.cells #[.pointer none, .slice none 0 0] 59)).alloc (.cells #[.int .i64 a] 3)).cell? ⟨w.heap.size + 2, 0, none⟩ = some (.int .i64 a) := by go_simp
  have H0 := Lib.hid (And.intro hb0 (And.intro hx (And.intro hy (And.intro hsz hc))))
  clear hb0 hx hy hsz hc
  go_wp2_with fail
  generalize (((w.alloc (.cells #[.pointer none, .slice none 0 0] 59)).alloc (.cells #[.pointer none, .slice none 0 0] 59)).alloc (.cells #[.int .i64 a] 3)) = W1 at H0 ⊢
  obtain ⟨q1, q2, q3, q4, q5⟩ := H0.out
  refine (writerInt (w.heap.size + 3) (w.heap.size + 3) w.heap.size (w.heap.size + 2) 0 1 [] [a] W1 (WrAt.fresh _ (by omega) (by omega) q2) (HM.out.below q1) h5 (by
    intro j hj
    have : j = 0 := by simp at hj; omega
    subst this
    exact OA.out) (by simp) (by omega) (.inl (by omega)) (by
    intro j hj
    have : j = 0 := by simp at hj; omega
    subst this
    exact q5)).mono ?_
  rintro e w2 ⟨rfl, ⟨T2, hW2⟩, hk2⟩
  have HX := Lib.hid hW2
  have HB2 := Lib.hid (q1.trans (hk2.1 _ (Nat.le_refl _)))
  have HY := Lib.hid ((hk2.2.1 (w.heap.size + 1) (by omega) (by omega)).trans q3)
  clear hW2 hk2 q1 q2 q3 q4 q5
  have hs2 := HX.out.1
  go_wp2_with fail
  have hc : (w2.alloc (.cells #[.int .i64 b] 3)).cell? ⟨w2.heap.size, 0, none⟩ = some (.int .i64 b) := by go_simp
  have HY3 := Lib.hid (((below1 w2 (.cells #[.int .i64 b] 3)).block (w.heap.size + 1) (by omega)).trans HY.out)
  have HX3 := Lib.hid (HX.out.below (below1 w2 (.cells #[.int .i64 b] 3)))
  have HB3 := Lib.hid (HB2.out.trans ((below1 w2 (.cells #[.int .i64 b] 3)).mono HB2.out.size))
  have hs3 : (w2.alloc (.cells #[.int .i64 b] 3)).heap.size = w2.heap.size + 1 := by simp
  have HC := Lib.hid (And.intro hc hs3)
  clear hc hs3
  generalize w2.alloc (.cells #[.int .i64 b] 3) = W3 at HY3 HX3 HB3 HC ⊢
  obtain ⟨q5, hs3⟩ := HC.out
  refine (writerInt (w2.heap.size + 1) (w2.heap.size + 1) (w.heap.size + 1) w2.heap.size 0 1 [] [b] W3 (WrAt.fresh _ (by omega) (by omega) HY3.out) (HM.out.below HB3.out) (by omega) (by
    intro j hj
    have : j = 0 := by simp at hj; omega
    subst this
    exact OB.out) (by simp) (by omega) (.inl (by omega)) (by
    intro j hj
    have : j = 0 := by simp at hj; omega
    subst this
    exact q5)).mono ?_
  rintro e w4 ⟨rfl, ⟨T4, hW4⟩, hk4⟩
  have HY4 := Lib.hid hW4
  have HX4 := Lib.hid (HX3.out.kept hk4 (by omega) (by omega) (by omega) (by omega))
  have HB4 := Lib.hid (HB3.out.trans (hk4.1 _ (by omega)))
  clear hW4 hk4 q5 hs3
  go_wp2_with fail
  obtain ⟨sx, hsx⟩ : ∃ s : ByteArray, s = ⟨(numL a).toArray⟩ := ⟨_, rfl⟩
  obtain ⟨sy, hsy⟩ : ∃ s : ByteArray, s = ⟨(numL b).toArray⟩ := ⟨_, rfl⟩
  have HSX := Lib.hid hsx
  have HSY := Lib.hid hsy
  clear hsx hsy
  have hs := writerString (w.heap.size + 3) T2 w.heap.size _ w4 HX4.out (by simp [numsL, numL_ne])
  rw [show [] ++ numsL [a] = numL a by simp [numsL], ← HSX.out] at hs
  refine hs.mono ?_
  rintro e w5 ⟨rfl, hk5⟩
  have HY5 := Lib.hid (HY4.out.keptS hk5 (by omega) (by omega))
  have HB5 := Lib.hid (HB4.out.trans (hk5.1.mono (by omega)))
  clear hk5 hs
  go_wp2_with fail
  have hs := writerString (w2.heap.size + 1) T4 (w.heap.size + 1) _ w5 HY5.out (by simp [numsL, numL_ne])
  rw [show [] ++ numsL [b] = numL b by simp [numsL], ← HSY.out] at hs
  refine hs.mono ?_
  rintro e w6 ⟨rfl, hk6⟩
  have HB6 := Lib.hid (HB5.out.trans (hk6.1.mono (by omega)))
  clear hk6 hs2 hs
  have K41 := Lib.hid (fun (w' : World) (h : (∀ b o, b < w6.heap.size → w'.cell? ⟨b, o, none⟩ = w6.cell? ⟨b, o, none⟩) ∧ Below w6.heap.size w6 w') => awake06 w' ((HM.out.below HB6.out).below h.2))
  go_upto_region 6 with fail
  obtain ⟨k, hk, hk1, hk2⟩ : ∃ k : Nat, min (sx.size : Int) (sy.size : Int) = (k : Int) ∧ k ≤ sx.size ∧ k ≤ sy.size := ⟨min sx.size sy.size, by omega, by omega, by omega⟩
  have HKM := Lib.hid (show k = min sx.size sy.size by omega)
  rw [hk]
  clear hk
  by_cases hab : a = b
  · subst hab
    obtain rfl : sx = sy := HSX.out.trans HSY.out.symm
    refine wp_region_held_drew (S := (fun w' => (∀ b o, b < (w6).heap.size → w'.cell? ⟨b, o, none⟩ = (w6).cell? ⟨b, o, none⟩) ∧ Below (w6).heap.size (w6) w')) (by kernel_rfl) (stay0 _) (fun hHeld => ?_)
    try dsimp only [List.size_toArray, List.length_cons, List.length_nil]
    refine wpAnyH_ready (rs := [0]) (by kernel_rfl) (by simp) (readyL rfl (fun K hK => ?_) AllReadyH.nil)
    go_simp
    with_reducible refine (K41.out _ ‹_›).mono ?_
    rintro e w' ⟨rfl, hb⟩
    try dsimp only
    refine hK.out _ _ (stay ‹_› ‹_›) (fun hHeld => ?_)
    clear hK K
    try simp only [Act.put, List.setIfInBounds_toArray, List.set_cons_zero, List.set_cons_succ]
    refine takeL (i := 1) rfl (v := ?v1a) (by kernel_rfl) (by kernel_rfl) (by kernel_rfl) (fun _ _ _ h => h) (Or.inl ⟨by rfl, fun _w _hSw => ?hy1a⟩) (by assumption) ?rest1a
    case hy1a =>
      (try dsimp only at _hSw)
      go_simp
      try with_reducible rfl
    try simp only [Act.put, List.setIfInBounds_toArray, List.set_cons_zero, List.set_cons_succ]
    refine takeL (i := 2) rfl (v := ?v2a) (by kernel_rfl) (by kernel_rfl) (by kernel_rfl) (fun _ _ _ h => h) (Or.inl ⟨by rfl, fun _w _hSw => ?hy2a⟩) (by assumption) ?rest2a
    case hy2a =>
      (try dsimp only at _hSw)
      go_simp
      try with_reducible rfl
    try simp only [Act.put, List.setIfInBounds_toArray, List.set_cons_zero, List.set_cons_succ]
    refine takeL (i := 3) rfl (v := ?v3a) (by kernel_rfl) (by kernel_rfl) (by kernel_rfl) (fun _ _ _ h => h) (Or.inl ⟨by rfl, fun _w _hSw => ?hy3a⟩) (by assumption) ?rest3a
    case hy3a =>
      (try dsimp only at _hSw)
      go_simp
      try with_reducible rfl
    try simp only [Act.put, List.setIfInBounds_toArray, List.set_cons_zero, List.set_cons_succ]
    refine takeL (i := 4) rfl (v := ?v4a) (by kernel_rfl) (by kernel_rfl) (by kernel_rfl) (fun _ _ _ h => h) (Or.inl ⟨by rfl, fun _w _hSw => ?hy4a⟩) (by assumption) ?rest4a
    case hy4a =>
      (try dsimp only at _hSw)
      go_simp
      try with_reducible rfl
    try simp only [Act.put, List.setIfInBounds_toArray, List.set_cons_zero, List.set_cons_succ]
    refine takeL (i := 5) rfl (v := ?v5a) (by kernel_rfl) (by kernel_rfl) (by kernel_rfl) (fun _ _ _ h => h) (Or.inl ⟨by rfl, fun _w _hSw => ?hy5a⟩) (by assumption) ?rest5a
    case hy5a =>
      (try dsimp only at _hSw)
      go_simp
      try with_reducible rfl
    try simp only [Act.put, List.setIfInBounds_toArray, List.set_cons_zero, List.set_cons_succ]
    refine takeL (i := 6) rfl (v := ?v6a) (by kernel_rfl) (by kernel_rfl) (by kernel_rfl) (fun _ _ _ h => h) (Or.inl ⟨by rfl, fun _w _hSw => ?hy6a⟩) (by assumption) ?rest6a
    case hy6a =>
      (try dsimp only at _hSw)
      go_simp
      try with_reducible rfl
    try simp only [Act.put, List.setIfInBounds_toArray, List.set_cons_zero, List.set_cons_succ]
    refine takeL (i := 7) rfl (v := ?v7a) (by kernel_rfl) (by kernel_rfl) (by kernel_rfl) (fun _ _ _ h => h) (Or.inl ⟨by rfl, fun _w _hSw => ?hy7a⟩) (by assumption) ?rest7a
    case hy7a =>
      (try dsimp only at _hSw)
      go_simp
      try with_reducible rfl
    try simp only [Act.put, List.setIfInBounds_toArray, List.set_cons_zero, List.set_cons_succ]
    refine takeL (i := 8) rfl (v := ?v8a) (by kernel_rfl) (by kernel_rfl) (by kernel_rfl) (fun _ _ _ h => h) (Or.inl ⟨by rfl, fun _w _hSw => ?hy8a⟩) (by assumption) ?rest8a
    case hy8a =>
      (try dsimp only at _hSw)
      go_simp
      try with_reducible rfl
    try simp only [Act.put, List.setIfInBounds_toArray, List.set_cons_zero, List.set_cons_succ]
    refine takeL (i := 9) rfl (v := ?v9a) (by kernel_rfl) (by kernel_rfl) (by kernel_rfl) (fun _ _ _ h => h) (Or.inl ⟨by rfl, fun _w _hSw => ?hy9a⟩) (by assumption) ?rest9a
    case hy9a =>
      (try dsimp only at _hSw)
      go_simp
      try with_reducible rfl
    try simp only [Act.put, List.setIfInBounds_toArray, List.set_cons_zero, List.set_cons_succ]
    refine takeL (i := 10) rfl (v := ?v10a) (by kernel_rfl) (by kernel_rfl) (by kernel_rfl) (fun _ _ _ h => h) (Or.inl ⟨by rfl, fun _w _hSw => ?hy10a⟩) (by assumption) ?rest10a
    case hy10a =>
      (try dsimp only at _hSw)
      go_simp
      try with_reducible rfl
    try simp only [Act.put, List.setIfInBounds_toArray, List.set_cons_zero, List.set_cons_succ]
    refine takeL (i := 11) rfl (v := ?v11a) (by kernel_rfl) (by kernel_rfl) (by kernel_rfl) (fun _ _ _ h => h) (Or.inl ⟨by rfl, fun _w _hSw => ?hy11a⟩) (by assumption) ?rest11a
    case hy11a =>
      (try dsimp only at _hSw)
      go_simp
      try with_reducible rfl
    try simp only [Act.put, List.setIfInBounds_toArray, List.set_cons_zero, List.set_cons_succ]
    refine takeL (i := 12) rfl (v := ?v12a) (by kernel_rfl) (by kernel_rfl) (by kernel_rfl) (fun _ _ _ h => h) (Or.inl ⟨by rfl, fun _w _hSw => ?hy12a⟩) (by assumption) ?rest12a
    case hy12a =>
      (try dsimp only at _hSw)
      go_simp
      try with_reducible rfl
    try simp only [Act.put, List.setIfInBounds_toArray, List.set_cons_zero, List.set_cons_succ]
    refine takeL (i := 13) rfl (v := ?v13a) (by kernel_rfl) (by kernel_rfl) (by kernel_rfl) (fun _ _ _ h => h) (Or.inl ⟨by rfl, fun _w _hSw => ?hy13a⟩) (by assumption) ?rest13a
    case hy13a =>
      (try dsimp only at _hSw)
      go_simp
      try with_reducible rfl
    try simp only [Act.put, List.setIfInBounds_toArray, List.set_cons_zero, List.set_cons_succ]
    refine takeL (i := 14) rfl (v := ?v14a) (by kernel_rfl) (by kernel_rfl) (by kernel_rfl) (fun _ _ _ h => h) (Or.inl ⟨by rfl, fun _w _hSw => ?hy14a⟩) (by assumption) ?rest14a
    case hy14a =>
      (try dsimp only at _hSw)
      go_simp
      try with_reducible rfl
    try simp only [Act.put, List.setIfInBounds_toArray, List.set_cons_zero, List.set_cons_succ]
    refine takeL (i := 15) rfl (v := undef) (by kernel_rfl) (by kernel_rfl) (by kernel_rfl) (fun _ _ _ h => h) (Or.inr ⟨by rfl, rfl⟩) (by assumption) ?_
    try simp only [Act.put, List.setIfInBounds_toArray, List.set_cons_zero, List.set_cons_succ]
    refine takeL (i := 16) rfl (v := undef) (by kernel_rfl) (by kernel_rfl) (by kernel_rfl) (fun _ _ _ h => h) (Or.inr ⟨by rfl, rfl⟩) (by assumption) ?_
    try simp only [Act.put, List.setIfInBounds_toArray, List.set_cons_zero, List.set_cons_succ]
    refine takeL (i := 17) rfl (v := undef) (by kernel_rfl) (by kernel_rfl) (by kernel_rfl) (fun _ _ _ h => h) (Or.inr ⟨by rfl, rfl⟩) (by assumption) ?_
    try simp only [Act.put, List.setIfInBounds_toArray, List.set_cons_zero, List.set_cons_succ]
    refine takeL (i := 18) rfl (v := undef) (by kernel_rfl) (by kernel_rfl) (by kernel_rfl) (fun _ _ _ h => h) (Or.inr ⟨by rfl, rfl⟩) (by assumption) ?_
    try simp only [Act.put, List.setIfInBounds_toArray, List.set_cons_zero, List.set_cons_succ]
    refine takeL (i := 19) rfl (v := undef) (by kernel_rfl) (by kernel_rfl) (by kernel_rfl) (fun _ _ _ h => h) (Or.inr ⟨by rfl, rfl⟩) (by assumption) ?_
    try simp only [Act.put, List.setIfInBounds_toArray, List.set_cons_zero, List.set_cons_succ]
    refine takeL (i := 20) rfl (v := undef) (by kernel_rfl) (by kernel_rfl) (by kernel_rfl) (fun _ _ _ h => h) (Or.inr ⟨by rfl, rfl⟩) (by assumption) ?_
    try simp only [Act.put, List.setIfInBounds_toArray, List.set_cons_zero, List.set_cons_succ]
    refine takeL (i := 21) rfl (v := undef) (by kernel_rfl) (by kernel_rfl) (by kernel_rfl) (fun _ _ _ h => h) (Or.inr ⟨by rfl, rfl⟩) (by assumption) ?_
    try simp only [Act.put, List.setIfInBounds_toArray, List.set_cons_zero, List.set_cons_succ]
    refine takeL (i := 22) rfl (v := ?v22a) (by kernel_rfl) (by kernel_rfl) (by kernel_rfl) (fun _ _ _ h => h) (Or.inl ⟨by rfl, fun _w _hSw => ?hy22a⟩) (by assumption) ?rest22a
    case hy22a =>
      (try dsimp only at _hSw)
      go_simp
      try with_reducible rfl
    try simp only [Act.put, List.setIfInBounds_toArray, List.set_cons_zero, List.set_cons_succ]
    refine takeL (i := 23) rfl (v := ?v23a) (by kernel_rfl) (by kernel_rfl) (by kernel_rfl) (fun _ _ _ h => h) (Or.inl ⟨by rfl, fun _w _hSw => ?hy23a⟩) (by assumption) ?rest23a
    case hy23a =>
      (try dsimp only at _hSw)
      go_simp
      try with_reducible rfl
    try simp only [Act.put, List.setIfInBounds_toArray, List.set_cons_zero, List.set_cons_succ]
    refine takeL (i := 24) rfl (v := ?v24a) (by kernel_rfl) (by kernel_rfl) (by kernel_rfl) (fun _ _ _ h => h) (Or.inl ⟨by rfl, fun _w _hSw => ?hy24a⟩) (by assumption) ?rest24a
    case hy24a =>
      (try dsimp only at _hSw)
      go_simp
      try with_reducible rfl
    try simp only [Act.put, List.setIfInBounds_toArray, List.set_cons_zero, List.set_cons_succ]
    refine wpAnyH_done (by kernel_rfl) ?_ _
    go_wp2
    go_ret
    exact ⟨by simp, stayEnd HB6.out HB6.out.size ‹_›⟩
  · have e0 : (a == b) = false := by simpa using hab
    have hlx : sx.size = (numL a).length := by rw [HSX.out]; exact List.size_toArray
    have hly : sy.size = (numL b).length := by rw [HSY.out]; exact List.size_toArray
    have e1 : ¬ sx.toList = sy.toList := by
      rw [HSX.out, HSY.out, ByteArray.toList_eq, ByteArray.toList_eq]
      intro h
      have := num_take OA.out OB.out hab
      simp only at h
      rw [h] at this
      exact this rfl
    have e2 : ¬ (sx.extract 0 k).toList = (sy.extract 0 k).toList := by
      rw [ByteArray.toList_eq, ByteArray.toList_eq, ByteArray.data_extract, ByteArray.data_extract, HKM.out, hlx, hly, HSX.out, HSY.out]
      have := num_take OA.out OB.out hab
      simpa using this
    have e1 : (sx.toList == sy.toList) = false := by simpa using e1
    have e2 : ((sx.extract 0 k).toList == (sy.extract 0 k).toList) = false := by simpa using e2
    clear hlx hly
    go_region_held3 (fun w' => (∀ b o, b < (w6).heap.size → w'.cell? ⟨b, o, none⟩ = (w6).cell? ⟨b, o, none⟩) ∧ Below (w6).heap.size (w6) w') (first | exact stay0 _ | exact stay ‹_› ‹_› | exact ‹_›)
      (first | (go_at_call 41; (with_reducible refine (K41.out _ ‹_›).mono ?_); rintro e w' ⟨rfl, hb⟩))
    go_wp2
    go_ret
    exact ⟨by simp, stayEnd HB6.out HB6.out.size ‹_›⟩

theorem okI_of {n : Int} (h : (Lit.int .i64 n).wf = true) : okI n := by
  simp [Lit.wf, IntKind.min, IntKind.max, IntKind.bits, IntKind.signed] at h
  exact ⟨by omega, by omega⟩
set_option maxRecDepth 100000 in
theorem codecOne_lifted (os : Os) (started : os.Started) (H : Type) (enc : TypeId × Value → H) :
    ReturnsInHanded {} Tryd.checked os 9 .any (fun w args => (Rows.codecOneSpec.pre enc Tryd.prog Tryd.f9 [] false w args ∧ laidMetH Tryd.prog laidL w) ∧ sizedMet enc Tryd.prog Tryd.f9 (OpenSpec.ofChange Rows.codecOneSpec) false w args) (Rows.codecOneSpec.post enc Tryd.prog Tryd.f9 false true false false) := by
  refine law_liftD started Tryd.func9 (by kernel_rfl) (by kernel_rfl) rfl (by kernel_rfl) ?_
    (ChangeSpec.witness_shaped (enc := enc) (C := Tryd.checked) (os := os) (X := fun w _ => laidMetH Tryd.prog laidL w) false (World.doorLaid Tryd.prog 69 os) #[.int .i64 0, .int .i64 0] 8 rfl (World.shaped_of_RefB (by kernel_rfl) (by kernel_rfl)) (by kernel_rfl) (by kernel_rfl) (by kernel_rfl) (door_met os _)) ?_
  · intro ds hd
    rw [Tryd.params9] at hd
    match ds, hd with
    | [d0, d1], _ => rfl
  · intro W base args ds ps hM hval hA
    rw [Tryd.params9] at hA hval
    obtain ⟨v0, vs0, d0, ds0, p0, q0, hargs, rfl, rfl, h0, r0⟩ := trodAll_cons hA
    obtain ⟨v1, vs1, d1, ds1, p1, q1, rfl, rfl, rfl, h1, r1⟩ := trodAll_cons r0
    obtain ⟨rfl, rfl, rfl⟩ := trodAll_nil r1
    obtain rfl : args = #[v0, v1] := by cases args; simp_all
    obtain ⟨a0, rfl, _, _, w0⟩ := open_int Tryd.underlying3 (hval 0 3 v0 rfl rfl) h0
    obtain ⟨a1, rfl, _, _, w1⟩ := open_int Tryd.underlying3 (hval 1 3 v1 rfl rfl) h1
    exact codecOne_walk _ _ (okI_of w0) (okI_of w1) _ hM

theorem codecOne_row : Rows.CodecOneSaid :=
  OpenClaim.holds_of_wide 9 Tryd.f9 rfl rfl rfl rfl rfl rfl rfl ⟨rfl, rfl, rfl, rfl, rfl⟩ rfl rfl rfl rfl rfl (by kernel_rfl) Tryd.func9 (by kernel_rfl)
    (of_decide_eq_true (by kernel_rfl)) (by unfold Func.isWrapper; first | (rw [if_pos (by decide +kernel)]; kernel_rfl) | (rw [if_neg (by decide +kernel)]; exact ⟨rfl, rfl⟩))
    (fun os started H enc _ => codecOne_lifted os started H enc)
theorem codecOne_holds : Rows.CodecOneCardSaid :=
  Claim7.holds_tied_plain_at .later [] [.data, .data, .data, .sentinel, .sentinel] true (true, "cfe63c5658b6bd1a0fc7e38934e65126801f8a0fa6b3d3db120216d21a504323") true
    codecOne_row (fun _ h => by cases h) (by kernel_rfl) (fun _ h => by cases h) codecOne_row_tie rfl ⟨rfl, rfl⟩ (by kernel_rfl) rfl
    (fun f fn hf hfn => by
      obtain rfl : f = 9 := Option.some.inj ((show Tryd.prog.funcNamed "lockage/lockagelaw06.CodecOne" = some 9 by kernel_rfl).symm.trans hf) |>.symm
      obtain rfl : fn = Tryd.f9 := (Option.some.inj (Tryd.func9.symm.trans hfn)).symm
      exact ⟨by kernel_rfl, fun j t ht => by
        rw [Tryd.params9] at ht
        have hm : t ∈ [3, 3] := by simpa using Array.mem_of_getElem? ht
        have hall : ([3, 3].all fun u => !Tryd.prog.wantsStandIn u) = true := by kernel_rfl
        exact (show Tryd.prog.wantsStandIn t = false by simpa using List.all_eq_true.1 hall t hm)⟩)
    (by kernel_rfl)
end Go.Proofs.YtpkmgdpnimecfabDoor

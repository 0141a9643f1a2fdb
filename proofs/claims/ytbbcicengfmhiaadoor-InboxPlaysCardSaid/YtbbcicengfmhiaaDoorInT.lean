/- Inbox.Text. Conditions: an inbox as it comes of adding. -/
import Derived.Test.YtbbcicengfmhiaaDoorInA
import Derived.Test.YtbbcicengfmhiaaDoorIn6
namespace Go.Proofs.YtbbcicengfmhiaaDoor
set_option maxRecDepth 100000
open Go.RowKit

set_option maxHeartbeats 4000000 in
theorem inbText (b : Nat) (cv : Value) (l : List Rel) (w : World) (h : IbAt b cv l w) (hok : OkR l) (hM : Met w) :
    Calls Tryd.prog 41 #[.pointer (some ⟨b, 0, none⟩)] w fun e w' => e = .returned (.string ⟨(inbL l).toArray⟩) ∧ Below w.heap.size w w' := by
  obtain ⟨cp, cc, rfl⟩ := row_slice h.2
  have hl12 := hok.len
  have hbz := h.1.lt
  have h9 := hM.size
  have hb1 := below1 w (.cells #[.pointer none, .slice none 0 0] 60)
  have hz1 : (w.alloc (.cells #[.pointer none, .slice none 0 0] 60)).heap.size = w.heap.size + 1 := Array.size_push _
  have hb2 := below1 (w.alloc (.cells #[.pointer none, .slice none 0 0] 60)) (.cells #[.int .i64 (l.length : Nat)] 3)
  have hz2 : ((w.alloc (.cells #[.pointer none, .slice none 0 0] 60)).alloc (.cells #[.int .i64 (l.length : Nat)] 3)).heap.size = w.heap.size + 1 + 1 := by rw [← hz1]; exact Array.size_push _
  have hW := ((BlkIs.alloc w [.pointer none, .slice none 0 0] 60).below hb2)
  have hf := (BlkIs.alloc (w.alloc (.cells #[.pointer none, .slice none 0 0] 60)) [.int .i64 (l.length : Nat)] 3).cell 0
  rw [hz1] at hf
  have HB2 := Lib.hid (hb1.trans (hb2.mono hb1.size))
  have HM2 := Lib.hid (hM.below HB2.out)
  have K1 := Lib.hid (writerInt (w.heap.size + 2) (w.heap.size + 2) w.heap.size (w.heap.size + 1) 0 1 [] [(l.length : Int)] _ (WrAt.fresh _ (by omega) (by omega) hW) HM2.out h9 (fun j hj => by
    obtain rfl : j = 0 := by simpa using hj
    exact okI_s (by show (-1000000 : Int) ≤ (l.length : Int); omega) (by show (l.length : Int) ≤ 1000000; omega)) (by simp) (by omega) (.inl (by omega)) (fun j hj => by
    obtain rfl : j = 0 := by simpa using hj
    simp))
  have c0 := h.1.cell 0
  simp only [List.getElem?_cons_zero] at c0
  have HS := Lib.hid h.sl
  have HOK := Lib.hid hok
  have HM := Lib.hid hM
  have HPZ := Lib.hid (inbP_zero l)
  clear hb1 hz1 hb2 hz2 hW hf h hok hM
  obtain ⟨n, hn⟩ : ∃ n, n = l.length := ⟨_, rfl⟩
  have HN := Lib.hid hn
  rw [← hn] at c0 hl12
  rw [← HN.out] at K1 HB2
  clear hn
  go_enter Tryd.func41, Tryd.ntmps41
  go_wp2_with fail
  refine K1.out.mono ?_
  rintro e w1 ⟨rfl, ⟨T1, hW1⟩, hk1⟩
  have HB1 := Lib.hid (HB2.out.trans (hk1.1 w.heap.size (Nat.le_refl _)))
  have HW1 := Lib.hid (show WrAt (w.heap.size + 2) T1 w.heap.size (inbP l 0) w1 by rw [HPZ.out, ← HN.out]; simpa [numsL] using hW1)
  have d0 := (HB1.out.cell (p := ⟨b, 0, none⟩) hbz).trans c0
  clear hW1 hk1 c0 K1
  go_wp2
  go_loopw [5, 23] (fun _ s23 wr => ∃ k : Nat, s23 = .int .i64 k ∧ k ≤ n ∧ (∃ T, WrAt (w.heap.size + 2) T w.heap.size (inbP l k) wr) ∧ Below w.heap.size w wr) (fun _ s23 _ => n - (intOf s23).toNat)
  case atStart => exact ⟨0, by go_num, by omega, ⟨_, HW1.out⟩, HB1.out⟩
  case round =>
    obtain ⟨k, rfl, hk, ⟨T, hW⟩, hB⟩ := hrel
    have HW := Lib.hid hW
    have HB := Lib.hid hB
    clear hW hB
    by_cases hlt : k < n
    · have hltz : (k : Int) < (n : Int) := by omega
      have HI := Lib.hid (HOK.out.right (k := k) (by have := HN.out; omega))
      obtain ⟨p', c', hpc, _, hcl⟩ := HS.out
      simp only [Value.slice.injEq] at hpc
      obtain ⟨rfl, hpc2, rfl⟩ := hpc
      obtain ⟨g, off, rfl, hg, hc⟩ := hcl (by have := HN.out; omega)
      have HE := Lib.hid (inbP_succ (l := l) (k := k) (by have := HN.out; omega))
      have HLN := Lib.hid (inbP_len (l := l) (by have := HN.out; omega) k (by have := HN.out; omega))
      have c0 := (HB.out.cell (p := ⟨g, off + k * 5, none⟩) hg).trans (hc k (by have := HN.out; omega) 0 _ rfl)
      have c1 := (HB.out.cell (p := ⟨g, off + k * 5 + 1, none⟩) hg).trans (hc k (by have := HN.out; omega) 1 _ rfl)
      have c2 := (HB.out.cell (p := ⟨g, off + k * 5 + 1 + 1, none⟩) hg).trans (hc k (by have := HN.out; omega) 2 _ rfl)
      have c3 := (HB.out.cell (p := ⟨g, off + k * 5 + 1 + 1 + 1, none⟩) hg).trans (hc k (by have := HN.out; omega) 3 _ rfl)
      have c4 := (HB.out.cell (p := ⟨g, off + k * 5 + 1 + 1 + 1 + 1, none⟩) hg).trans (hc k (by have := HN.out; omega) 4 _ rfl)
      clear hc hcl hpc2 HS
      generalize l[k]! = r at *
      obtain ⟨a1, a2, a3, a4, s⟩ := r
      have hs : s.size ≤ maxLen := by have := (rightR_iff.1 HI.out).2.2.2.2; unfold maxLen; dsimp only at this; omega
      have HSS := Lib.hid hs
      clear hs
      have hbx := below1 wr (.cells #[.int .i64 a1, .int .i64 a2, .int .i64 a3, .int .i64 a4, .string s] 75)
      have HBX := Lib.hid (HB.out.trans (hbx.mono HB.out.size))
      have HWX := Lib.hid (HW.out.below hbx)
      have KP := Lib.hid (inbPrint a1 a2 a3 a4 s _ HSS.out (HM.out.below HBX.out))
      clear hbx
      go_wp2_with fail
      refine KP.out.mono ?_
      rintro e w2 ⟨rfl, hb2⟩
      have HBY := Lib.hid (HBX.out.trans (hb2.mono HBX.out.size))
      have HWY := Lib.hid (HWX.out.below hb2)
      have hb3 := below1 w2 (.cells #[.string ⟨(printL (a1, a2, a3, a4, s)).toArray⟩] 9)
      have HBZ := Lib.hid (HBY.out.trans (hb3.mono HBY.out.size))
      have K2 := Lib.hid (writerText (w.heap.size + 2) T w.heap.size w2.heap.size 0 1 _ ⟨(printL (a1, a2, a3, a4, s)).toArray⟩ _ (HWY.out.below hb3) (HM.out.below HBZ.out) h9 (by have h1 := HLN.out; have h2 := printL_len (a1, a2, a3, a4, s); have h3 : (⟨(printL (a1, a2, a3, a4, s)).toArray⟩ : ByteArray).size = (printL (a1, a2, a3, a4, s)).length := List.size_toArray; omega) (by have := HWY.out.1.1; have := HWY.out.1.2.1; omega) ((BlkIs.alloc w2 [.string ⟨(printL (a1, a2, a3, a4, s)).toArray⟩] 9).cell 0))
      clear hb2 hb3 KP
      go_wp2_with fail
      refine K2.out.mono ?_
      rintro e w4 ⟨rfl, ⟨T4, hW4⟩, hk4⟩
      have HW4 := Lib.hid hW4
      have HB4 := Lib.hid (HBZ.out.trans (hk4.1 w.heap.size (Nat.le_refl _)))
      clear hW4 hk4 K2
      go_wp2
      go_roundw
      case rel => exact ⟨k + 1, by go_num, by omega, ⟨_, by rw [HE.out]; exact HW4.out⟩, HB4.out⟩
      case measure => simp [intOf] <;> omega
    · obtain rfl : k = n := by omega
      have HE := Lib.hid (inbP_end l)
      have hne : inbP l k ≠ [] := by rw [HN.out, HE.out]; intro e; simp [inbL, numL] at e
      have K3 := Lib.hid (writerString (w.heap.size + 2) T w.heap.size _ wr HW.out hne)
      clear hne
      go_wp2_with fail
      refine K3.out.mono ?_
      rintro e w5 ⟨rfl, hk5⟩
      have HB5 := Lib.hid (HB.out.trans (hk5.1.mono (by omega)))
      clear hk5
      go_wp2
      go_ret
      exact ⟨by rw [← HE.out, ← HN.out]; rfl, HB5.out⟩
end Go.Proofs.YtbbcicengfmhiaaDoor

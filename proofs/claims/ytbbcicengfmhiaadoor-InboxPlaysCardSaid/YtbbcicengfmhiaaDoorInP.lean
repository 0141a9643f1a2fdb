/- inbox.Parse of what an inbox writes. Conditions: an inbox as it comes of adding. -/
import Derived.Test.YtbbcicengfmhiaaDoorInA
import Derived.Test.YtbbcicengfmhiaaDoorIn7
namespace Go.Proofs.YtbbcicengfmhiaaDoor
set_option maxRecDepth 100000
open Go.RowKit

theorem IbAt.keptB {b rb : Nat} {cv : Value} {l : List Rel} {w w' : World} (h : IbAt b cv l w) (hk : KeptB rb w w') (h1 : b ≠ rb) (h2 : cv.ownBlock ≠ some rb) : IbAt b cv l w' := by
  refine ⟨h.1.of (hk.2.1 b h.1.lt h1), owns_kept h.2 (fun k hkk => hk.2.1 k ?_ (fun e => h2 (by rw [hkk, e])))⟩
  rcases h.2.2 with ⟨hv, _⟩ | ⟨g, cap, cur, hv, _, hg, _⟩
  · rw [hv] at hkk; simp [Value.ownBlock] at hkk
  · rw [hv] at hkk
    simp [Value.ownBlock] at hkk
    subst hkk
    exact (Array.getElem?_eq_some_iff.1 hg).1
theorem RdAt.keptI {rb b : Nat} {s : List UInt8} {bad : Bool} {cv : Value} {w w' : World} (h : RdAt rb s bad w) (hk : KeptI b cv w w') (h1 : rb ≠ b) (h2 : cv.ownBlock ≠ some rb) : RdAt rb s bad w' := by
  have e := hk.2.1 rb h.1 h1 h2
  have ec := fun o => World.cell?_of_block (w := w) (w' := w') (a := ⟨rb, o, none⟩) e
  have ef := fun o => World.frozen?_of_block (w := w) (w' := w') (a := ⟨rb, o, none⟩) e
  exact ⟨Nat.lt_of_lt_of_le h.1 hk.2.2, ⟨by rw [ec]; exact h.2.1.1, by rw [ec]; exact h.2.1.2⟩, by rw [ef]; exact h.2.2.1, by rw [ef]; exact h.2.2.2⟩
def ParsePost (l : List Rel) (w : World) (e : Ending) (w' : World) : Prop := ∃ b cv, e = .returned (.pointer (some ⟨b, 0, none⟩)) ∧ IbAt b cv l w' ∧ w.heap.size ≤ b ∧ Below w.heap.size w w'
set_option maxHeartbeats 4000000 in
theorem inbParse (l : List Rel) (w : World) (hok : OkR l) (hM : Met w) : Calls Tryd.prog 40 #[.string ⟨(inbL l).toArray⟩] w (ParsePost l w) := by
  have hl12 := hok.len
  have h9 := hM.size
  have HOK := Lib.hid hok
  have HM := Lib.hid hM
  have HFIN := Lib.hid (fun (cv : Value) (w' : World) (h1 : IbAt w.heap.size cv l w') (h2 : Below w.heap.size w w') => (show ParsePost l w (.returned (.pointer (some ⟨w.heap.size, 0, none⟩))) w' from ⟨_, cv, rfl, h1, Nat.le_refl _, h2⟩))
  have h1 := rdS_num (n := (l.length : Int)) (hi := 12) (okI_s (by omega) (by omega)) (by omega) (by omega) (restI l 0)
  have HR0 := Lib.hid (show rdStep (inbL l) false 0 12 = ((l.length : Int), (restI l 0, false)) from h1)
  have HZ := Lib.hid (show (inbL l).length < 4294967281 by
    have a1 := numL_len (n := (l.length : Int)) (okI_s (by omega) (by omega))
    have a2 := restI_len l 0
    simp only [inbL, List.length_append]; omega)
  clear hok hM h1
  obtain ⟨n, hn⟩ : ∃ n, n = l.length := ⟨_, rfl⟩
  have HN := Lib.hid hn
  rw [← hn] at hl12 HR0
  clear hn
  go_enter Tryd.func40, Tryd.ntmps40
  go_wp2_with fail
  refine (inbNew w).mono ?_
  rintro e w1 ⟨rfl, hi, hb⟩
  have HI := Lib.hid hi
  have HB := Lib.hid hb
  clear hi hb
  go_wp2_with fail
  refine (readerNew _ w1).mono ?_
  rintro e w2 ⟨rfl, hr, hb⟩
  have hrb : w.heap.size < w1.heap.size := HI.out.1.lt
  have HI := Lib.hid (HI.out.below hb)
  have HB := Lib.hid (HB.out.trans (hb.mono HB.out.size))
  have HR := Lib.hid hr
  clear hb hr
  obtain ⟨rb, hrbe⟩ : ∃ rb, rb = w1.heap.size := ⟨_, rfl⟩
  rw [← hrbe] at HR hrb ⊢
  clear hrbe
  have KR := Lib.hid (readerInt rb (inbL l) false 0 12 w2 HR.out (HM.out.below HB.out) (by omega) HZ.out)
  go_wp2_with fail
  refine KR.out.mono ?_
  rintro e w3 hp
  unfold IntPost at hp
  rw [HR0.out] at hp
  obtain ⟨rfl, hr, hk⟩ := hp
  have HI := Lib.hid (HI.out.keptB hk (by omega) (by simp [Value.ownBlock]))
  have HR := Lib.hid hr
  have HB := Lib.hid (HB.out.trans (hk.1 w.heap.size (by omega)))
  clear hr hk KR
  go_wp2
  go_loopw [12] (fun s12 wr => ∃ (k : Nat) (cv : Value), s12 = .int .i64 k ∧ k ≤ n ∧ IbAt w.heap.size cv (l.take k) wr ∧ cv.ownBlock ≠ some rb ∧ RdAt rb (restI l k) false wr ∧ Below w.heap.size w wr) (fun s12 _ => n - (intOf s12).toNat)
  case atStart => exact ⟨0, .slice none 0 0, by go_num, by omega, HI.out, by simp [Value.ownBlock], HR.out, HB.out⟩
  case round =>
    obtain ⟨k, cv, rfl, hk, hI, hO, hR, hB⟩ := hrel
    have HI := Lib.hid hI
    have HO := Lib.hid hO
    have HR := Lib.hid hR
    have HB := Lib.hid hB
    clear hI hO hR hB
    by_cases hlt : k < n
    · have hltz : (k : Int) < (n : Int) := by omega
      have hkl : k < l.length := by have := HN.out; omega
      have HRI := Lib.hid (HOK.out.right hkl)
      have HAD := Lib.hid (HOK.out k hkl)
      have HPL := Lib.hid (printL_len l[k]!)
      have h2 := rdX_text (s := printL l[k]!) (m := 200) (by have := printL_len l[k]!; omega) (by have := printL_len l[k]!; omega) (restI l (k + 1))
      rw [← restI_succ hkl] at h2
      have HX := Lib.hid (show rdText (restI l k) false 200 = (printL l[k]!, (restI l (k + 1), false)) from h2)
      have HRR := Lib.hid (show readR (printL l[k]!) = (l[k]!, true) by rw [readR_print, if_pos (HOK.out.right hkl)])
      have HT1 := Lib.hid (show putR (l.take k) l[k]! = l.take (k + 1) by
        rw [putR, if_pos (HOK.out k hkl), List.take_succ_eq_append_getElem hkl, getElem!_pos l k hkl])
      have KR := Lib.hid (readerText rb (restI l k) false 200 wr HR.out (HM.out.below HB.out) (by omega) (by have := restI_len l k; have := HN.out; omega))
      have HTL := Lib.hid (show (l.take k).length ≤ 12 by rw [List.length_take]; omega)
      clear h2 hkl
      generalize l[k]! = r at *
      obtain ⟨a1, a2, a3, a4, s⟩ := r
      go_wp2_with fail
      refine KR.out.mono ?_
      rintro e w4 hp
      unfold TextPost at hp
      rw [HX.out] at hp
      obtain ⟨rfl, hr, hkk⟩ := hp
      have HI := Lib.hid (HI.out.keptB hkk (by omega) HO.out)
      have HR := Lib.hid hr
      have HB := Lib.hid (HB.out.trans (hkk.1 w.heap.size (by omega)))
      clear hr hkk KR
      have KD := Lib.hid (inbRead ⟨(printL (a1, a2, a3, a4, s)).toArray⟩ w4 (by have h1 := HPL.out; have h3 : (⟨(printL (a1, a2, a3, a4, s)).toArray⟩ : ByteArray).size = (printL (a1, a2, a3, a4, s)).length := List.size_toArray; omega) (HM.out.below HB.out))
      go_wp2_with fail
      refine KD.out.mono ?_
      rintro e w5 ⟨he, hb⟩
      rw [HRR.out] at he
      subst he
      have HI := Lib.hid (HI.out.below hb)
      have HR := Lib.hid (HR.out.below hb)
      have HB := Lib.hid (HB.out.trans (hb.mono HB.out.size))
      clear hb KD
      have hbx := below1 w5 (.cells #[.int .i64 a1, .int .i64 a2, .int .i64 a3, .int .i64 a4, .string s] 75)
      have HI := Lib.hid (HI.out.below hbx)
      have HR := Lib.hid (HR.out.below hbx)
      have HB := Lib.hid (HB.out.trans (hbx.mono HB.out.size))
      clear hbx
      have KA := Lib.hid (inbAdd w.heap.size cv (l.take k) a1 a2 a3 a4 s _ HI.out HTL.out (by have := (rightR_iff.1 HRI.out).2.2.2.2; unfold maxLen; dsimp only at this; omega))
      simp only [encR]
      go_wp2_with fail
      refine KA.out.mono ?_
      rintro e w6 hp
      unfold AddPost at hp
      rw [HAD.out, HT1.out] at hp
      obtain ⟨rfl, cv', hi', hki, hown⟩ := hp
      have HI := Lib.hid hi'
      have HRx := Lib.hid (HR.out.keptI hki (by omega) HO.out)
      have HO := Lib.hid (show cv'.ownBlock ≠ some rb by
        rcases hown with e | e
        · rw [e]; exact HO.out
        · intro e2
          have := e rb e2
          have := HR.out.1
          omega)
      have HB := Lib.hid (HB.out.trans (hki.1 w.heap.size (Nat.le_refl _)))
      clear hi' hki hown KA
      go_wp2
      go_roundw
      case rel => exact ⟨k + 1, cv', by go_num, by omega, HI.out, HO.out, HRx.out, HB.out⟩
      case measure => simp [intOf] <;> omega
    · obtain rfl : k = n := by omega
      have HRN := Lib.hid (show restI l k = [] by rw [HN.out]; exact restI_end)
      rw [HRN.out] at HR
      have HTK := Lib.hid (show l.take k = l by rw [HN.out]; exact List.take_length)
      rw [HTK.out] at HI
      go_wp2_with fail
      refine (readerDone rb [] false wr HR.out).mono ?_
      rintro e w4 ⟨rfl, rfl⟩
      go_wp2
      go_ret
      exact HFIN.out cv wr HI.out HB.out
end Go.Proofs.YtbbcicengfmhiaaDoor

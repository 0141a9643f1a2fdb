/- The document's reader: a text. Condition: the text's size. -/
import Derived.Test.YtpkmgdpnimecfabDoorCrd2
import Derived.Test.YtpkmgdpnimecfabDoorCbk2
namespace Go.Proofs.YtpkmgdpnimecfabDoor
open Go.RowKit

theorem rdText_len (s : List UInt8) (bad : Bool) (most : Int) : (rdText s bad most).2.1.length ≤ s.length := by
  have h := rdStep_len s bad 0 most
  unfold rdText
  split
  · exact h
  · split
    · exact h
    · simp only [List.length_drop]
      omega
theorem rdLabel_len (s : List UInt8) (bad : Bool) : (rdLabel s bad).2.1.length ≤ s.length := by
  have h1 := rdStep_len s bad 0 7
  have h2 := rdStep_len (rdStep s bad 0 7).2.1 (rdStep s bad 0 7).2.2 0 65535
  rw [rdLabel_eq]
  unfold labelOf
  split <;> (simp only; omega)
set_option maxRecDepth 100000 in
set_option maxHeartbeats 4000000 in
theorem refText (b : Nat) (s : List UInt8) (bad : Bool) (most : Int) (w : World) (h : RdAt b s bad w) (hs : s.length ≤ 8388607) :
    Calls Tryd.prog 50 #[.pointer (some ⟨b, 0, none⟩), .int .i64 most] w (TextPost b s bad most w) := by
  have hbd := rdStep_bounds (s := s) (bad := bad) (lo := 0) (hi := most)
  have HI := Lib.hid (refInt b s bad 0 most w h hs)
  obtain ⟨X, hX⟩ : ∃ X, X = rdText s bad most := ⟨_, rfl⟩
  have HX := Lib.hid hX
  rw [rdText] at hX
  unfold IntPost at HI
  generalize rdStep s bad 0 most = st at hbd HI hX
  obtain ⟨n, r, bd⟩ := st
  dsimp only at hbd HI hX
  have HX2 := Lib.hid hX
  clear hX
  go_enter Tryd.func50, Tryd.ntmps50
  go_wp2_with fail
  refine HI.out.mono ?_
  rintro e w1 ⟨rfl, hr, hk⟩
  have HR := Lib.hid hr
  have HK := Lib.hid hk
  obtain ⟨hz, ⟨c0, c1⟩, f0, f1⟩ := hr
  clear hk h
  cases bd with
  | true =>
    have HE := Lib.hid (show rdText s bad most = ([], r, true) by rw [← HX.out, HX2.out]; rfl)
    go_wp2
    go_ret
    unfold TextPost
    rw [HE.out]
    exact ⟨rfl, HR.out.setBad, HK.out.trans (KeptB.set 1 _)⟩
  | false =>
    obtain ⟨b0, b1, b2⟩ := hbd rfl
    obtain ⟨k, rfl⟩ : ∃ k : Nat, n = k := ⟨n.toNat, by omega⟩
    have hsz : ((⟨r.toArray⟩ : ByteArray).size : Int) = (r.length : Int) := by simp [ByteArray.size]
    cases t1 : decide (r.length < k) with
    | true =>
      have HE := Lib.hid (show rdText s bad most = ([], r, true) by
        rw [← HX.out, HX2.out]
        simp only [Bool.false_eq_true, if_false]
        rw [if_pos (by simp only [decide_eq_true_eq] at t1; omega)])
      have hlt : (r.length : Int) < (k : Int) := by simp only [decide_eq_true_eq] at t1; omega
      go_wp2
      go_ret
      unfold TextPost
      rw [HE.out]
      exact ⟨rfl, HR.out.setBad, HK.out.trans (KeptB.set 1 _)⟩
    | false =>
      have HE := Lib.hid (show rdText s bad most = (r.take k, r.drop k, false) by
        rw [← HX.out, HX2.out]
        simp only [Bool.false_eq_true, if_false]
        rw [if_neg (by simp only [decide_eq_false_iff_not] at t1; omega)]
        simp)
      have H2 := Lib.hid (HR.out.setText (t := r.drop k))
      have hkr : k ≤ r.length := by simp only [decide_eq_false_iff_not] at t1; omega
      have hkz : ¬ (r.length : Int) < (k : Int) := by omega
      have x1 : (⟨r.toArray⟩ : ByteArray).extract 0 k = ⟨(r.take k).toArray⟩ := by
        apply ByteArray.ext
        simp [ByteArray.data_extract]
      have x2 : (⟨r.toArray⟩ : ByteArray).extract k r.length = ⟨(r.drop k).toArray⟩ := by
        apply ByteArray.ext
        simp only [ByteArray.data_extract, List.extract_toArray, List.extract_eq_take_drop]
        rw [List.take_of_length_le (by simp)]
      have X1 := Lib.hid x1
      have X2 := Lib.hid x2
      clear x1 x2
      go_wp2
      rw [X1.out, X2.out]
      go_ret
      unfold TextPost
      rw [HE.out]
      exact ⟨rfl, H2.out, HK.out.trans (KeptB.set _ _)⟩
end Go.Proofs.YtpkmgdpnimecfabDoor

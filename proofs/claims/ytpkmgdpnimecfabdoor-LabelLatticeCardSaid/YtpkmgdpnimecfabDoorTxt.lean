/- label.Text. Conditions: sets are of 16 bits; the library's tables lie as they were laid. -/
import Derived.Test.YtpkmgdpnimecfabDoorFmt
import Derived.Test.YtpkmgdpnimecfabDoorCod2
namespace Go.Proofs.YtpkmgdpnimecfabDoor
open Go.RowKit

theorem ba_app (l m : List UInt8) : (ByteArray.mk l.toArray) ++ (ByteArray.mk m.toArray) = ByteArray.mk (l ++ m).toArray := by
  apply ByteArray.ext
  simp
theorem fmtU (x : Nat) (hx : x < 65536) (w : World) (hM : Met w) : Calls Tryd.prog 109 #[.int .u64 x, .int .i64 16] w fun e w' => e = .returned (.string ⟨(hexL x (hexN x)).toArray⟩) ∧ Below w.heap.size w w' := by
  have q := fmtBits x hx w hM
  generalize hexL x (hexN x) = l at q ⊢
  go_enter Tryd.func109, Tryd.ntmps109
  go_wp2_with fail
  refine q.mono ?_
  rintro e w' ⟨rfl, hb⟩
  clear q
  have HB := Lib.hid hb
  clear hb
  go_wp2
  go_ret
  exact ⟨rfl, HB.out⟩
theorem fmtUint (x : Nat) (hx : x < 65536) (w : World) (hM : Met w) : Calls Tryd.prog 80 #[.int .u64 x, .int .i64 16] w fun e w' => e = .returned (.string ⟨(hexL x (hexN x)).toArray⟩) ∧ Below w.heap.size w w' := by
  have q := fmtU x hx w hM
  generalize hexL x (hexN x) = l at q ⊢
  go_enter Tryd.func80, Tryd.ntmps80
  go_wp2_with fail
  refine q.mono ?_
  rintro e w' ⟨rfl, hb⟩
  clear q
  have HB := Lib.hid hb
  clear hb
  go_wp2
  go_ret
  exact ⟨rfl, HB.out⟩
def txtL (a : Int) (x : Nat) : List UInt8 := if rightLv a = true then UInt8.ofNat (48 + a.toNat) :: 58 :: hexL x 4 else []
theorem hexN_le (x : Nat) : 1 ≤ hexN x ∧ hexN x ≤ 4 := by unfold hexN; split <;> (try split) <;> (try split) <;> omega
theorem hexL_len (x m : Nat) : (hexL x m).length = m := by induction m with
  | zero => rfl
  | succ m ih => simp [hexL, ih]
theorem hexL_pad (x : Nat) (hx : x < 65536) : List.replicate (4 - hexN x) 48 ++ hexL x (hexN x) = hexL x 4 := by
  unfold hexN
  have h48 : hexD 0 = 48 := rfl
  split
  · have e1 : x / 16 % 16 = 0 := by omega
    have e2 : x / 256 % 16 = 0 := by omega
    have e3 : x / 4096 % 16 = 0 := by omega
    simp [hexL, e1, e2, e3, h48, List.replicate]
  · split
    · have e2 : x / 256 % 16 = 0 := by omega
      have e3 : x / 4096 % 16 = 0 := by omega
      simp [hexL, e2, e3, h48, List.replicate]
    · split
      · have e3 : x / 4096 % 16 = 0 := by omega
        simp [hexL, e3, h48, List.replicate]
      · simp [List.replicate]
theorem itoa_small {a : Int} (h : rightLv a = true) : Lib.itoa a = [UInt8.ofNat (48 + a.toNat)] := by
  simp [rightLv] at h
  obtain ⟨n, rfl⟩ := Int.eq_ofNat_of_zero_le h.1
  have : n ≤ 7 := by omega
  match n, this with
  | 0, _ | 1, _ | 2, _ | 3, _ | 4, _ | 5, _ | 6, _ | 7, _ => clear h this; decide +kernel
theorem txt_join {a : Int} {x : Nat} (hx : x < 65536) (h : rightLv a = true) :
    ByteArray.mk (Lib.itoa a).toArray ++ ByteArray.mk #[58] ++ ByteArray.mk (List.replicate (4 - hexN x) 48).toArray ++ ByteArray.mk (hexL x (hexN x)).toArray = ByteArray.mk (txtL a x).toArray := by
  unfold txtL
  rw [if_pos h, itoa_small h, show (#[58] : Array UInt8) = [58].toArray from rfl, ba_app, ba_app, ba_app, ← hexL_pad x hx]
  simp
set_option maxRecDepth 100000 in
set_option maxHeartbeats 2000000 in
theorem labelText (a : Int) (x : Nat) (hx : x < 65536) (w : World) (hM : Met w) : Calls Tryd.prog 36 #[(.agg #[.int .i64 (a), .int .u16 ((x : Nat) : Int)])] w fun e w' => e = .returned (.string ⟨(txtL a x).toArray⟩) ∧ Below w.heap.size w w' := by
  have HX := Lib.hid hx
  have HM := Lib.hid hM
  clear hM
  have q := labelRight a x (w.alloc (.cells #[.int .i64 a, .int .u16 (x : Int)] 26))
  have HJ := Lib.hid (txt_join (a := a) hx)
  have hN := Lib.hid (hexN_le x)
  have hL := Lib.hid (hexL_len x (hexN x))
  obtain ⟨R, hR⟩ : ∃ R, R = txtL a x := ⟨_, rfl⟩
  rw [← hR] at HJ ⊢
  have HR := Lib.hid (show rightLv a = false → R = [] from fun h => by rw [hR, txtL, h]; rfl)
  have hoa := Lib.hid (show rightLv a = true → okI a from fun h => by simp [rightLv] at h; unfold okI; omega)
  have hw : IntKind.u64.wrap (x : Int) = (x : Int) := by simp [IntKind.wrap, IntKind.signed, IntKind.bits]; omega
  have hit := Lib.hid (show rightLv a = true → Lib.itoa a = [UInt8.ofNat (48 + a.toNat)] from itoa_small)
  clear hR hx
  generalize rightLv a = r at q HJ HR hoa hit
  go_enter Tryd.func36, Tryd.ntmps36
  go_wp2_with fail
  refine q.mono ?_
  rintro e w1 ⟨rfl, hb⟩
  clear q
  have HB := Lib.hid ((below1 w (.cells #[.int .i64 a, .int .u16 (x : Int)] 26)).trans (hb.mono (below1 w (.cells #[.int .i64 a, .int .u16 (x : Int)] 26)).size))
  have e0 := (hb.cell (p := ⟨w.heap.size, 0, none⟩) (by simp)).trans (show (w.alloc (.cells #[.int .i64 a, .int .u16 (x : Int)] 26)).cell? ⟨w.heap.size, 0, none⟩ = some (.int .i64 a) by go_simp)
  have e1 := (hb.cell (p := ⟨w.heap.size, 1, none⟩) (by simp)).trans (show (w.alloc (.cells #[.int .i64 a, .int .u16 (x : Int)] 26)).cell? ⟨w.heap.size, 1, none⟩ = some (.int .u16 (x : Int)) by go_simp)
  have ez : w.heap.size < w1.heap.size := by have := hb.size; simp at this; omega
  clear hb
  cases r with
  | false =>
    go_wp2
    go_ret
    have hr := HR.out trivial
    subst hr
    exact ⟨rfl, HB.out⟩
  | true =>
    go_wp2_with fail
    refine (fmtUint x HX.out w1 (HM.out.below HB.out)).mono ?_
    rintro e w2 ⟨rfl, hb⟩
    have HB2 := Lib.hid (HB.out.trans (hb.mono (Nat.le_of_lt ez)))
    have e0' := (hb.cell (p := ⟨w.heap.size, 0, none⟩) ez).trans e0
    have ez' := Nat.lt_of_lt_of_le ez hb.size
    clear hb e0 e1 ez
    generalize hexL x (hexN x) = l at hL HJ ⊢
    go_wp2_with fail
    have qi := itoaC a (hoa.out trivial) w2 (HM.out.below HB2.out)
    rw [hit.out trivial] at qi HJ
    generalize UInt8.ofNat (48 + a.toNat) = ch at qi HJ
    refine qi.mono ?_
    rintro e w3 ⟨rfl, hb⟩
    clear qi
    have HB3 := Lib.hid (HB2.out.trans (hb.mono (Nat.le_of_lt ez')))
    clear hb e0' ez'
    obtain ⟨n, hn⟩ : ∃ n, n = 4 - hexN x := ⟨_, rfl⟩
    have q2 := repL n (by have := hN.out; omega) w3
    rw [show ((n : Nat) : Int) = (4 : Int) - (l.length : Int) by have := hL.out; have := hN.out; omega] at q2
    have hn3 : n ≤ 3 := by have := hN.out; omega
    have hl4 : l.length ≤ 4 := by have := hN.out; have := hL.out; omega
    rw [← hn] at HJ
    clear hn
    go_wp2_with fail
    refine q2.mono ?_
    rintro e w4 ⟨rfl, rfl⟩
    clear q2
    go_wp2
    go_ret
    exact ⟨by rw [← HJ.out trivial]; rfl, HB3.out⟩
end Go.Proofs.YtpkmgdpnimecfabDoor

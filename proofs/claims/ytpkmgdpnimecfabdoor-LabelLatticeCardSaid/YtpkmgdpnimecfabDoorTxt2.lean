/- The document's Text. Conditions: sets are of 16 bits; the label may be. -/
import Derived.Test.YtpkmgdpnimecfabDoorTxt
import Derived.Lib.SmallJoins
namespace Go.Proofs.YtpkmgdpnimecfabDoor
open Go.RowKit

theorem digEx (d : Nat) (hd : d < 16) : (ByteArray.mk #[48, 49, 50, 51, 52, 53, 54, 55, 56, 57, 97, 98, 99, 100, 101, 102]).extract d (d + 1) = ByteArray.mk [hexD d].toArray := by
  match d, hd with
  | 0, _ | 1, _ | 2, _ | 3, _ | 4, _ | 5, _ | 6, _ | 7, _ | 8, _ | 9, _ | 10, _ | 11, _ | 12, _ | 13, _ | 14, _ | 15, _ => rfl
  | n + 16, h => exact absurd h (by omega)
set_option maxRecDepth 100000 in
set_option maxHeartbeats 4000000 in
theorem ref01Text (a : Int) (x : Nat) (ha : rightLv a = true) (hx : x < 65536) (w : World) : Calls Tryd.prog 24 #[(.agg #[.int .i64 (a), .int .u16 ((x : Nat) : Int)])] w fun e w' => e = .returned (.string ⟨(txtL a x).toArray⟩) ∧ Below w.heap.size w w' := by
  have hT : txtL a x = UInt8.ofNat (48 + a.toNat) :: 58 :: hexL x 4 := by unfold txtL; rw [if_pos ha]
  rw [hT]
  clear hT
  have hab : 0 ≤ a ∧ a ≤ 7 := by simp [rightLv] at ha; omega
  have hw1 : wrap64 (48 + a) = 48 + a := by unfold wrap64; omega
  have hw2 : IntKind.u8.wrap (48 + a) = (((UInt8.ofNat (48 + a.toNat)).toNat : Nat) : Int) := by
    obtain ⟨n, rfl⟩ := Int.eq_ofNat_of_zero_le hab.1
    simp [IntKind.wrap, IntKind.signed, IntKind.bits]
  generalize UInt8.ofNat (48 + a.toNat) = c at hw2 ⊢
  clear ha hab
  have HX := Lib.hid hx
  clear hx
  have kc : ∀ cap, (convert 55 9 (.slice (some ⟨w.heap.size + 1, 0, none⟩) 1 cap)).run Tryd.prog ((w.alloc (.cells #[.int .i64 a, .int .u16 (x : Int)] 26)).alloc (.cells #[.int .u8 (c.toNat : Int)] 5)) = .ok (.string ⟨#[c]⟩) ((w.alloc (.cells #[.int .i64 a, .int .u16 (x : Int)] 26)).alloc (.cells #[.int .u8 (c.toNat : Int)] 5)) := fun cap => by
    refine run_convert_bytes_back _ 55 9 5 _ cap [c] Tryd.underlying55 Tryd.underlying5 Tryd.underlying9 fun j hj => ?_
    match j, hj with
    | 0, _ =>
      rw [Go.WideShapes.add_plain]
      exact World.cell?_alloc_at _ _ (w.heap.size + 1) 0 (by simp)
  go_enter Tryd.func24, Tryd.ntmps24
  go_wp2
  go_loopw [4, 5, 6] (fun s i d wr => ∃ m : Nat, m ≤ 4 ∧ i = .int .i64 (3 - m) ∧ s = .string ⟨([c, 58] ++ (hexL x 4).take m).toArray⟩ ∧ Below w.heap.size w wr ∧ wr.cell? ⟨w.heap.size, 1, none⟩ = some (.int .u16 (x : Int)) ∧ w.heap.size < wr.heap.size) (fun _ i _ _ => (intOf i + 1).toNat)
  case atStart => exact ⟨0, by omega, rfl, rfl, below2 _ _ _, by go_simp, by simp <;> omega⟩
  case round =>
    obtain ⟨m, hm, rfl, rfl, hB, hcx, hzx⟩ := hrel
    have HB := Lib.hid hB
    clear hB kc hw1 hw2
    have hx := HX.out
    by_cases hlt : m < 4
    · match m, hlt with
      | 0, _ =>
        obtain ⟨d, hd⟩ : ∃ d, d = x / 4096 % 16 := ⟨_, rfl⟩
        have hdl : d < 16 := by omega
        have hq : ((x : Int) / 4096).tmod 16 = (d : Int) := by
          rw [Int.tmod_eq_emod_of_nonneg (by omega), hd]
          simp
        have HS := Lib.hid (show ByteArray.mk ([c, 58] ++ (hexL x 4).take 0).toArray ++ ByteArray.mk [hexD d].toArray = ByteArray.mk ([c, 58] ++ (hexL x 4).take 1).toArray by
          rw [ba_app, hd]
          simp [hexL])
        have HE := Lib.hid (digEx d hdl)
        have hdz : (d : Int) + 1 ≤ 16 := by omega
        have hlen : ([c, 58] ++ (hexL x 4).take 0).length ≤ 6 := by simp <;> omega
        generalize ([c, 58] ++ (hexL x 4).take 0) = pre at HS hlen ⊢
        clear hd
        go_wp2
        go_roundw
        case rel =>
          rw [HE.out, HS.out]
          exact ⟨1, by omega, by go_num, rfl, HB.out, hcx, hzx⟩
        case measure => simp [intOf]
      | 1, _ =>
        obtain ⟨d, hd⟩ : ∃ d, d = x / 256 % 16 := ⟨_, rfl⟩
        have hdl : d < 16 := by omega
        have hq : ((x : Int) / 256).tmod 16 = (d : Int) := by
          rw [Int.tmod_eq_emod_of_nonneg (by omega), hd]
          simp
        have HS := Lib.hid (show ByteArray.mk ([c, 58] ++ (hexL x 4).take 1).toArray ++ ByteArray.mk [hexD d].toArray = ByteArray.mk ([c, 58] ++ (hexL x 4).take 2).toArray by
          rw [ba_app, hd]
          simp [hexL])
        have HE := Lib.hid (digEx d hdl)
        have hdz : (d : Int) + 1 ≤ 16 := by omega
        have hlen : ([c, 58] ++ (hexL x 4).take 1).length ≤ 6 := by simp <;> omega
        generalize ([c, 58] ++ (hexL x 4).take 1) = pre at HS hlen ⊢
        clear hd
        go_wp2
        go_roundw
        case rel =>
          rw [HE.out, HS.out]
          exact ⟨2, by omega, by go_num, rfl, HB.out, hcx, hzx⟩
        case measure => simp [intOf]
      | 2, _ =>
        obtain ⟨d, hd⟩ : ∃ d, d = x / 16 % 16 := ⟨_, rfl⟩
        have hdl : d < 16 := by omega
        have hq : ((x : Int) / 16).tmod 16 = (d : Int) := by
          rw [Int.tmod_eq_emod_of_nonneg (by omega), hd]
          simp
        have HS := Lib.hid (show ByteArray.mk ([c, 58] ++ (hexL x 4).take 2).toArray ++ ByteArray.mk [hexD d].toArray = ByteArray.mk ([c, 58] ++ (hexL x 4).take 3).toArray by
          rw [ba_app, hd]
          simp [hexL])
        have HE := Lib.hid (digEx d hdl)
        have hdz : (d : Int) + 1 ≤ 16 := by omega
        have hlen : ([c, 58] ++ (hexL x 4).take 2).length ≤ 6 := by simp <;> omega
        generalize ([c, 58] ++ (hexL x 4).take 2) = pre at HS hlen ⊢
        clear hd
        go_wp2
        go_roundw
        case rel =>
          rw [HE.out, HS.out]
          exact ⟨3, by omega, by go_num, rfl, HB.out, hcx, hzx⟩
        case measure => simp [intOf]
      | 3, _ =>
        obtain ⟨d, hd⟩ : ∃ d, d = x % 16 := ⟨_, rfl⟩
        have hdl : d < 16 := by omega
        have hq : ((x : Int)).tmod 16 = (d : Int) := by
          rw [Int.tmod_eq_emod_of_nonneg (by omega), hd]
          simp
        have HS := Lib.hid (show ByteArray.mk ([c, 58] ++ (hexL x 4).take 3).toArray ++ ByteArray.mk [hexD d].toArray = ByteArray.mk ([c, 58] ++ (hexL x 4).take 4).toArray by
          rw [ba_app, hd]
          simp [hexL])
        have HE := Lib.hid (digEx d hdl)
        have hdz : (d : Int) + 1 ≤ 16 := by omega
        have hlen : ([c, 58] ++ (hexL x 4).take 3).length ≤ 6 := by simp <;> omega
        generalize ([c, 58] ++ (hexL x 4).take 3) = pre at HS hlen ⊢
        clear hd
        go_wp2
        go_roundw
        case rel =>
          rw [HE.out, HS.out]
          exact ⟨4, by omega, by go_num, rfl, HB.out, hcx, hzx⟩
        case measure => simp [intOf]
    · obtain rfl : m = 4 := by omega
      have HE := Lib.hid (show (hexL x 4).take 4 = hexL x 4 from List.take_of_length_le (by rw [hexL_len]; omega))
      go_wp2
      go_ret
      exact ⟨by rw [HE.out]; rfl, HB.out⟩
end Go.Proofs.YtpkmgdpnimecfabDoor

/- Sectors: numbers as bytes, within the program. Conditions: sizes. -/
import Derived.Test.YtbbcicengfmhiaaDoorProg
import Derived.Test.YtbbcicengfmhiaaDoorBlk
import Derived.Test.YtbbcicengfmhiaaDoorSec0
import Derived.Laws.BitsAllLaws
namespace Go.Proofs.YtbbcicengfmhiaaDoor
set_option maxRecDepth 100000
open Go.RowKit

theorem secWithin (n up : Int) (w : World) : Calls Tryd.prog 178 #[.int .i64 n, .int .i64 up] w fun en w' => en = .returned (.bool (inP n up)) ∧ w = w' := by
  have HR := Lib.hid (show inP n up = (decide (0 ≤ n) && decide (n < up)) from rfl)
  cases h1 : decide (0 ≤ n) with
  | false =>
    go_enter Tryd.func178, Tryd.ntmps178
    go_wp2
    go_ret
    exact ⟨by rw [HR.out, h1]; rfl, rfl⟩
  | true =>
    go_enter Tryd.func178, Tryd.ntmps178
    go_wp2
    go_ret
    exact ⟨by rw [HR.out, h1]; rfl, rfl⟩

theorem val_or {v c : Nat} (hv : v < 72057594037927936) (hc : c < 256) : bits .or .u64 (IntKind.u64.wrap ((v : Int) * 256)) (IntKind.u64.wrap (c : Int)) = ((v * 256 + c : Nat) : Int) := by
  have e1 : IntKind.u64.wrap ((v : Int) * 256) = ((v * 256 : Nat) : Int) := by simp [IntKind.wrap, IntKind.signed, IntKind.bits]; omega
  have e2 : IntKind.u64.wrap (c : Int) = ((c : Nat) : Int) := by simp [IntKind.wrap, IntKind.signed, IntKind.bits]; omega
  rw [e1, e2, u64_or_nat _ _ (by omega) (by omega), nat_join 8 _ _ (by omega) (by omega)]
set_option maxHeartbeats 1000000 in
theorem secGet (l : List UInt8) (w : World) (hl : l.length ≤ 8) : Calls Tryd.prog 158 #[.string ⟨l.toArray⟩] w fun en w' => en = .returned (.int .u64 (val l : Nat)) ∧ w = w' := by
  obtain ⟨s, hs⟩ : ∃ s : ByteArray, s = ⟨l.toArray⟩ := ⟨_, rfl⟩
  have hsz : s.size = l.length := by rw [hs]; rfl
  have hge : ∀ k (hk : k < s.size), l[k]! = s[k] := fun k hk => by
    subst hs
    rw [getElem!_pos l k (by omega)]
    rfl
  rw [← hs]
  have HZ := Lib.hid hsz
  have HV := Lib.hid (fun k => val_lt (l.take k))
  have HG := Lib.hid hge
  have h63 : s.size ≤ 8 := by omega
  clear hs hsz hge
  go_enter Tryd.func158, Tryd.ntmps158
  go_wp2
  go_loop [2, 6] (fun n i => ∃ k : Nat, k ≤ s.size ∧ i = .int .i64 k ∧ n = .int .u64 (val (l.take k) : Nat)) (fun _ i => s.size - (intOf i).toNat)
  case atStart => exact ⟨0, Nat.zero_le _, rfl, rfl⟩
  case round =>
    obtain ⟨k, hk, rfl, rfl⟩ := hrel
    by_cases hlt : k < s.size
    · have hltz : (k : Int) < (s.size : Int) := by omega
      have HS := Lib.hid (show bits .or .u64 (IntKind.u64.wrap ((val (l.take k) : Int) * 256)) (IntKind.u64.wrap ((s[k].toNat : Nat) : Int)) = ((val (l.take (k + 1)) : Nat) : Int) by
        have h1 := HV.out k
        have h2 : 256 ^ (l.take k).length ≤ 256 ^ 7 := Nat.pow_le_pow_right (by decide) (by have := HZ.out; simp; omega)
        rw [val_or (by omega) (by have := s[k].toNat_lt; omega), List.take_succ_eq_append_getElem (by have := HZ.out; omega), val_snoc]
        have := HG.out k hlt
        rw [getElem!_pos l k (by have := HZ.out; omega)] at this
        rw [this])
      go_wp2
      go_round
      case rel => exact ⟨k + 1, by omega, by go_num, by rw [HS.out]⟩
      case measure => simp [intOf]; omega
    · obtain rfl : k = s.size := by omega
      have HE := Lib.hid (show l.take s.size = l from List.take_of_length_le (by have := HZ.out; omega))
      rw [HE.out]
      go_wp2
      go_ret
      exact ⟨rfl, rfl⟩

theorem splice_back {α : Type} (L vs : List α) (o : Nat) (v : α) (h : o + 1 + vs.length ≤ L.length) : (splice L (o + 1) vs).set o v = splice L o (v :: vs) := by
  rw [← splice_set v vs L o (by rw [List.length_cons]; omega)]
  unfold splice
  rw [List.set_append_left _ _ (by simp; omega), List.take_set, List.drop_set_of_lt (by omega)]
theorem bcs_set (l : List UInt8) (i : Nat) (c : UInt8) : (bcs l).set i (.int .u8 (c.toNat : Int)) = bcs (l.set i c) := by simp [bcs, List.map_set]
theorem be_drop {k n j : Nat} (h : j < k) : (be k n).drop j = bAt k n j :: (be k n).drop (j + 1) := by
  rw [List.drop_eq_getElem_cons (by rw [be_len]; exact h)]
  congr 1
  have := be_get (n := n) h
  rw [List.getElem?_eq_getElem (by rw [be_len]; exact h)] at this
  exact Option.some.inj this
/-- so much of a number is put -/
def putAt (l : List UInt8) (o k n j : Nat) : List UInt8 := splice l (o + j) ((be k n).drop j)
theorem putAt_end (l : List UInt8) (o k n : Nat) (h : o + k ≤ l.length) : putAt l o k n k = l := by
  unfold putAt splice
  rw [List.drop_eq_nil_of_le (by rw [be_len]; exact Nat.le_refl _)]
  simp
theorem putAt_len {l : List UInt8} {o k n j : Nat} (h : o + k ≤ l.length) (hj : j ≤ k) : (putAt l o k n j).length = l.length := splice_len (by simp [be_len]; omega)
theorem putAt_step {l : List UInt8} {o k n j : Nat} (h : o + k ≤ l.length) (hj : j < k) : (putAt l o k n (j + 1)).set (o + j) (bAt k n j) = putAt l o k n j := by
  unfold putAt
  rw [be_drop hj, ← splice_back _ _ _ _ (by simp [be_len]; omega)]
  rfl
set_option maxHeartbeats 1000000 in
theorem secPut (g o k c n : Nat) (l : List UInt8) (T : TypeId) (w : World) (h : BlkIs w g (bcs l) T) (hk : o + k ≤ l.length) (hk8 : k ≤ 8) (hn : n < 18446744073709551616) :
    Calls Tryd.prog 161 #[.slice (some ⟨g, o, none⟩) k c, .int .u64 (n : Nat)] w fun en w' => en = .returned (.tuple #[]) ∧ BlkIs w' g (bcs (splice l o (be k n))) T ∧ KeptG g w w' := by
  have HB := Lib.hid h
  clear h
  have hn2 : n ≤ 18446744073709551615 := by omega
  clear hn
  go_enter Tryd.func161, Tryd.ntmps161
  go_wp2
  go_loopw [1, 4] (fun x i wr => ∃ m : Int, i = .int .i64 m ∧ (-1 ≤ m ∧ m < k) ∧ x = .int .u64 ((n / 256 ^ (k - (m + 1).toNat) : Nat) : Int) ∧ BlkIs wr g (bcs (putAt l o k n (m + 1).toNat)) T ∧ KeptG g w wr) (fun _ i _ => (intOf i + 1).toNat)
  case atStart =>
    have e : ((k : Int) - 1 + 1).toNat = k := by omega
    exact ⟨(k : Int) - 1, rfl, by omega, by rw [e]; simp, by rw [e, putAt_end _ _ _ _ hk]; exact HB.out, KeptG.refl _ _⟩
  case round =>
    obtain ⟨m, rfl, ⟨hm1, hm2⟩, rfl, hb, hkp⟩ := hrel
    have HB := Lib.hid hb
    have HK := Lib.hid hkp
    clear hb hkp
    by_cases h0 : 0 ≤ m
    · obtain ⟨j, rfl⟩ : ∃ j : Nat, m = j := ⟨m.toNat, by omega⟩
      have e : ((j : Int) + 1).toNat = j + 1 := by omega
      rw [e] at HB ⊢
      clear e
      obtain ⟨N, hN⟩ : ∃ N, N = n / 256 ^ (k - (j + 1)) := ⟨_, rfl⟩
      have hNle : N ≤ 18446744073709551615 := by rw [hN]; exact Nat.le_trans (Nat.div_le_self _ _) hn2
      rw [← hN]
      have HN := Lib.hid hN
      have hjk : j < k := by omega
      have hcl : o + j < (bcs (putAt l o k n (j + 1))).length := by rw [bcs_len, putAt_len hk (by omega)]; omega
      have d0 := HB.out.cell (o + j)
      rw [List.getElem?_eq_getElem hcl] at d0
      generalize (bcs (putAt l o k n (j + 1)))[o + j] = u0 at d0
      have f0 := HB.out.frozen (o + j)
      have HC := Lib.hid (show (N : Int) % 256 = ((bAt k n j).toNat : Int) by
        rw [bAt_toNat, show k - 1 - j = k - (j + 1) by omega, ← HN.out]
        simp)
      have HQ := Lib.hid (show (N : Int) / 256 = ((n / 256 ^ (k - j) : Nat) : Int) by
        rw [show k - j = (k - (j + 1)) + 1 by omega, Nat.pow_succ, ← Nat.div_div_eq_div_mul, ← HN.out]
        simp)
      clear hN hcl
      go_wp2
      go_roundw
      case rel =>
        have e : ((j : Int) - 1 + 1).toNat = j := by omega
        exact ⟨(j : Int) - 1, rfl, by omega, by rw [HQ.out, e], by rw [HC.out, e, ← putAt_step hk hjk, ← bcs_set]; exact HB.out.set _, HK.out.trans (KeptG.set _ _ _ _)⟩
      case measure => simp [intOf] <;> omega
    · obtain rfl : m = -1 := by omega
      have e : ((-1 : Int) + 1).toNat = 0 := rfl
      rw [e] at HB
      clear e
      go_wp2
      go_end0
      refine ⟨rfl, ?_, HK.out⟩
      have := HB.out
      unfold putAt at this
      simpa using this
end Go.Proofs.YtbbcicengfmhiaaDoor

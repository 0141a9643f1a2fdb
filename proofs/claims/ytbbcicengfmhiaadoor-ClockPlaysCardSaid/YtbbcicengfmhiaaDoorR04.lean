/- The document's sector. Conditions: sizes. -/
import Derived.Test.YtbbcicengfmhiaaDoorSec3
import Derived.Test.YtbbcicengfmhiaaDoorTk
import Derived.Test.YtbbcicengfmhiaaDoorCod2
namespace Go.Proofs.YtbbcicengfmhiaaDoor
set_option maxRecDepth 100000
open Go.RowKit

theorem own_slice {w : World} {base : Nat} {cv : Value} {n : Nat} {xs : List Value} {e : TypeId} {size : Nat} (h : w.ownsRow base e size cv n xs) : ∃ p c, cv = .slice p n c := by
  rcases h.2 with ⟨hv, h0⟩ | ⟨g, cap, cur, hv, _⟩
  · subst h0; exact ⟨_, _, hv⟩
  · exact ⟨_, _, hv⟩
/-- a row of bytes of one's own as a string -/
theorem run_own {P : Program} {w : World} {base : Nat} {cv : Value} {l : List UInt8} {src dst e : TypeId} {k : Nat} (hs : P.underlying src = some (.slice e)) (he : P.underlying e = some (.int .u8)) (hd : P.underlying dst = some .string)
    (h : w.ownsRow base 5 1 cv k (bcs l)) (hk : k = l.length) (h1 : 0 < k) : (convert src dst cv).run P w = .ok (.string ⟨l.toArray⟩) w := by
  subst hk
  rcases h.2 with ⟨rfl, h0⟩ | ⟨g, cap, cur, rfl, _⟩
  · omega
  · refine run_convert_bytes_back (P := P) w src dst e ⟨g, 0, none⟩ cap l hs he hd (fun j hj => ?_)
    exact h.cells (g := g) rfl j _ (by simp [bcs, hj])
set_option maxHeartbeats 1000000 in
theorem refNumber (n k : Nat) (w : World) (hk0 : 1 ≤ k) (hk : k ≤ 8) (hn : n < 18446744073709551616) : Calls Tryd.prog 141 #[.int .u64 (n : Nat), .int .i64 (k : Nat)] w fun e w' => e = .returned (.string ⟨(be k n).toArray⟩) ∧ Below w.heap.size w w' := by
  obtain ⟨i0, hi, hz0, hz1, hz2⟩ := info_parts infoByte
  have hn2 : n ≤ 18446744073709551615 := by omega
  clear hn
  go_enter Tryd.func141, Tryd.ntmps141
  go_wp2
  have HI := Lib.hid hi
  have HZ := Lib.hid hz0
  clear hi hz0
  go_loopw [5, 6] (fun v i wr => ∃ j : Nat, j ≤ k ∧ i = .int .i64 ((k : Int) - 1 - (j : Int)) ∧ wr.ownsRow w.heap.size 5 1 v j (bcs ((be k n).take j)) ∧ Below w.heap.size w wr) (fun _ i _ => (intOf i + 1).toNat)
  case atStart =>
    refine ⟨0, by omega, by simp, ?_, below1 _ _⟩
    have := World.ownsRow_made (base := w.heap.size) (e := 5) (size := 1) w #[] 0 (Nat.le_refl _) (Nat.zero_le _) (by simp)
    simpa [bcs] using this
  case round =>
    obtain ⟨j, hj, rfl, hown, hb⟩ := hrel
    have HO := Lib.hid hown
    have HB := Lib.hid hb
    obtain ⟨vp, vc, rfl⟩ := own_slice hown
    clear hown hb
    by_cases hlt : j < k
    · obtain ⟨m, hm⟩ : ∃ m : Nat, m + j + 1 = k := ⟨k - 1 - j, by omega⟩
      have hmi : (k : Int) - 1 - (j : Int) = (m : Int) := by omega
      rw [hmi]
      have HX := Lib.hid (show ((n : Int) / 2 ^ (8 * m)) % 256 = ((bAt k n j).toNat : Int) by
        rw [bAt_toNat, show k - 1 - j = m by omega, show (256 : Nat) = 2 ^ 8 from rfl, ← Nat.pow_mul]
        simp)
      have HT := Lib.hid (show bcs ((be k n).take (j + 1)) = bcs ((be k n).take j) ++ [.int .u8 ((bAt k n j).toNat : Int)] by
        rw [List.take_succ_eq_append_getElem (by rw [be_len]; exact hlt), bcs_append]
        have := be_get (n := n) hlt
        rw [List.getElem?_eq_getElem (by rw [be_len]; exact hlt)] at this
        rw [Option.some.inj this]
        rfl)
      have hm7 : (m : Int) ≤ 7 := by omega
      have HM := Lib.hid hmi
      have hsz := HB.out.size
      clear hm hmi
      go_wp2_with (at_builtin; refine wpList_append_own _ rfl (.tmp 14) (.tmp 20) 56 rfl w.heap.size 5 i0 (.int .u8 0) 1 1 Tryd.underlying56 HI.out HZ.out hz1 hz2 rfl (by decide) _ j _ rfl (HO.out.alloc _) ⟨wr.heap.size, 0, none⟩ 1 1 [.int .u8 ((n : Int) / 2 ^ (8 * m) % 256)] rfl rfl ?c1 ?c2 ?c3 ?c4 ?c5 ?_)
      case c1 =>
        intro jj u hj
        match jj, hj with
        | 0, hj => simp at hj; subst hj; rw [Go.WideShapes.add_plain]; go_simp
      case c2 => simp [Value.oneCell']
      case c3 => unfold maxLen; omega
      case c4 => omega
      case c5 => simp; omega
      intro v' w3 hown3 hgrow _
      have H3 := Lib.hid (show w3.ownsRow w.heap.size 5 1 v' (j + 1) (bcs ((be k n).take (j + 1))) by rw [HT.out, ← HX.out]; exact hown3)
      have HB3 := Lib.hid ((HB.out.alloc hsz _).grown hgrow (by simp; omega) (fun q hq => (HO.out.lt q hq).1))
      clear hown3 hgrow hsz
      go_wp2
      go_roundw
      case rel => exact ⟨j + 1, by omega, by rw [← HM.out]; go_num, H3.out, HB3.out⟩
      case measure => simp [intOf] <;> omega
    · obtain rfl : j = k := by omega
      have hmi : (j : Int) - 1 - (j : Int) = -1 := by omega
      rw [hmi]
      clear hmi
      have hcv := run_own (P := Tryd.prog) (src := 56) (dst := 9) (e := 5) (l := be j n) Tryd.underlying56 Tryd.underlying5 Tryd.underlying9 (by have := HO.out; rwa [List.take_of_length_le (by rw [be_len]; exact Nat.le_refl _)] at this) (be_len j n).symm (by omega)
      go_wp2
      go_ret
      exact ⟨rfl, HB.out⟩
end Go.Proofs.YtbbcicengfmhiaaDoor

/- The document's text of a release, of an inbox. Conditions: a release that may be. -/
import Derived.Test.YtbbcicengfmhiaaDoorIn3
import Derived.Test.YtbbcicengfmhiaaDoorRel1
import Derived.Test.YtbbcicengfmhiaaDoorCbk1
import Derived.Deep.RegionHeld3
namespace Go.Proofs.YtbbcicengfmhiaaDoor
set_option maxRecDepth 100000
open Go.RowKit

theorem ref06Text (s : List UInt8) (hs : s.length ≤ 8388608) (w : World) : Calls Tryd.prog 91 #[.string ⟨s.toArray⟩] w fun e w' => e = .returned (.string ⟨(textL s).toArray⟩) ∧ Below w.heap.size w w' := by
  have hok : okI (s.length : Int) := ⟨by omega, by omega⟩
  have hS : ∀ W, (Op.stringOp .add ⟨(numL (s.length : Int)).toArray⟩ ⟨s.toArray⟩).run Tryd.prog W = .ok (.string ⟨(textL s).toArray⟩) W := fun W =>
    run_string_add_lists W (numL (s.length : Int)) s (by have := numL_len hok; omega) (by omega)
  have K := Lib.hid (ref06Int (s.length : Int) hok)
  have hz : ((⟨s.toArray⟩ : ByteArray).size : Int) = (s.length : Int) := rfl
  generalize (⟨(textL s).toArray⟩ : ByteArray) = S3 at hS ⊢
  generalize (⟨(numL (s.length : Int)).toArray⟩ : ByteArray) = S2 at hS K
  generalize (⟨s.toArray⟩ : ByteArray) = S1 at hS hz ⊢
  go_enter Tryd.func91, Tryd.ntmps91
  go_wp2_with fail
  refine (K.out _).mono ?_
  rintro e w1 ⟨rfl, hb⟩
  have HB := Lib.hid hb
  clear hb hz
  go_wp2
  go_ret
  exact ⟨rfl, HB.out⟩
set_option maxHeartbeats 4000000 in
theorem ref15Print (x y z t : Int) (s : ByteArray) (w : World) (hr : rightR (x, y, z, t, s) = true) : Calls Tryd.prog 39 #[.agg #[.int .i64 x, .int .i64 y, .int .i64 z, .int .i64 t, .string s]] w fun e w' => e = .returned (.string ⟨(printL (x, y, z, t, s)).toArray⟩) ∧ Below w.heap.size w w' := by
  have HPL := Lib.hid (printL_of hr)
  have hri := rightR_iff.1 hr
  dsimp only at hri
  obtain ⟨⟨x0, x1⟩, ⟨y0, y1⟩, ⟨z0, z1⟩, ⟨t0, t1⟩, s1⟩ := hri
  have hsl := size_toList s
  have ox := okI_s (n := x) (by omega) (by omega)
  have oy := okI_s (n := y) (by omega) (by omega)
  have oz := okI_s (n := z) (by omega) (by omega)
  have ot := okI_s (n := t) (by omega) (by omega)
  have lx := numL_len ox
  have ly := numL_len oy
  have lz := numL_len oz
  have lt := numL_len ot
  have ls := textL_len (s := s.data.toList) (by omega)
  have K1 := Lib.hid (fun W => ref06Int x ox W)
  have K2 := Lib.hid (fun W => ref06Int y oy W)
  have K3 := Lib.hid (fun W => ref06Int z oz W)
  have K4 := Lib.hid (fun W => ref06Int t ot W)
  have K5 := Lib.hid (fun W => ref06Text s.data.toList (by omega) W)
  have h2 : ∀ W, (Op.stringOp .add ⟨(numL x).toArray⟩ ⟨(numL y).toArray⟩).run Tryd.prog W = .ok (.string ⟨(numL x ++ numL y).toArray⟩) W := fun W => run_string_add_lists W _ _ (by omega) (by omega)
  have h3 : ∀ W, (Op.stringOp .add ⟨(numL x ++ numL y).toArray⟩ ⟨(numL z).toArray⟩).run Tryd.prog W = .ok (.string ⟨(numL x ++ numL y ++ numL z).toArray⟩) W := fun W => run_string_add_lists W _ _ (by rw [List.length_append]; omega) (by omega)
  have h4 : ∀ W, (Op.stringOp .add ⟨(numL x ++ numL y ++ numL z).toArray⟩ ⟨(numL t).toArray⟩).run Tryd.prog W = .ok (.string ⟨(numL x ++ numL y ++ numL z ++ numL t).toArray⟩) W := fun W => run_string_add_lists W _ _ (by simp only [List.length_append]; omega) (by omega)
  have h5 : ∀ W, (Op.stringOp .add ⟨(numL x ++ numL y ++ numL z ++ numL t).toArray⟩ ⟨(textL s.data.toList).toArray⟩).run Tryd.prog W = .ok (.string ⟨(printL (x, y, z, t, s)).toArray⟩) W := fun W => by
    have e : printL (x, y, z, t, s) = numL x ++ numL y ++ numL z ++ numL t ++ textL s.data.toList := by rw [HPL.out]; simp [relL, numsL]
    rw [e]
    exact run_string_add_lists W _ _ (by simp only [List.length_append]; omega) (by omega)
  clear hr x0 x1 y0 y1 z0 z1 t0 t1 s1 hsl ox oy oz ot lx ly lz lt ls
  have hss : s = ⟨s.data.toList.toArray⟩ := rfl
  generalize (⟨(printL (x, y, z, t, s)).toArray⟩ : ByteArray) = A5 at h5 ⊢
  generalize (⟨(numL x ++ numL y ++ numL z ++ numL t).toArray⟩ : ByteArray) = A4 at h4 h5
  generalize (⟨(numL x ++ numL y ++ numL z).toArray⟩ : ByteArray) = A3 at h3 h4
  generalize (⟨(numL x ++ numL y).toArray⟩ : ByteArray) = A2 at h2 h3
  generalize (⟨(numL x).toArray⟩ : ByteArray) = T1 at h2 K1
  generalize (⟨(numL y).toArray⟩ : ByteArray) = T2 at h2 K2
  generalize (⟨(numL z).toArray⟩ : ByteArray) = T3 at h3 K3
  generalize (⟨(numL t).toArray⟩ : ByteArray) = T4 at h4 K4
  generalize (⟨(textL s.data.toList).toArray⟩ : ByteArray) = T5 at h5 K5
  rw [← hss] at K5
  clear hss
  have hq := BlkIs.alloc w [.int .i64 x, .int .i64 y, .int .i64 z, .int .i64 t, .string s] 75
  have HB := Lib.hid (below1 w (.cells #[.int .i64 x, .int .i64 y, .int .i64 z, .int .i64 t, .string s] 75))
  have q0 := hq.cell 0
  have q1 := hq.cell 1
  have q2 := hq.cell 2
  have q3 := hq.cell 3
  have q4 := hq.cell 4
  have lq := hq.lt
  simp only [List.getElem?_cons_zero, List.getElem?_cons_succ] at q0 q1 q2 q3 q4
  clear hq
  go_enter Tryd.func39, Tryd.ntmps39
  go_wp2_with fail
  generalize w.alloc (.cells #[.int .i64 x, .int .i64 y, .int .i64 z, .int .i64 t, .string s] 75) = W at *
  go_region_held3 (fun w' => (∀ b o, b < (W).heap.size → w'.cell? ⟨b, o, none⟩ = (W).cell? ⟨b, o, none⟩) ∧ Below (W).heap.size (W) w') (first | exact stay0 _ | exact stay ‹_› ‹_›) (first
    | (go_at_call 24; (first | (with_reducible refine (K1.out _).mono ?_) | (with_reducible refine (K2.out _).mono ?_) | (with_reducible refine (K3.out _).mono ?_) | (with_reducible refine (K4.out _).mono ?_)); rintro e w' ⟨rfl, hb⟩)
    | (go_at_call 91; (with_reducible refine (K5.out _).mono ?_); rintro e w' ⟨rfl, hb⟩))
  go_wp2
  go_ret
  exact ⟨rfl, stayEnd HB.out HB.out.size ‹_›⟩
set_option maxHeartbeats 4000000 in
theorem ref15Text (v : Value) (l : List Rel) (w : World) (hS : SlAt 5 encR w v l) (hok : OkR l) : Calls Tryd.prog 44 #[v] w fun e w' => e = .returned (.string ⟨(inbL l).toArray⟩) ∧ Below w.heap.size w w' := by
  have hl12 := hok.len
  obtain ⟨pp, c, rfl, _, hcl⟩ := hS
  have HC := Lib.hid hcl
  have HOK := Lib.hid hok
  have HPE := Lib.hid (inbP_end l)
  have HP0 := Lib.hid (inbP_zero l)
  have K0 := Lib.hid (ref06Int (l.length : Int) (okI_s (by omega) (by omega)) w)
  clear hcl hok
  generalize hn : l.length = n at *
  have HN := Lib.hid hn
  clear hn
  go_enter Tryd.func44, Tryd.ntmps44
  go_wp2_with fail
  refine K0.out.mono ?_
  rintro e w1 ⟨rfl, hb⟩
  have HB1 := Lib.hid hb
  clear hb K0
  rw [← HP0.out]
  clear HP0
  go_wp2
  go_loopw [3, 4] (fun s3 s4 wr => ∃ k : Nat, s4 = .int .i64 k ∧ k ≤ n ∧ s3 = .string ⟨(inbP l k).toArray⟩ ∧ Below w.heap.size w wr) (fun _ s4 _ => n - (intOf s4).toNat)
  case atStart => exact ⟨0, by go_num, by omega, rfl, HB1.out⟩
  case round =>
    obtain ⟨k, rfl, hk, rfl, hB⟩ := hrel
    have HB := Lib.hid hB
    clear hB
    by_cases hlt : k < n
    · have hltz : (k : Int) < (n : Int) := by omega
      obtain ⟨g, off, rfl, hg, hc⟩ := HC.out (by omega)
      have hkl : k < l.length := by have := HN.out; omega
      have HRI := HOK.out.right hkl
      have hE := inbP_succ hkl
      have hLN := inbP_len (l := l) (by have := HN.out; omega) k (by omega)
      have c0 := (HB.out.cell (p := ⟨g, off + k * 5, none⟩) hg).trans (hc k (by omega) 0 _ rfl)
      have c1 := (HB.out.cell (p := ⟨g, off + k * 5 + 1, none⟩) hg).trans (hc k (by omega) 1 _ rfl)
      have c2 := (HB.out.cell (p := ⟨g, off + k * 5 + 1 + 1, none⟩) hg).trans (hc k (by omega) 2 _ rfl)
      have c3 := (HB.out.cell (p := ⟨g, off + k * 5 + 1 + 1 + 1, none⟩) hg).trans (hc k (by omega) 3 _ rfl)
      have c4 := (HB.out.cell (p := ⟨g, off + k * 5 + 1 + 1 + 1 + 1, none⟩) hg).trans (hc k (by omega) 4 _ rfl)
      have hPL := printL_len l[k]!
      have hTL := textL_len (s := printL l[k]!) (by omega)
      clear hc hkl
      generalize l[k]! = r at *
      obtain ⟨a1, a2, a3, a4, s⟩ := r
      have K1 := Lib.hid (fun W => ref15Print a1 a2 a3 a4 s W HRI)
      have K2 := Lib.hid (fun W => ref06Text (printL (a1, a2, a3, a4, s)) (by omega) W)
      have hadd : ∀ W, (Op.stringOp .add ⟨(inbP l k).toArray⟩ ⟨(textL (printL (a1, a2, a3, a4, s))).toArray⟩).run Tryd.prog W = .ok (.string ⟨(inbP l (k + 1)).toArray⟩) W := fun W => by
        rw [hE]
        exact run_string_add_lists W _ _ (by omega) (by omega)
      clear HRI hE hLN hPL hTL
      generalize (⟨(inbP l k).toArray⟩ : ByteArray) = A0 at *
      generalize hA1 : (⟨(inbP l (k + 1)).toArray⟩ : ByteArray) = A1 at *
      have HA1 := Lib.hid hA1
      clear hA1
      go_wp2_with fail
      refine (K1.out _).mono ?_
      rintro e w2 ⟨rfl, hb2⟩
      have HB2 := Lib.hid (HB.out.trans (hb2.mono HB.out.size))
      clear hb2
      go_wp2_with fail
      refine (K2.out _).mono ?_
      rintro e w3 ⟨rfl, hb3⟩
      have HB3 := Lib.hid (HB2.out.trans (hb3.mono HB2.out.size))
      clear hb3 c0 c1 c2 c3 c4
      go_wp2
      go_roundw
      case rel => exact ⟨k + 1, by go_num, by omega, by rw [HA1.out], HB3.out⟩
      case measure => simp [intOf] <;> omega
    · obtain rfl : k = n := by omega
      go_wp2
      go_ret
      exact ⟨by rw [← HPE.out]; rfl, HB.out⟩
end Go.Proofs.YtbbcicengfmhiaaDoor

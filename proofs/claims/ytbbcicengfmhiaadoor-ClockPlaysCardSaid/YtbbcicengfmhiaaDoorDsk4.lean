/- disk.Read. Conditions: said at each. -/
import Derived.Test.YtbbcicengfmhiaaDoorDsk3
namespace Go.Proofs.YtbbcicengfmhiaaDoor
set_option maxRecDepth 100000
open Go.RowKit

theorem lastW_len {n : Nat} {C : List Wr} (hC : OkW n C) {s : List UInt8} (hs : s.length = 64) (p : Nat) : ∀ k, k ≤ C.length → (lastW C p k s).length = 64 := by
  intro k
  induction k with
  | zero => intro _; exact hs
  | succ k ih =>
    intro hk
    unfold lastW
    split
    · exact (hC k (by omega)).2
    · exact ih (by omega)
theorem owns_keptG {w w' : World} {base : Nat} {e : TypeId} {size : Nat} {v : Value} {n : Nat} {xs : List Value} {q : Nat} (h : w.ownsRow base e size v n xs) (hk : KeptG q w w') (hq : v.ownBlock ≠ some q) : w'.ownsRow base e size v n xs := by
  obtain ⟨h1, h2⟩ := h
  refine ⟨h1, ?_⟩
  rcases h2 with h2 | ⟨g, cap, cur, rfl, hg, hh, hr⟩
  · exact .inl h2
  · exact .inr ⟨g, cap, cur, rfl, hg, (hk.2.1 g (fun e => hq (by simp [Value.ownBlock, e]))).trans hh, hr⟩
theorem DkAt.other {b g : Nat} {K : List (List UInt8)} {cv : Value} {C : List Wr} {off : Bool} {armed : Int} {bits : Nat} {writes : Int} {w w' : World} {q : Nat} (h : DkAt b g K cv C off armed bits writes w) (hk : KeptG q w w') (h1 : q ≠ b) (h2 : q ≠ g) (h3 : cv.ownBlock ≠ some q) :
    DkAt b g K cv C off armed bits writes w' := ⟨h.1, hk.blk h.2.1 (Ne.symm h1), hk.blk h.2.2.1 (Ne.symm h2), owns_keptG h.2.2.2 hk h3⟩
set_option maxHeartbeats 4000000 in
theorem dskRead (b g : Nat) (K : List (List UInt8)) (cv : Value) (C : List Wr) (armed : Int) (bits : Nat) (writes : Int) (p : Nat) (w : World) (h : DkAt b g K cv C false armed bits writes w) (hp : p < K.length) (hK : K.length ≤ 4096) (hC : C.length ≤ 100000) :
    Calls Tryd.prog 136 #[.pointer (some ⟨b, 0, none⟩), .int .i64 (p : Nat)] w fun e w' => e = .returned (.tuple #[.string ⟨(lastW C p C.length K[p]!).toArray⟩, .int .i64 0]) ∧ Below w.heap.size w w' := by
  obtain ⟨cp, cc, rfl⟩ := cv_slice h.2.2.2
  have c0 := h.2.1.cell 0
  have c1 := h.2.1.cell 1
  simp only [List.getElem?_cons_zero, List.getElem?_cons_succ] at c0 c1
  have KC := Lib.hid (dskCheck b g K _ C armed bits writes p w h hp)
  have HD := Lib.hid h
  have HO := Lib.hid h.1.2.2
  have HA := Lib.hid h.1.2.1
  have hl := h.1.2.1 p hp
  have hpz : (p : Int) < (K.length : Int) := by omega
  have HRG := Lib.hid (show w.rangeAt g (p * 64) (bcs K[p]!) from h.2.2.1.range (fun j v hv => by
    have hj : j < (K[p]!).length := by have := (List.getElem?_eq_some_iff.1 hv).1; rwa [bcs_len] at this
    rw [bcs, List.getElem?_map] at hv ⊢
    rw [flatS_get h.1.2.1 hp hj]
    exact hv))
  have HOW := Lib.hid (show b < w.heap.size ∧ g < w.heap.size ∧ ∀ x, (Value.slice cp C.length cc).ownBlock = some x → x < w.heap.size from ⟨h.2.1.lt, h.2.2.1.lt, fun x hx => (h.2.2.2.lt x hx).2⟩)
  clear h
  have HLL := Lib.hid (fun k hk => lastW_len HO.out hl p k hk)
  have HL0 := Lib.hid (show lastW C p 0 K[p]! = K[p]! from rfl)
  have HIS := Lib.hid (show (Tryd.prog.info? 163).map (·.size) = some (bcs K[p]!).length by rw [bcs_len, hl]; exact infoS)
  have HIS2 := Lib.hid (show (Tryd.prog.info? 163).map (·.size) = some (bcs K[p]!).toArray.size by rw [List.size_toArray]; exact HIS.out)
  have HZS := Lib.hid (show (#[Value.int IntKind.u8 0, Value.int IntKind.u8 0, Value.int IntKind.u8 0, Value.int IntKind.u8 0, Value.int IntKind.u8 0, Value.int IntKind.u8 0, Value.int IntKind.u8 0, Value.int IntKind.u8 0, Value.int IntKind.u8 0, Value.int IntKind.u8 0, Value.int IntKind.u8 0, Value.int IntKind.u8 0, Value.int IntKind.u8 0, Value.int IntKind.u8 0, Value.int IntKind.u8 0, Value.int IntKind.u8 0, Value.int IntKind.u8 0, Value.int IntKind.u8 0, Value.int IntKind.u8 0, Value.int IntKind.u8 0, Value.int IntKind.u8 0, Value.int IntKind.u8 0, Value.int IntKind.u8 0, Value.int IntKind.u8 0, Value.int IntKind.u8 0, Value.int IntKind.u8 0, Value.int IntKind.u8 0, Value.int IntKind.u8 0, Value.int IntKind.u8 0, Value.int IntKind.u8 0, Value.int IntKind.u8 0, Value.int IntKind.u8 0, Value.int IntKind.u8 0, Value.int IntKind.u8 0, Value.int IntKind.u8 0, Value.int IntKind.u8 0, Value.int IntKind.u8 0, Value.int IntKind.u8 0, Value.int IntKind.u8 0, Value.int IntKind.u8 0, Value.int IntKind.u8 0, Value.int IntKind.u8 0, Value.int IntKind.u8 0, Value.int IntKind.u8 0, Value.int IntKind.u8 0, Value.int IntKind.u8 0, Value.int IntKind.u8 0, Value.int IntKind.u8 0, Value.int IntKind.u8 0, Value.int IntKind.u8 0, Value.int IntKind.u8 0, Value.int IntKind.u8 0, Value.int IntKind.u8 0, Value.int IntKind.u8 0, Value.int IntKind.u8 0, Value.int IntKind.u8 0, Value.int IntKind.u8 0, Value.int IntKind.u8 0, Value.int IntKind.u8 0, Value.int IntKind.u8 0, Value.int IntKind.u8 0, Value.int IntKind.u8 0, Value.int IntKind.u8 0, Value.int IntKind.u8 0] : Array Value).size = (bcs K[p]!).toArray.size by rw [show (bcs K[p]!).toArray.size = 64 by rw [List.size_toArray, bcs_len, hl]]; rfl)
  generalize K[p]! = s0 at *
  obtain ⟨m, hm⟩ : ∃ m, m = C.length := ⟨_, rfl⟩
  rw [← hm] at hC c1 HD HLL HOW ⊢
  have HM := Lib.hid hm
  clear hm
  go_enter Tryd.func136, Tryd.ntmps136
  go_wp2_with fail
  refine KC.out.mono ?_
  rintro e w1 ⟨rfl, rfl⟩
  go_upto_region 5 with (first
    | (with_reducible refine wpList_load_mid rfl 163 (.tmp 21) rfl g (p * 64) rfl (bcs s0) _ HRG.out Tryd.underlying163 rfl HIS.out ?_)
    | (with_reducible refine wpList_store_new rfl 163 (.tmp 7) (.tmp 22) rfl w (#[Value.int IntKind.u8 0, Value.int IntKind.u8 0, Value.int IntKind.u8 0, Value.int IntKind.u8 0, Value.int IntKind.u8 0, Value.int IntKind.u8 0, Value.int IntKind.u8 0, Value.int IntKind.u8 0, Value.int IntKind.u8 0, Value.int IntKind.u8 0, Value.int IntKind.u8 0, Value.int IntKind.u8 0, Value.int IntKind.u8 0, Value.int IntKind.u8 0, Value.int IntKind.u8 0, Value.int IntKind.u8 0, Value.int IntKind.u8 0, Value.int IntKind.u8 0, Value.int IntKind.u8 0, Value.int IntKind.u8 0, Value.int IntKind.u8 0, Value.int IntKind.u8 0, Value.int IntKind.u8 0, Value.int IntKind.u8 0, Value.int IntKind.u8 0, Value.int IntKind.u8 0, Value.int IntKind.u8 0, Value.int IntKind.u8 0, Value.int IntKind.u8 0, Value.int IntKind.u8 0, Value.int IntKind.u8 0, Value.int IntKind.u8 0, Value.int IntKind.u8 0, Value.int IntKind.u8 0, Value.int IntKind.u8 0, Value.int IntKind.u8 0, Value.int IntKind.u8 0, Value.int IntKind.u8 0, Value.int IntKind.u8 0, Value.int IntKind.u8 0, Value.int IntKind.u8 0, Value.int IntKind.u8 0, Value.int IntKind.u8 0, Value.int IntKind.u8 0, Value.int IntKind.u8 0, Value.int IntKind.u8 0, Value.int IntKind.u8 0, Value.int IntKind.u8 0, Value.int IntKind.u8 0, Value.int IntKind.u8 0, Value.int IntKind.u8 0, Value.int IntKind.u8 0, Value.int IntKind.u8 0, Value.int IntKind.u8 0, Value.int IntKind.u8 0, Value.int IntKind.u8 0, Value.int IntKind.u8 0, Value.int IntKind.u8 0, Value.int IntKind.u8 0, Value.int IntKind.u8 0, Value.int IntKind.u8 0, Value.int IntKind.u8 0, Value.int IntKind.u8 0, Value.int IntKind.u8 0] : Array Value) (bcs s0).toArray rfl rfl HIS2.out HZS.out (bcs_oneA _) ?_))
  have hb1 := below1 w (.cells (bcs s0).toArray 163)
  have HQ := Lib.hid (show BlkIs (w.alloc (.cells (bcs s0).toArray 163)) w.heap.size (bcs (lastW C p 0 s0)) 163 by rw [HL0.out]; exact BlkIs.alloc w (bcs s0) 163)
  have HD := Lib.hid (HD.out.below hb1)
  have HB := Lib.hid hb1
  clear hb1 c0 KC
  have c1 := HD.out.2.1.cell 1
  simp only [List.getElem?_cons_zero, List.getElem?_cons_succ] at c1
  generalize hW1 : w.alloc (.cells (bcs s0).toArray 163) = W1 at *
  generalize hqe : w.heap.size = q at *
  have HQE := Lib.hid hqe
  clear hqe hW1
  go_wp2
  have hqw : q ≤ W1.heap.size := Nat.le_of_lt HQ.out.lt
  go_loopw [28] (fun i wr => ∃ k : Nat, k ≤ m ∧ i = .int .i64 k ∧ DkAt b g K (.slice cp m cc) C false armed bits writes wr ∧ BlkIs wr q (bcs (lastW C p k s0)) 163 ∧ Below q w wr) (fun i _ => m - (intOf i).toNat)
  case atStart => exact ⟨0, by omega, rfl, HD.out, HQ.out, HB.out⟩
  case round =>
    clear HD HQ HB c1
    obtain ⟨k, hk, rfl, hd, hq, hb⟩ := hrel
    have HD := Lib.hid hd
    have HQ := Lib.hid hq
    have HB := Lib.hid hb
    clear hd hq hb
    by_cases hlt : k < m
    · have hltz : (k : Int) < (m : Int) := by omega
      have hx := HO.out k (by have := HM.out; omega)
      obtain ⟨r, c, hv, hrb, hrg⟩ := cacheAt HD.out.2.2.2 HD.out.1.2.2 (k := k) (by have := HM.out; omega)
      simp only [Value.slice.injEq] at hv
      obtain ⟨rfl, hcl, rfl⟩ := hv
      clear hcl
      have HCE := Lib.hid (show lastW C p (k + 1) s0 = if (C[k]!).1 = p then (C[k]!).2 else lastW C p k s0 from rfl)
      generalize C[k]! = x at hx hrg HCE
      obtain ⟨px, sx⟩ := x
      dsimp only at hx HCE
      have hwl := encW_len (x := (px, sx)) hx.2
      have HIW := Lib.hid (show (Tryd.prog.info? 165).map (·.size) = some (encW (px, sx)).length by rw [hwl]; exact infoW)
      have HIA := Lib.hid (show (Tryd.prog.info? 165).map (·.size) = some (encW (px, sx)).toArray.size by rw [List.size_toArray]; exact HIW.out)
      have HZA := Lib.hid (show Tryd.zeroCells165.size = (encW (px, sx)).toArray.size by rw [show (encW (px, sx)).toArray.size = 65 by rw [List.size_toArray]; exact hwl]; exact zc165)
      clear hwl
      go_upto_region 8 with (first
        | (with_reducible refine wpList_load_mid rfl 165 (.tmp 30) rfl r (k * 65) rfl (encW (px, sx)) _ hrg Tryd.underlying165 rfl HIW.out ?_)
        | (with_reducible refine wpList_store_new rfl 165 (.tmp 9) (.tmp 31) rfl wr Tryd.zeroCells165 (encW (px, sx)).toArray rfl rfl HIA.out HZA.out (encW_one _) ?_))
      have hb1 := below1 wr (.cells (encW (px, sx)).toArray 165)
      have HX := Lib.hid (BlkIs.alloc wr (encW (px, sx)) 165)
      have hqx : q < wr.heap.size := HQ.out.lt
      have HD := Lib.hid (HD.out.below hb1)
      have HQ := Lib.hid (HQ.out.below hb1)
      have HB := Lib.hid (HB.out.trans (hb1.mono (by omega)))
      clear hb1 hrg
      generalize wr.alloc (.cells (encW (px, sx)).toArray 165) = W2 at HX HD HQ HB ⊢
      generalize wr.heap.size = qx at HX hqx ⊢
      have q0 := HX.out.cell 0
      simp only [List.getElem?_cons_zero, encW] at q0
      by_cases hpx : px = p
      · have HE := Lib.hid (show lastW C p (k + 1) s0 = sx by rw [HCE.out, if_pos hpx])
        have hsr : W2.rangeAt qx 1 (bcs sx) := HX.out.range (fun j v hv => by rw [encW, Nat.add_comm 1 j, List.getElem?_cons_succ]; exact hv)
        have HSR := Lib.hid hsr
        have HIS := Lib.hid (show (Tryd.prog.info? 163).map (·.size) = some (bcs sx).length by rw [bcs_len, hx.2]; exact infoS)
        have HIS2 := Lib.hid (show (Tryd.prog.info? 163).map (·.size) = some (bcs sx).toArray.size by rw [List.size_toArray]; exact HIS.out)
        have hll : (lastW C p k s0).length = 64 := HLL.out k (by omega)
        have HTH := Lib.hid (show W2.there q 0 (bcs sx).toArray.size from HQ.out.there (by rw [List.size_toArray, bcs_len, bcs_len, hx.2, hll]; decide))
        have HQ3 := Lib.hid (show BlkIs (W2.setCells q 0 (bcs sx)) q (bcs (lastW C p (k + 1) s0)) 163 by
          have := BlkIs.sets (bcs sx) 0 W2 _ HQ.out (by rw [bcs_len, bcs_len, hx.2, hll]; decide)
          rw [bcs_splice] at this
          rw [HE.out]
          unfold splice at this
          rw [List.take_zero, List.nil_append, List.drop_eq_nil_of_le (by rw [hll, Nat.zero_add, hx.2]; decide), List.append_nil] at this
          exact this)
        have HK3 := Lib.hid (KeptG.sets q 0 W2 (bcs sx))
        have HD3 := Lib.hid (HD.out.other HK3.out (by have := HOW.out.1; omega) (by have := HOW.out.2.1; omega) (fun e => by have := HOW.out.2.2 q e; omega))
        have HB3 := Lib.hid (KeptG.below HB.out HK3.out (Nat.le_refl _))
        subst hpx
        clear hsr hll
        go_wp2_with (first
          | (with_reducible refine wpList_load_mid rfl 163 (.tmp 36) rfl qx 1 rfl (bcs sx) _ HSR.out Tryd.underlying163 rfl HIS.out ?_)
          | (with_reducible refine wpList_store_mid rfl 163 (.tmp 7) (.tmp 37) rfl q 0 (bcs sx).toArray rfl rfl HTH.out HIS2.out (bcs_oneA sx) ?_))
        generalize W2.setCells q 0 (bcs sx).toArray.toList = W3 at HQ3 HK3 HD3 HB3 ⊢
        go_wp2
        go_roundw
        case rel => first | exact ⟨k + 1, by omega, by go_num, HD3.out, HQ3.out, HB3.out⟩ | ((repeat apply Exists.intro); exact ⟨⟨k + 1, by omega, by go_num, HD3.out, HQ3.out, HB3.out⟩, rfl⟩) | trace_state
        case measure => simp [intOf] <;> omega
      · have HQ3 := Lib.hid (show BlkIs W2 q (bcs (lastW C p (k + 1) s0)) 163 by rw [HCE.out, if_neg hpx]; exact HQ.out)
        have hne : ((px : Int) == (p : Int)) = false := by simp; omega
        clear hpx
        go_wp2
        go_roundw
        case rel => first | exact ⟨k + 1, by omega, by go_num, HD.out, HQ3.out, HB.out⟩ | ((repeat apply Exists.intro); exact ⟨⟨k + 1, by omega, by go_num, HD.out, HQ3.out, HB.out⟩, rfl⟩) | trace_state
        case measure => simp [intOf] <;> omega
    · obtain rfl : k = m := by omega
      have hcv := run_bytes (P := Tryd.prog) (w := wr) (b := q) (o := 0) (k := 64) (cap := 64) (src := 56) (dst := 9) (e := 5) (l := lastW C p k s0) Tryd.underlying56 Tryd.underlying5 Tryd.underlying9 HQ.out (HLL.out k (by omega)).symm (fun j hj => by rw [Nat.zero_add])
      obtain ⟨sz, hsz⟩ : ∃ sz, sz = lastW C p k s0 := ⟨_, rfl⟩
      rw [← hsz] at hcv
      have HSZ := Lib.hid hsz
      clear hsz
      go_wp2
      go_ret2
      exact ⟨by rw [← HSZ.out]; rfl, by rw [HQE.out]; exact HB.out⟩
end Go.Proofs.YtbbcicengfmhiaaDoor

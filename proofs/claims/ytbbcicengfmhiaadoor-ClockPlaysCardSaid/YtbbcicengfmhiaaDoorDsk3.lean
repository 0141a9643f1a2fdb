/- Flush, Read, Write. Conditions: said at each. -/
import Derived.Test.YtbbcicengfmhiaaDoorDsk2
import Derived.Test.YtbbcicengfmhiaaDoorAppN
namespace Go.Proofs.YtbbcicengfmhiaaDoor
set_option maxRecDepth 100000
open Go.RowKit

theorem wpStill_load_mid {P : Program} {ops : Array Oper} {rest : List Oper} {w : World} {Q : Act → Prop} {a : Act} {o : Oper} (hw : Region.wanted o (yielded ops a.tmps) = true) (ty : TypeId) (x : Operand) (ho : o.op = .load ty x)
    (b off : Nat) (hx : a.eval x = .pointer (some ⟨b, off, none⟩)) (cs : List Value) (d : TypeDesc) (hc : w.rangeAt b off cs) (hu : P.underlying ty = some d) (hd : d.isRow = true) (hi : (P.info? ty).map (·.size) = some cs.length)
    (h : wpStill P ops w Q rest (a.put o.dst (.agg cs.toArray))) : wpStill P ops w Q (o :: rest) a := by
  refine wpStill_step fun K hK => ?_
  rw [if_pos hw]
  unfold Oper.still execOp
  simp only [ho, hx, Instr.loadAt, Instr.sureAddr, Sem.run_bind, Sem.run_pure, Result.andThen_ok, run_loadVar_mid w b off ty cs d hc hu hd hi]
  exact ⟨rfl, hK _ h⟩
theorem flush1_eq {K : List (List UInt8)} {x : Wr} (h : AllS K) (h1 : x.1 < K.length) (h2 : x.2.length = 64) : splice K.flatten (x.1 * 64) x.2 = (K.set x.1 x.2).flatten := by
  rw [flatS_put h h1 (by omega), List.drop_eq_nil_of_le (by rw [h x.1 h1]; omega), List.append_nil]
set_option maxHeartbeats 4000000 in
theorem dskFlush (b g : Nat) (K : List (List UInt8)) (cv : Value) (C : List Wr) (armed : Int) (bits : Nat) (writes : Int) (w : World) (h : DkAt b g K cv C false armed bits writes w) (hK0 : 0 < K.length) (hK : K.length ≤ 4096) (hC : C.length ≤ 100000) :
    Calls Tryd.prog 140 #[.pointer (some ⟨b, 0, none⟩)] w fun e w' => e = .returned (.int .i64 0) ∧ DkAt b g (flushN K C C.length) (.slice none 0 0) [] false armed bits writes w' ∧ Kept2 b g w w' := by
  obtain ⟨cp, cc, rfl⟩ := cv_slice h.2.2.2
  have c1 := h.2.1.cell 1
  simp only [List.getElem?_cons_zero, List.getElem?_cons_succ] at c1
  have KC := Lib.hid (show Calls Tryd.prog 157 #[.pointer (some ⟨b, 0, none⟩), .int .i64 0] w fun e w' => e = .returned (.int .i64 0) ∧ w = w' from dskCheck b g K _ C armed bits writes 0 w h hK0)
  have HD := Lib.hid h
  have hgb := h.1.1
  have hbz := h.2.1.lt
  have HO := Lib.hid h.1.2.2
  have HA := Lib.hid h.1.2.1
  clear h
  obtain ⟨m, hm⟩ : ∃ m, m = C.length := ⟨_, rfl⟩
  rw [← hm] at hC c1 HD ⊢
  have HM := Lib.hid hm
  clear hm
  go_enter Tryd.func140, Tryd.ntmps140
  go_wp2_with fail
  refine KC.out.mono ?_
  rintro e w1 ⟨rfl, rfl⟩
  go_wp2
  go_loopw [16] (fun i wr => ∃ k : Nat, k ≤ m ∧ i = .int .i64 k ∧ DkAt b g (flushN K C k) (.slice cp m cc) C false armed bits writes wr ∧ KeptB g w wr) (fun i _ => m - (intOf i).toNat)
  case atStart => exact ⟨0, by omega, rfl, HD.out, KeptB.refl _ _⟩
  case round =>
    clear HD c1 KC
    obtain ⟨k, hk, rfl, hd, hkp⟩ := hrel
    have HD := Lib.hid hd
    have HK := Lib.hid hkp
    clear hd hkp
    by_cases hlt : k < m
    · have hltz : (k : Int) < (m : Int) := by omega
      have hx := HO.out k (by have := HM.out; omega)
      obtain ⟨r, c, hv, hrb, hrg⟩ := cacheAt HD.out.2.2.2 HD.out.1.2.2 (k := k) (by have := HM.out; omega)
      simp only [Value.slice.injEq] at hv
      obtain ⟨rfl, hcl, rfl⟩ := hv
      clear hcl
      have HCE := Lib.hid (show flushN K C (k + 1) = (flushN K C k).set (C[k]!).1 (C[k]!).2 from rfl)
      generalize C[k]! = x at hx hrg HCE
      obtain ⟨px, sx⟩ := x
      dsimp only at hx HCE
      have hwl := encW_len (x := (px, sx)) hx.2
      have HIW := Lib.hid (show (Tryd.prog.info? 165).map (·.size) = some (encW (px, sx)).length by rw [hwl]; exact infoW)
      have HIA := Lib.hid (show (Tryd.prog.info? 165).map (·.size) = some (encW (px, sx)).toArray.size by rw [List.size_toArray]; exact HIW.out)
      have HZA := Lib.hid (show Tryd.zeroCells165.size = (encW (px, sx)).toArray.size by rw [show (encW (px, sx)).toArray.size = 65 by rw [List.size_toArray]; exact hwl]; exact zc165)
      clear hwl
      go_wp2_with (first
        | (with_reducible refine wpList_load_mid rfl 165 (.tmp 18) rfl r (k * 65) rfl (encW (px, sx)) _ hrg Tryd.underlying165 rfl HIW.out ?_)
        | (with_reducible refine wpList_store_new rfl 165 (.tmp 5) (.tmp 19) rfl wr Tryd.zeroCells165 (encW (px, sx)).toArray rfl rfl HIA.out HZA.out (encW_one _) ?_))
      have hb1 := below1 wr (.cells (encW (px, sx)).toArray 165)
      have HQ := Lib.hid (BlkIs.alloc wr (encW (px, sx)) 165)
      have HD := Lib.hid (HD.out.below hb1)
      have HK := Lib.hid (HK.out.trans (KeptB.of (by have := HD.out.1.1; have := HD.out.2.2.1.lt; have := HK.out.2.2; omega) hb1))
      clear hb1 hrg
      generalize wr.alloc (.cells (encW (px, sx)).toArray 165) = W1 at HQ HD HK ⊢
      generalize wr.heap.size = q at HQ ⊢
      have c0 := HD.out.2.1.cell 0
      have q0 := HQ.out.cell 0
      simp only [List.getElem?_cons_zero, List.getElem?_cons_succ, encW] at c0 q0
      rw [flushN_len] at c0
      have HCE2 := Lib.hid (flush1_eq HD.out.1.2.1 (x := (px, sx)) (by rw [flushN_len]; exact hx.1) hx.2)
      have hpz : (px : Int) < (K.length : Int) := by omega
      have hsr : W1.drew.rangeAt q 1 (bcs sx) := (show BlkIs W1.drew q _ 165 from HQ.out).range (fun j v hv => by rw [encW, Nat.add_comm 1 j, List.getElem?_cons_succ]; exact hv)
      have HSR := Lib.hid hsr
      have HIS := Lib.hid (show (Tryd.prog.info? 163).map (·.size) = some (bcs sx).length by rw [bcs_len, hx.2]; exact infoS)
      have HIS2 := Lib.hid (show (Tryd.prog.info? 163).map (·.size) = some (bcs sx).toArray.size by rw [List.size_toArray]; exact HIS.out)
      clear hsr
      go_wp2_with fail
      refine wp_region_still_tail 9 (by kernel_rfl) (by kernel_rfl) ?_
      simp only [List.take_succ_cons, List.take_zero, List.drop_succ_cons, List.drop_zero]
      iterate 7 still_step
      refine wpStill_load_mid (by kernel_rfl) 163 (.tmp 26) rfl q 1 rfl (bcs sx) _ HSR.out Tryd.underlying163 rfl HIS.out ?_
      still_step
      refine wpStill_nil ?_
      change wpList _ _ _ _ _ W1.drew
      have hth : W1.drew.there g (px * 64) (bcs sx).toArray.size := by
        refine (show BlkIs W1.drew g _ 163 from HD.out.2.2.1).there ?_
        rw [List.size_toArray, bcs_len, bcs_len, hx.2, flatS_len HD.out.1.2.1, flushN_len]
        have := hx.1
        omega
      refine wpList_store_mid rfl 163 (.tmp 28) (.tmp 27) rfl g (px * 64) (bcs sx).toArray rfl rfl hth HIS2.out (bcs_oneA sx) ?_
      have hb2 := BlkIs.sets (bcs sx) (px * 64) W1.drew _ (show BlkIs W1.drew g _ 163 from HD.out.2.2.1) (by
        rw [bcs_len, bcs_len, hx.2, flatS_len HD.out.1.2.1, flushN_len]
        have := hx.1
        omega)
      rw [bcs_splice, HCE2.out, ← HCE.out] at hb2
      have hk3 := (KeptG.drew g W1).trans (KeptG.sets g (px * 64) W1.drew (bcs sx))
      have HD := Lib.hid (HD.out.keptG hk3 (by rw [flushN_len, flushN_len]) (flushN_all HA.out HO.out (k + 1) (by have := HM.out; omega)) hb2)
      have HK := Lib.hid (HK.out.trans hk3.toB)
      clear hb2 hk3 hth c0 q0
      generalize W1.drew.setCells g (px * 64) (bcs sx).toArray.toList = W2 at HD HK ⊢
      go_wp2
      go_roundw
      case rel => first | exact ⟨k + 1, by omega, by go_num, HD.out, HK.out⟩ | ((repeat apply Exists.intro); exact ⟨⟨k + 1, by omega, by go_num, HD.out, HK.out⟩, rfl⟩) | trace_state
      case measure => simp [intOf] <;> omega
    · obtain rfl : k = m := by omega
      have hd0 := HD.out.2.1.cell 1
      simp only [List.getElem?_cons_zero, List.getElem?_cons_succ] at hd0
      have f0 := HD.out.2.1.frozen 1
      have HK2 := Lib.hid (KeptG.set b 1 wr (.slice none 0 0))
      have HE := Lib.hid (HD.out.set (cv' := .slice none 0 0) (C' := []) (off' := false) (armed' := armed) (bits' := bits) (writes' := writes) HK2.out (show BlkIs (wr.setCell ⟨b, 1, none⟩ (.slice none 0 0)) b _ 154 by
        have := HD.out.2.1.set (o := 1) (.slice none 0 0)
        simpa using this) (OkW.nil _) ⟨rfl, .inl ⟨rfl, rfl⟩⟩)
      have HK3 := Lib.hid (HK.out.to2.trans (HK2.out.toB.to2' hgb))
      go_wp2
      go_ret
      exact ⟨rfl, HE.out, HK3.out⟩
end Go.Proofs.YtbbcicengfmhiaaDoor

/- The power fails; what is cached is kept. Conditions: said at each. -/
import Derived.Test.YtbbcicengfmhiaaDoorDsk1
import Derived.Deep.QuietTactic
namespace Go.Proofs.YtbbcicengfmhiaaDoor
set_option maxRecDepth 100000
open Go.RowKit

theorem infoW : (Tryd.prog.info? 165).map (·.size) = some 65 := by kernel_rfl
theorem infoS : (Tryd.prog.info? 163).map (·.size) = some 64 := by kernel_rfl
theorem infoU : (Tryd.prog.info? 5).map (·.size) = some 1 := by kernel_rfl
theorem zc165 : Tryd.zeroCells165.size = 65 := by kernel_rfl
theorem encW_len {x : Wr} (h : x.2.length = 64) : (encW x).length = 65 := by simp [encW, bcs_len, h]
theorem encW_one (x : Wr) : (encW x).toArray.all (·.oneCell') = true := all_oneCell_toArray (fun v hv => by
  simp only [encW, List.mem_cons] at hv
  rcases hv with rfl | hv
  · rfl
  · exact bcs_one _ v hv)
/-- the k-th cached write lies there -/
theorem cacheAt {w : World} {base : Nat} {cv : Value} {C : List Wr} {n : Nat} (h : w.ownsRow base 165 65 cv C.length (C.flatMap encW)) (hC : OkW n C) {k : Nat} (hk : k < C.length) :
    ∃ r c, cv = .slice (some ⟨r, 0, none⟩) C.length c ∧ base ≤ r ∧ w.rangeAt r (k * 65) (encW C[k]!) := by
  rcases h.2 with ⟨_, h0⟩ | ⟨g, cap, cur, hv, hb, _⟩
  · omega
  · refine ⟨g, cap, hv, hb, ?_⟩
    have hc := fun j u hj => h.cells (g := g) (by rw [hv]; rfl) j u hj
    intro j v hj
    have hfl : ∀ (C : List Wr) (n : Nat), OkW n C → ∀ k, k < C.length → ∀ j v, (encW C[k]!)[j]? = some v → (C.flatMap encW)[k * 65 + j]? = some v := by
      intro C
      induction C with
      | nil => intro n _ k hk; simp at hk
      | cons x C ih =>
        intro n hC k hk j v hj
        have hx := hC 0 (by simp)
        simp only [List.getElem!_cons_zero] at hx
        have hxl := encW_len hx.2
        rw [List.flatMap_cons]
        cases k with
        | zero =>
          simp only [List.getElem!_cons_zero] at hj
          rw [Nat.zero_mul, Nat.zero_add, List.getElem?_append_left (List.getElem?_eq_some_iff.1 hj).1]
          exact hj
        | succ k =>
          rw [List.getElem?_append_right (by omega), hxl]
          have := ih n (fun i hi => by have := hC (i + 1) (by simpa using hi); simpa using this) k (by simpa using hk) j v (by simpa using hj)
          rw [← this]
          congr 1
          omega
    have := hc (k * 65 + j) v (hfl C n hC k hk j v hj)
    rwa [Addr.add_mid, Nat.zero_add] at this
theorem cv_slice {w : World} {base : Nat} {cv : Value} {n : Nat} {xs : List Value} {e : TypeId} {size : Nat} (h : w.ownsRow base e size cv n xs) : ∃ p c, cv = .slice p n c := by
  rcases h.2 with ⟨hv, h0⟩ | ⟨g, cap, cur, hv, _⟩
  · subst h0; exact ⟨_, _, hv⟩
  · exact ⟨_, _, hv⟩
/-- what turns two blocks alone -/
def Kept2 (b g : Nat) (w w' : World) : Prop := (∀ B, B ≤ g → Below B w w') ∧ (∀ q, q < w.heap.size → q ≠ b → q ≠ g → w'.heap[q]? = w.heap[q]?) ∧ w.heap.size ≤ w'.heap.size
theorem Kept2.trans {b g : Nat} {w w1 w2 : World} (h : Kept2 b g w w1) (k : Kept2 b g w1 w2) : Kept2 b g w w2 :=
  ⟨fun B hB => (h.1 B hB).trans (k.1 B hB), fun q h1 h2 h3 => (k.2.1 q (Nat.lt_of_lt_of_le h1 h.2.2) h2 h3).trans (h.2.1 q h1 h2 h3), Nat.le_trans h.2.2 k.2.2⟩
theorem KeptB.to2 {b g : Nat} {w w' : World} (h : KeptB g w w') : Kept2 b g w w' := ⟨h.1, fun q h1 _ h3 => h.2.1 q h1 h3, h.2.2⟩
theorem KeptB.to2' {b g : Nat} {w w' : World} (h : KeptB b w w') (hg : g < b) : Kept2 b g w w' := ⟨fun B hB => h.1 B (by omega), fun q h1 h2 _ => h.2.1 q h1 h2, h.2.2⟩
theorem DkAt.keptG {b g : Nat} {K K' : List (List UInt8)} {cv : Value} {C : List Wr} {off : Bool} {armed : Int} {bits : Nat} {writes : Int} {w w' : World} (h : DkAt b g K cv C off armed bits writes w) (hk : KeptG g w w') (hK : K'.length = K.length) (hA : AllS K') (hg : BlkIs w' g (bcs K'.flatten) 163) :
    DkAt b g K' cv C off armed bits writes w' :=
  ⟨⟨h.1.1, hA, by rw [hK]; exact h.1.2.2⟩, by rw [hK]; exact hk.blk h.2.1 (by have := h.1.1; omega), hg, owns_kept2 h.2.2.2 hk (by have := h.1.1; omega)⟩
theorem crash1_eq {bt : Nat} {K : List (List UInt8)} {x : Wr} {i : Nat} (h : AllS K) (h1 : x.1 < K.length) (h2 : x.2.length = 64) : splice K.flatten (x.1 * 64) (x.2.take (fateN bt i)) = (crash1 bt K x i).flatten := by
  have hl : (x.2.take (fateN bt i)).length = fateN bt i := by rw [List.length_take, h2]; have := fateN_le bt i; omega
  rw [flatS_put h h1 (by rw [hl]; exact fateN_le bt i), hl]
  rfl
set_option maxHeartbeats 4000000 in
theorem dskCrash (b g : Nat) (K : List (List UInt8)) (cv : Value) (C : List Wr) (armed : Int) (bits : Nat) (writes : Int) (bt : Nat) (w : World) (h : DkAt b g K cv C false armed bits writes w) (hK : K.length ≤ 4096) (hC : C.length ≤ 100000) :
    Calls Tryd.prog 53 #[.pointer (some ⟨b, 0, none⟩), .int .u64 (bt : Nat)] w fun e w' => e = .returned (.tuple #[]) ∧ DkAt b g (crashN bt K C C.length) (.slice none 0 0) [] true armed bits writes w' ∧ Kept2 b g w w' := by
  obtain ⟨cp, cc, rfl⟩ := cv_slice h.2.2.2
  have c1 := h.2.1.cell 1
  have c2 := h.2.1.cell 2
  simp only [List.getElem?_cons_zero, List.getElem?_cons_succ] at c1 c2
  have HD := Lib.hid h
  have hgb := h.1.1
  have hbz := h.2.1.lt
  have HO := Lib.hid h.1.2.2
  have HA := Lib.hid h.1.2.1
  clear h
  obtain ⟨m, hm⟩ : ∃ m, m = C.length := ⟨_, rfl⟩
  rw [← hm] at hC c1 HD ⊢
  have HM := Lib.hid hm
  clear hm
  go_enter Tryd.func53, Tryd.ntmps53
  go_wp2
  go_loopw [4, 19] (fun _ i wr => ∃ k : Nat, k ≤ m ∧ i = .int .i64 k ∧ DkAt b g (crashN bt K C k) (.slice cp m cc) C false armed bits writes wr ∧ KeptB g w wr) (fun _ i _ => m - (intOf i).toNat)
  case atStart => exact ⟨0, by omega, rfl, HD.out, KeptB.refl _ _⟩
  case round =>
    clear HD c1 c2
    obtain ⟨k, hk, rfl, hd, hkp⟩ := hrel
    have HD := Lib.hid hd
    have HK := Lib.hid hkp
    clear hd hkp
    by_cases hlt : k < m
    · have hltz : (k : Int) < (m : Int) := by omega
      have hx := HO.out k (by have := HM.out; omega)
      obtain ⟨r, c, hv, hrb, hrg⟩ := cacheAt HD.out.2.2.2 HD.out.1.2.2 (k := k) (by have := HM.out; omega)
      simp only [Value.slice.injEq] at hv
      obtain ⟨rfl, hcl, rfl⟩ := hv
      clear hcl
      have HCE := Lib.hid (show crashN bt K C (k + 1) = crash1 bt (crashN bt K C k) C[k]! k from rfl)
      generalize C[k]! = x at hx hrg HCE
      obtain ⟨px, sx⟩ := x
      dsimp only at hx
      have hwl := encW_len (x := (px, sx)) hx.2
      have HIW := Lib.hid (show (Tryd.prog.info? 165).map (·.size) = some (encW (px, sx)).length by rw [hwl]; exact infoW)
      have HIA := Lib.hid (show (Tryd.prog.info? 165).map (·.size) = some (encW (px, sx)).toArray.size by rw [List.size_toArray]; exact HIW.out)
      have HZA := Lib.hid (show Tryd.zeroCells165.size = (encW (px, sx)).toArray.size by rw [show (encW (px, sx)).toArray.size = 65 by rw [List.size_toArray]; exact hwl]; exact zc165)
      clear hwl
      go_wp2_with (first
        | (with_reducible refine wpList_load_mid rfl 165 (.tmp 22) rfl r (k * 65) rfl (encW (px, sx)) _ hrg Tryd.underlying165 rfl HIW.out ?_)
        | (with_reducible refine wpList_store_new rfl 165 (.tmp 5) (.tmp 23) rfl wr Tryd.zeroCells165 (encW (px, sx)).toArray rfl rfl HIA.out HZA.out (encW_one _) ?_))
      have hb1 := below1 wr (.cells (encW (px, sx)).toArray 165)
      have HQ := Lib.hid (BlkIs.alloc wr (encW (px, sx)) 165)
      have HD := Lib.hid (HD.out.below hb1)
      have HK := Lib.hid (HK.out.trans (KeptB.of (by have := HD.out.1.1; have := HD.out.2.2.1.lt; have := HK.out.2.2; omega) hb1))
      clear hb1 hrg
      generalize wr.alloc (.cells (encW (px, sx)).toArray 165) = W1 at HQ HD HK ⊢
      generalize wr.heap.size = q at HQ ⊢
      have c0 := HD.out.2.1.cell 0
      have q0 := HQ.out.cell 0
      simp only [List.getElem?_cons_zero, List.getElem?_cons_succ, encW] at c0 q0
      rw [crashN_len] at c0
      have KF := Lib.hid (fun W => dskFate bt k W (by omega))
      have hFl := fateN_le bt k
      have HF := Lib.hid (show (sx.take (fateN bt k)).length = fateN bt k by rw [List.length_take, hx.2]; omega)
      have HCE2 := Lib.hid (crash1_eq (bt := bt) (i := k) HD.out.1.2.1 (x := (px, sx)) (by rw [crashN_len]; exact hx.1) hx.2)
      generalize hFe : fateN bt k = F at *
      have hF64 : (F : Int) ≤ 64 := by omega
      have hpz : (px : Int) < (K.length : Int) := by omega
      go_wp2_with fail
      refine wp_region_still_tail 13 (by kernel_rfl) (by kernel_rfl) ?_
      simp only [List.take_succ_cons, List.take_zero, List.drop_succ_cons, List.drop_zero]
      iterate 9 still_step
      still_call (KF.out _)
      iterate 3 still_step
      refine wpStill_nil ?_
      change wpList _ _ _ _ _ W1.drew
      have hsr : W1.drew.rangeAt q 1 (bcs (sx.take F)) := by
        refine (show BlkIs W1.drew q _ 165 from HQ.out).range (fun j v hv => ?_)
        rw [← bcs_take, List.getElem?_take] at hv
        rw [encW, Nat.add_comm 1 j, List.getElem?_cons_succ]
        split at hv
        · exact hv
        · cases hv
      have hfit : px * 64 + (sx.take F).length ≤ (crashN bt K C k).flatten.length := by
        rw [HF.out, flatS_len HD.out.1.2.1, crashN_len]
        have := hx.1
        omega
      refine wpList_copy_rows rfl (.tmp 34) (.tmp 36) 56 56 rfl 5 Tryd.underlying56 infoU g (px * 64) F _ q 1 64 _ rfl rfl (crashN bt K C k).flatten (sx.take F) 163 (show BlkIs W1.drew g _ 163 from HD.out.2.2.1) (by rw [HF.out]; exact (Nat.min_eq_right (by omega)).symm) hsr hfit ?_
      intro w2 hb2 hk2
      rw [HCE2.out, ← HCE.out] at hb2
      have hk3 := (KeptG.drew g W1).trans hk2
      have HD := Lib.hid (HD.out.keptG hk3 (by rw [crashN_len, crashN_len]) (crashN_all HA.out HO.out (k + 1) (by have := HM.out; omega)) hb2)
      have HK := Lib.hid (HK.out.trans hk3.toB)
      clear hb2 hk2 hk3 hsr hfit c0 q0
      go_wp2
      go_roundw
      case rel => first | exact ⟨k + 1, by omega, by go_num, HD.out, HK.out⟩ | ((repeat apply Exists.intro); exact ⟨⟨k + 1, by omega, by go_num, HD.out, HK.out⟩, rfl⟩) | trace_state
      case measure => simp [intOf] <;> omega
    · obtain rfl : k = m := by omega
      have hd0 := HD.out.2.1.cell 1
      have hd1 := HD.out.2.1.cell 2
      simp only [List.getElem?_cons_zero, List.getElem?_cons_succ] at hd0 hd1
      have f0 := HD.out.2.1.frozen 1
      have f1 := HD.out.2.1.frozen 2
      have HK2 := Lib.hid ((KeptG.set b 1 wr (.slice none 0 0)).trans (KeptG.set b 2 _ (.bool true)))
      have HE := Lib.hid (HD.out.set (cv' := .slice none 0 0) (C' := []) (off' := true) (armed' := armed) (bits' := bits) (writes' := writes) HK2.out (show BlkIs ((wr.setCell ⟨b, 1, none⟩ (.slice none 0 0)).setCell ⟨b, 2, none⟩ (.bool true)) b _ 154 by
        have := (HD.out.2.1.set (o := 1) (.slice none 0 0)).set (o := 2) (.bool true)
        simpa using this) (OkW.nil _) ⟨rfl, .inl ⟨rfl, rfl⟩⟩)
      have HK3 := Lib.hid (HK.out.to2.trans (HK2.out.toB.to2' hgb))
      go_wp2
      go_end0
      exact ⟨rfl, HE.out, HK3.out⟩
end Go.Proofs.YtbbcicengfmhiaaDoor

/- lockagelaw07.LexerLines. -/
import Derived.Test.YtefnkoofgpmmmaaGreatDoorN7
import Derived.Test.YtefnkoofgpmmmaaGreatDoorLxH
import Derived.Test.YtefnkoofgpmmmaaGreatDoorN8
namespace Go.Proofs.YtefnkoofgpmmmaaGreatDoor
set_option maxRecDepth 100000
open Go.RowKit Go.Shelf

/-- one row of the lines, and one word of it, as they lie -/
theorem LnAt.row {T : TypeId} {base : Nat} {v : Value} {svs : List Value} {ls : List (List WordV)} {w : World} (h : LnAt T base v svs ls w) {j : Nat} (hj : j < ls.length) :
    ∃ g cap p c, v = .slice (some ⟨g, 0, none⟩) ls.length cap ∧ w.cell? ⟨g, j, none⟩ = some (.slice p ls[j]!.length c) ∧ g < w.heap.size ∧ ls[j]!.length ≤ c ∧ ls.length ≤ cap ∧
      ∀ k, k < ls[j]!.length → ∃ b off, p = some ⟨b, off, none⟩ ∧ b < w.heap.size ∧ w.cell? ⟨b, off + k * 2, none⟩ = some (.string ls[j]![k]!.1) ∧ w.cell? ⟨b, off + k * 2 + 1, none⟩ = some (.int .i64 ls[j]![k]!.2) := by
  obtain ⟨p, c, hv, hc1, hc2⟩ := (h.inn j hj).1
  have hown := h.own
  rcases h.own.2 with ⟨_, h0⟩ | ⟨g, cap, cur, rfl, _, hg, hnc, _⟩
  · omega
  · have h1 := World.ownsRow.cells (g := g) hown rfl j svs[j]! (by
      have := h.len
      rw [getElem!_pos svs j (by omega), List.getElem?_eq_getElem (by omega)])
    rw [Go.WideShapes.add_plain, Nat.zero_add, hv] at h1
    refine ⟨g, cap, p, c, rfl, h1, (Array.getElem?_eq_some_iff.1 hg).1, hc1.1, hnc, fun k hk => ?_⟩
    obtain ⟨b, off, hp, hlt, hcell⟩ := hc2 (by omega)
    exact ⟨b, off, hp, hlt, hcell k hk 0 _ rfl, hcell k hk 1 _ rfl⟩
theorem LnAt.shape {T : TypeId} {base : Nat} {v : Value} {svs : List Value} {ls : List (List WordV)} {w : World} (h : LnAt T base v svs ls w) : ∃ p c, v = .slice p ls.length c := by
  rcases h.own.2 with ⟨rfl, h0⟩ | ⟨g, cap, cur, rfl, _⟩
  · exact ⟨none, 0, by rw [h0]⟩
  · exact ⟨_, _, rfl⟩
theorem wds_len : ∀ (a : Int) (ps : List ByteArray), (wds a ps).length ≤ ps.length
  | _, [] => by simp [wds]
  | a, p :: ps => by
    have := wds_len (a + p.size + 1) ps
    rw [wds, List.length_append, List.length_cons]
    split
    · simp; omega
    · simp; omega
theorem lns_len : ∀ (a : Int) (ps : List ByteArray), ∀ L ∈ lnsL a ps, L.length ≤ lenP ps
  | _, [], L, h => by simp [lnsL] at h
  | a, p :: ps, L, h => by
    have e : lenP (p :: ps) = p.size + 1 + lenP ps := by simp [lenP]
    rw [lnsL, List.mem_append] at h
    rcases h with h | h
    · split at h
      · cases h
      · rw [List.mem_singleton.1 h]
        have h1 := wds_len a (pcsB 32 p)
        have h2 := lenP_le (pcsB 32 p)
        rw [lenP_pcs] at h2
        show (wds a (pcsB 32 p)).length ≤ _
        omega
    · have := lns_len _ ps L h
      omega
theorem lex_len (s : ByteArray) : (lexLn s).length ≤ s.size + 1 ∧ ∀ L ∈ lexLn s, L.length ≤ s.size + 1 := by
  unfold lexLn
  split
  · have h1 := lnsL_len 0 (pcsB 10 s)
    have h2 := lenP_le (pcsB 10 s)
    rw [lenP_pcs] at h2
    exact ⟨by omega, fun L hL => by have := lns_len 0 (pcsB 10 s) L hL; rw [lenP_pcs] at this; exact this⟩
  · exact ⟨by simp, fun L hL => by cases hL⟩
set_option maxHeartbeats 16000000 in
theorem lawLines (s : ByteArray) (w : World) (hM : Met w) (hg : MetE w) (hs : s.size ≤ maxLen) : Calls Tryz.prog 3 #[.string s] w fun e w' => e = .returned (.bool true) ∧ Below w.heap.size w w' := by
  have HM0 := Lib.hid hM
  have HG0 := Lib.hid hg
  have HSM := Lib.hid hs
  have hs' := hs
  unfold maxLen at hs'
  clear hM hg hs
  go_enter Tryz.func3, Tryz.ntmps3
  go_wp2_with fail
  refine (awake07 _ HM0.out HG0.out).mono ?_
  rintro e w1 ⟨rfl, hb⟩
  have HB1 := Lib.hid hb
  have HM1 := Lib.hid (HM0.out.below hb)
  have HG1 := Lib.hid (HG0.out.below hb)
  clear hb
  by_cases hbig : 3000 < s.size
  · have hbz : (3000 : Int) < (s.size : Int) := by omega
    go_wp2_with fail
    refine (awake07 _ HM1.out HG1.out).mono ?_
    rintro e w2 ⟨rfl, hb⟩
    have HB2 := Lib.hid (HB1.out.trans (hb.mono HB1.out.size))
    clear hb
    go_wp2_with fail
    go_ret
    exact ⟨rfl, HB2.out⟩
  · have hbz : ¬ ((3000 : Int) < (s.size : Int)) := by omega
    go_wp2_with fail
    refine (lexLines s _ HSM.out).mono ?_
    rintro e w2 ⟨hb, v, err, svs, base, rfl, hE, hL⟩
    have HB2 := Lib.hid (HB1.out.trans (hb.mono HB1.out.size))
    have HG2 := Lib.hid (HG1.out.below hb)
    have HE2 := Lib.hid hE
    have HL2 := Lib.hid hL
    clear hb hE hL
    go_wp2_with fail
    refine (refLines s _ HSM.out).mono ?_
    rintro e w3 ⟨hb, v', svs', base', rfl, hL⟩
    have HB3 := Lib.hid (HB2.out.trans (hb.mono HB2.out.size))
    have HG3 := Lib.hid (HG2.out.below hb)
    have HE3 := Lib.hid (HE2.out.below hb)
    have HL3 := Lib.hid (HL2.out.below hb)
    have HR3 := Lib.hid hL
    clear hb hL
    obtain ⟨p, c, hv⟩ := HL3.out.shape
    subst hv
    obtain ⟨p', c', hv'⟩ := HR3.out.shape
    subst hv'
    by_cases h6 : 600 < s.size
    · obtain ⟨x1, x2, x3, x4⟩ := ref_long_eq h6
      rw [x2]
      have HW := Lib.hid (show ErrAt err (some (600, 16)) w3 by rw [← x1]; exact HE3.out)
      rw [x4]
      have hl0 : ([] : List (List WordV)).length = 0 := rfl
      clear x1 x2 x3 x4 h6
      go_wp2_with fail
      refine (kw _ _ _ _ HW.out HG3.out).mono ?_
      rintro e w4 ⟨rfl, hb⟩
      have HB4 := Lib.hid (HB3.out.trans (hb.mono HB3.out.size))
      clear hb
      go_wp2_with fail
      go_ret
      exact ⟨rfl, HB4.out⟩
    · have hs6 : s.size ≤ 600 := by omega
      cases hbad : badIx s with
      | some k =>
        obtain ⟨x1, x2, x3, x4⟩ := ref_bad_eq hs6 hbad
        rw [x2]
        have HW := Lib.hid (show ErrAt err (some ((k : Int), 3)) w3 by rw [← x1]; exact HE3.out)
        rw [x4]
        have hl0 : ([] : List (List WordV)).length = 0 := rfl
        clear x1 x2 x3 x4 h6 hbad
        go_wp2_with fail
        refine (kw _ _ _ _ HW.out HG3.out).mono ?_
        rintro e w4 ⟨rfl, hb⟩
        have HB4 := Lib.hid (HB3.out.trans (hb.mono HB3.out.size))
        clear hb
        go_wp2_with fail
        go_ret
        exact ⟨rfl, HB4.out⟩
      | none =>
        obtain ⟨x1, x2, x3⟩ := ref_fine_eq hs6 hbad
        rw [x2]
        have hen : err = .nilIface := by have := HE3.out; rw [x1] at this; exact this
        subst hen
        have HRL := Lib.hid (show LnAt 33 base' (.slice p' (lexLn s).length c') svs' (lexLn s) w3 by rw [← x3]; exact HR3.out)
        rw [x3]
        have HLY := Lib.hid (fun (L : List WordV) (hL : L ∈ lexLn s) (x : WordV) (hx : x ∈ L) => lex_lies hL hx)
        have HLE := Lib.hid (lex_len s)
        obtain ⟨ls, hls⟩ : ∃ ls, ls = lexLn s := ⟨_, rfl⟩
        rw [← hls] at HRL HLY HL3 HLE ⊢
        have HLS := Lib.hid (show ls = ls from rfl)
        clear x1 x2 x3 h6 hbad hls HR3 HE3 HL2 HE2
        obtain ⟨n, hn⟩ : ∃ n, n = ls.length := ⟨_, rfl⟩
        rw [← hn]
        have hn6 : n ≤ 601 := by have := HLE.out.1; omega
        have HN := Lib.hid hn
        clear hn
        go_wp2_with fail
        go_loopw [51] (fun s51 wr => ∃ i : Nat, s51 = .int .i64 i ∧ i ≤ n ∧ Below w3.heap.size w3 wr) (fun s51 _ => n - (intOf s51).toNat)
        case atStart => exact ⟨0, rfl, by omega, Below.refl _ _⟩
        case round =>
          obtain ⟨i, rfl, hi, hb⟩ := hrel
          have HBR := Lib.hid hb
          clear hb
          by_cases hlt : i < n
          · have hltz : (i : Int) < (n : Int) := by omega
            have hil : i < ls.length := by rw [← HN.out]; exact hlt
            obtain ⟨g, cap, q, c2, hv, hc, hgz, hcc, hnc, hw⟩ := HL3.out.row hil
            obtain ⟨g', cap', q', c2', hv', hc', hgz', hcc', hnc', hw'⟩ := HRL.out.row hil
            rw [← HN.out] at hv hv' hnc hnc'
            injection hv with e1 e2 e3
            injection hv' with e1' e2' e3'
            subst e1 e3 e1' e3'
            have HWD := Lib.hid hw
            have HWD' := Lib.hid hw'
            have HMEM := Lib.hid (show ls[i]! ∈ ls by rw [getElem!_pos ls i hil]; exact List.getElem_mem hil)
            clear hw hw' e2 e2' hil
            obtain ⟨L, hL⟩ : ∃ L, L = ls[i]! := ⟨_, rfl⟩
            rw [← hL] at HWD HWD' HMEM hc hc' hcc hcc'
            clear hL
            obtain ⟨m, hm⟩ : ∃ m, m = L.length := ⟨_, rfl⟩
            rw [← hm] at HWD HWD' hc hc' hcc hcc'
            have hm6 : m ≤ 601 := by have := HLE.out.2 L HMEM.out; omega
            have HMM := Lib.hid hm
            clear hm
            have HC := Lib.hid hc
            have HC' := Lib.hid hc'
            have HGZ := Lib.hid hgz
            have HGZ' := Lib.hid hgz'
            replace hc := (HBR.out.cell (p := ⟨g, i, none⟩) hgz).trans hc
            replace hc' := (HBR.out.cell (p := ⟨g', i, none⟩) hgz').trans hc'
            clear hgz hgz'
            go_wp2_with fail
            go_quiet (fail)
            go_wp2_with fail
            clear hc hc'
            go_loopw [70] (fun s70 wr2 => ∃ k : Nat, s70 = .int .i64 k ∧ k ≤ m ∧ Below w3.heap.size w3 wr2) (fun s70 _ => m - (intOf s70).toNat)
            case atStart => exact ⟨0, rfl, by omega, by first | exact HBR.out | exact belowN HBR.out _ | exact HBR.out.drew⟩
            case round =>
              obtain ⟨k, rfl, hk, hb⟩ := hrel
              have HBK := Lib.hid hb
              clear hb
              by_cases hkm : k < m
              · have hkmz : (k : Int) < (m : Int) := by omega
                obtain ⟨b, off, hq, hbz, hx1, hx2⟩ := HWD.out k hkm
                obtain ⟨b', off', hq', hbz', hx1', hx2'⟩ := HWD'.out k hkm
                subst hq hq'
                have hkl : k < L.length := by rw [← HMM.out]; exact hkm
                obtain ⟨at_, e1, e2, e3⟩ := HLY.out L HMEM.out L[k]! (by rw [getElem!_pos L k hkl]; exact List.getElem_mem hkl)
                rw [e1] at hx2 hx2'
                obtain ⟨x, hx⟩ : ∃ x, x = L[k]!.1 := ⟨_, rfl⟩
                rw [← hx] at hx1 hx1' e2 e3
                clear hx e1 hkl
                replace hx1 := (HBK.out.cell (p := ⟨b, off + k * 2, none⟩) hbz).trans hx1
                replace hx2 := (HBK.out.cell (p := ⟨b, off + k * 2 + 1, none⟩) hbz).trans hx2
                replace hx1' := (HBK.out.cell (p := ⟨b', off' + k * 2, none⟩) hbz').trans hx1'
                replace hx2' := (HBK.out.cell (p := ⟨b', off' + k * 2 + 1, none⟩) hbz').trans hx2'
                have hc := (HBK.out.cell (p := ⟨g, i, none⟩) HGZ.out).trans HC.out
                have hc' := (HBK.out.cell (p := ⟨g', i, none⟩) HGZ'.out).trans HC'.out
                have hsz : ((at_ : Int) + (x.size : Int)) ≤ (s.size : Int) := by omega
                have hsz2 : (at_ : Int) ≤ (at_ : Int) + (x.size : Int) := by omega
                have hax : ((at_ : Int) + (x.size : Int)).toNat = at_ + x.size := by omega
                have e4 : wrap64 ((at_ : Int) + (x.size : Int)) = (at_ : Int) + (x.size : Int) := wrap_small ⟨by omega, by omega⟩
                clear e2 hbz hbz'
                simp only [List.append_eq, List.cons_append, List.nil_append]
                go_wp2_with fail
                go_quiet (fail)
                go_wp2_with fail
                clear e4
                exact ⟨⟨k + 1, by go_num, hkm, belowN HBK.out _⟩, by simp [intOf]; omega⟩
              · obtain rfl : k = m := by omega
                go_wp2_with fail
                exact ⟨⟨i + 1, by go_num, by omega, HBK.out⟩, by simp [intOf]; omega⟩
          · obtain rfl : i = n := by omega
            go_wp2_with fail
            go_ret
            exact ⟨rfl, HB3.out.trans (HBR.out.mono HB3.out.size)⟩
end Go.Proofs.YtefnkoofgpmmmaaGreatDoor

/- order.ready, Ready, places, Behind, Ahead. Conditions: sizes. -/
import Derived.Test.YtbbcicengfmhiaaOrA
namespace Go.Proofs.Ytbbcicengfmhiaa
set_option maxRecDepth 100000
open Go.RowKit

theorem int_infoR : (Try.prog.info? 3).map (fun i => (i.zero, i.size, i.bytes)) = some (some (.int .i64 0), 1, 8) := by kernel_rfl
theorem info_int : ∃ i : TypeInfo, Try.prog.info? 3 = some i ∧ i.zero = some (.int .i64 0) ∧ i.size = 1 ∧ i.bytes = 8 := by
  have h := int_infoR
  cases hi : Try.prog.info? 3 with
  | none => rw [hi] at h; cases h
  | some i =>
    rw [hi] at h
    simp only [Option.map_some, Option.some.injEq, Prod.mk.injEq] at h
    exact ⟨i, rfl, h.1, h.2.1, h.2.2⟩

set_option maxHeartbeats 8000000 in
theorem ordReady (nm : ByteArray) (vt v : Value) (ts : List TaskV) (done : List Bool) (Bp : Nat) (w : World) (hP : PipeAt w Bp nm vt ts) (hd : SlAt 1 encB w v done) (hbig : done.length ≤ 1000000) (haf : AftIn ts) (hlen : ts.length ≤ 1000) (hla : ∀ j, j < ts.length → ts[j]!.after.length ≤ maxLen) :
    Calls Try.prog 18 #[.pointer (some ⟨Bp, 0, none⟩), v] w fun e w' => ∃ v', e = .returned v' ∧ SlAt 1 encI w' v' (rdyL (afters ts) done ts.length) ∧ Below w.heap.size w w' := by
  obtain ⟨i0, hi, hq0, hq1, hq2⟩ := info_int
  have hb0 := below1 w (.cells #[v] 25)
  have HP := Lib.hid (hP.below hb0)
  have HD := Lib.hid (hd.below hb0)
  have g0 : (w.alloc (.cells #[v] 25)).cell? ⟨w.heap.size, 0, none⟩ = some v := by go_simp
  have hz0 : w.heap.size < (w.alloc (.cells #[v] 25)).heap.size := by simp
  have HB0 := Lib.hid hb0
  have HAF := Lib.hid haf
  have HLA := Lib.hid hla
  obtain ⟨p, c, rfl, hp⟩ := hP.2.2.2.val
  have HPP := Lib.hid hp
  have HSU := Lib.hid (fun k (hk : k < ts.length) => show rdyL (afters ts) done (k + 1) = rdyL (afters ts) done k ++ (if (!isD done (k : Int) && !(ts[k]!.after.any fun a => !isD done a)) = true then [(k : Int)] else []) by
    rw [rdyL, readyB, afters_at hk])
  have HRL := Lib.hid (rdyL_len (afters ts) done)
  obtain ⟨pv, cv, rfl, _⟩ := id hd
  clear hP hd hb0 haf hla hp
  generalize hn : ts.length = n at *
  have HN := Lib.hid hn
  clear hn
  go_enter Try.func18, Try.ntmps18
  obtain ⟨_, c0, c1, hts⟩ := HP.out
  go_wp2_with fail
  clear c0 c1 hts
  generalize w.alloc (.cells #[.slice pv done.length cv] 25) = W0 at HP HD HB0 g0 hz0 ⊢
  have HG0 := Lib.hid g0
  clear g0
  go_loopw [4, 13] (fun v4 t wr => ∃ j : Nat, j ≤ n ∧ t = .int .i64 j ∧ Below W0.heap.size W0 wr ∧ wr.ownsRow W0.heap.size 3 1 v4 (rdyL (afters ts) done j).length (flat encI (rdyL (afters ts) done j))) (fun _ t _ => n - (intOf t).toNat)
  case atStart => exact ⟨0, by omega, rfl, Below.refl _ _, by simp [rdyL, flat], .inl ⟨rfl, rfl⟩⟩
  case round =>
    obtain ⟨j, hj, rfl, hb, hown⟩ := hrel
    have HB := Lib.hid hb
    have HO := Lib.hid hown
    have g0 := (hb.cell (p := ⟨w.heap.size, 0, none⟩) hz0).trans HG0.out
    have hzr : w.heap.size < wr.heap.size := by have := hb.size; omega
    have HPr := Lib.hid (HP.out.below hb)
    have HDr := Lib.hid (HD.out.below hb)
    clear hb hown
    by_cases hlt : j < n
    · have hltz : (j : Int) < (n : Int) := by omega
      obtain ⟨b, off, rfl⟩ := HPP.out (by omega)
      have HTK := Lib.hid (HPr.out.2.2.2.at (j := j) (by have := HN.out; omega))
      have HE := Lib.hid (HSU.out j hlt)
      have HTL := Lib.hid (HRL.out j)
      have HAJ := Lib.hid (fun k (hk : k < ts[j]!.after.length) => (HAF.out j (by have := HN.out; omega) k hk).1)
      have HLJ := Lib.hid (HLA.out j (by omega))
      obtain ⟨d0, d1, d2, d3, d4, d5, d6⟩ := HTK.out.cells
      generalize ts[j]! = t at *
      obtain ⟨tn, tsl, taf, tr, tt, tnd, tl, tst⟩ := t
      dsimp only at *
      obtain ⟨pp, cc, hv, _⟩ := HTK.out.2.2
      dsimp only at hv
      subst hv
      have hbx := below1 wr (.cells #[.string tn, .slice pp taf.length cc, .int .i64 tr, .int .i64 tt, .int .i64 tnd, .int .i64 tl, .int .u16 (tst : Int)] 34)
      have HBX := Lib.hid (HB.out.trans (hbx.mono HB.out.size))
      have HOX := Lib.hid (owns_below HO.out hbx)
      have HSX := Lib.hid (show SlAt 1 encI _ (.slice pp taf.length cc) taf from HTK.out.2.2.below hbx)
      have HDX := Lib.hid (HDr.out.below hbx)
      have hgx := (hbx.cell (p := ⟨w.heap.size, 0, none⟩) hzr).trans g0
      have HGX := Lib.hid hgx
      have hzx : w.heap.size < (wr.alloc (.cells #[.string tn, .slice pp taf.length cc, .int .i64 tr, .int .i64 tt, .int .i64 tnd, .int .i64 tl, .int .u16 (tst : Int)] 34)).heap.size := by have := hbx.size; omega
      have KC := Lib.hid (containsK (fun a => !isD done a) 26 #[.pointer (some ⟨w.heap.size, 0, none⟩)] eg26 (.slice pp taf.length cc) taf _ HSX.out (by have := HLJ.out; unfold maxLen at this; omega) (pred26 w.heap.size _ done taf _ hzx HGX.out HDX.out hbig (fun k hk => HAJ.out k hk)))
      clear hbx hgx g0
      go_wp2_with fail
      refine KC.out.mono ?_
      rintro e w5 ⟨rfl, hb5⟩
      have BEL := Lib.hid (HBX.out.trans (hb5.mono HBX.out.size))
      have OWN := Lib.hid (owns_below HOX.out hb5)
      have HD5 := Lib.hid (HDX.out.below hb5)
      have g5 := (hb5.cell (p := ⟨w.heap.size, 0, none⟩) hzx).trans HGX.out
      clear hb5 KC d0 d1 d2 d3 d4 d5 d6
      generalize (taf.any fun a => !isD done a) = q2 at HE ⊢
      have KI := Lib.hid (ordIs _ done j w5 HD5.out hbig)
      generalize isD done (j : Int) = q1 at HE KI
      go_wp2_with fail
      refine KI.out.mono ?_
      rintro e w6 ⟨rfl, rfl⟩
      clear KI
      cases q1 with
      | true =>
        have he : rdyL (afters ts) done (j + 1) = rdyL (afters ts) done j := by rw [HE.out]; simp
        have HEE := Lib.hid he
        clear he
        go_wp2
        go_roundw
        case rel => first | exact ⟨j + 1, by omega, by go_num, BEL.out, by rw [HEE.out]; exact OWN.out⟩ | ((repeat apply Exists.intro); exact ⟨⟨j + 1, by omega, by go_num, BEL.out, by rw [HEE.out]; exact OWN.out⟩, rfl⟩)
        case measure => simp [intOf] <;> omega
      | false =>
      cases q2 with
      | true =>
        have he : rdyL (afters ts) done (j + 1) = rdyL (afters ts) done j := by rw [HE.out]; simp
        have HEE := Lib.hid he
        clear he
        go_wp2
        go_roundw
        case rel => first | exact ⟨j + 1, by omega, by go_num, BEL.out, by rw [HEE.out]; exact OWN.out⟩ | ((repeat apply Exists.intro); exact ⟨⟨j + 1, by omega, by go_num, BEL.out, by rw [HEE.out]; exact OWN.out⟩, rfl⟩)
        case measure => simp [intOf] <;> omega
      | false =>
        go_wp2_with (at_builtin; refine wpList_append_own _ rfl _ _ 29 rfl W0.heap.size 3 i0 (.int .i64 0) 1 8 Try.underlying29 hi hq0 hq1 hq2 rfl (by decide) _ _ _ rfl (owns_below OWN.out (below1 _ _)) _ 1 1 [.int .i64 ((j : Int))] rfl ?qc1a ?qc2a ?qc3a ?qc4a ?qc5a ?qc6a ?_)
        case qc1a => rfl
        case qc2a =>
          rintro jj u hj
          match jj, hj with
          | 0, hj => simp at hj; subst hj; go_simp
        case qc3a => simp [Value.oneCell']
        case qc4a => have := HTL.out; unfold maxLen; omega
        case qc5a => have := HTL.out; omega
        case qc6a => have := BEL.out.size; simp; omega
        intro v' w7 hown7 hgrow hnil
        have HB7 := Lib.hid ((BEL.out.alloc BEL.out.size (.cells #[.int .i64 ((j : Int))] 3)).grown hgrow (by have := BEL.out.size; simp; omega) (owns_block OWN.out))
        have HO7 := Lib.hid hown7
        clear hown7 hgrow hnil
        go_wp2
        go_roundw
        case rel =>
          have he : rdyL (afters ts) done (j + 1) = rdyL (afters ts) done j ++ [(j : Int)] := by rw [HE.out]; simp
          have ho7 : w7.ownsRow W0.heap.size 3 1 v' (rdyL (afters ts) done (j + 1)).length (flat encI (rdyL (afters ts) done (j + 1))) := by
            have := HO7.out
            rw [he, List.length_append]
            simpa [flat, encI] using this
          first | exact ⟨j + 1, by omega, by go_num, HB7.out, ho7⟩ | ((repeat apply Exists.intro); exact ⟨⟨j + 1, by omega, by go_num, HB7.out, ho7⟩, rfl⟩) | trace_state
        case measure => simp [intOf] <;> omega
    · obtain rfl : j = n := by omega
      go_wp2
      go_ret
      exact ⟨_, rfl, SlAt.of_owns (enc := encI) (fun _ => rfl) HO.out, HB0.out.trans (HB.out.mono HB0.out.size)⟩
end Go.Proofs.Ytbbcicengfmhiaa

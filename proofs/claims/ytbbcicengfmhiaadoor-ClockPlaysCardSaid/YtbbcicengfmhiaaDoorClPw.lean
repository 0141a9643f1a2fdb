/- ClockPlays' own walk. No condition. -/
import Derived.Test.YtbbcicengfmhiaaDoorClP
import Derived.Test.YtbbcicengfmhiaaDoorSl
namespace Go.Proofs.YtbbcicengfmhiaaDoor
set_option maxRecDepth 100000
open Go.RowKit

theorem ClkOf.keptB {b : Nat} {cv : Value} {time boot : Int} {maybe : Bool} {k : Ck} {w w' : World} (h : ClkOf b cv time boot maybe k w) (hk : KeptB b w w') : ClkOf b cv time boot maybe k w' := by
  rcases h with ⟨c, h1, h2, h3, h4, h5⟩ | h
  · exact .inl ⟨c, h1, h2, h3, BlkIs.keptB h4 hk (by omega), h5⟩
  · exact .inr h
set_option maxHeartbeats 8000000 in
theorem clockPlays_walk (vs : Value) (xs : List Cut) (w : World) (hS : SlAt 2 encT w vs xs) (hr : ∀ j, j < xs.length → (-9223372036854775808 ≤ xs[j]!.1 ∧ xs[j]!.1 ≤ 9223372036854775807)) (hm : xs.length ≤ maxLen) (hM : Met w) : Calls Tryd.prog 9 #[vs] w fun e w' => e = .returned (.bool true) ∧ Below w.heap.size w w' := by
  have h9 := hM.size
  have HM := Lib.hid hM
  have HS := Lib.hid hS
  obtain ⟨p, cp, rfl, _, hpb⟩ := hS
  have HPB := Lib.hid hpb
  have HR := Lib.hid hr
  clear hM hr hpb
  have hm2 : xs.length ≤ 9223372036854775807 := by unfold maxLen at hm; omega
  clear hm
  generalize hne : xs.length = n at *
  have HN := Lib.hid hne
  clear hne
  go_enter Tryd.func9, Tryd.ntmps9
  go_wp2_with fail
  refine (awake17 w HM.out).mono ?_
  rintro e w1 ⟨rfl, hb⟩
  have HM := Lib.hid (HM.out.below hb)
  have HB := Lib.hid hb
  clear hb
  generalize hge : w.heap.size = g0 at *
  have HGE := Lib.hid hge
  clear hge
  by_cases hlen : 200 < n
  · have hlz : (200 : Int) < (n : Int) := by omega
    go_wp2_with fail
    refine (awake17 w1 HM.out).mono ?_
    rintro e w2 ⟨rfl, hb⟩
    have HB := Lib.hid (HB.out.trans (hb.mono (by have := HB.out.size; have := HGE.out; omega)))
    clear hb
    go_wp2
    go_ret
    exact ⟨rfl, by rw [HGE.out]; exact HB.out⟩
  · have hlz : ¬ ((200 : Int) < (n : Int)) := by omega
    go_wp2_with fail
    refine (dskNew 2 w1 (by decide) (by decide)).mono ?_
    rintro e w2 ⟨b, rfl, hd, hb⟩
    have HG1 := Lib.hid (show g0 ≤ w1.heap.size by have := HB.out.size; have := HGE.out; omega)
    have HD := Lib.hid (show DkOf b w1.heap.size ⟨0, 0, 0⟩ 0 0 false w2 from ⟨_, 0, 0, by simp, hd, by decide, InvC.first⟩)
    have HM := Lib.hid (HM.out.below hb)
    have HB := Lib.hid (HB.out.trans (hb.mono HG1.out))
    have hgb := hd.1.1
    clear hd hb
    generalize hge : w1.heap.size = g at *
    have hgg := HG1.out
    have HGE1 := Lib.hid hge
    clear hge HG1
    have h9g : 9 ≤ g := by omega
    clear hlz
    go_wp2_with fail
    go_loopw [5, 6, 7, 8, 28] (fun cv t bo mb iv wr => ∃ (i : Nat) (time boot : Int) (maybe : Bool) (k : Ck), i ≤ n ∧ iv = .int .i64 i ∧ t = .int .i64 time ∧ bo = .int .u32 boot ∧ mb = .bool maybe ∧ (DkOf b g k i 0 false wr ∧ ClkOf b cv time boot maybe k wr) ∧ ((0 ≤ time ∧ time ≤ i) ∧ (0 ≤ boot ∧ boot ≤ i) ∧ k.n ≤ i ∧ k.boot ≤ i) ∧ Met wr ∧ Below g0 w wr) (fun _ _ _ _ iv _ => n - (intOf iv).toNat)
    case atStart => exact ⟨0, 0, 0, false, ⟨0, 0, 0⟩, by omega, rfl, rfl, rfl, rfl, ⟨HD.out, .inr ⟨rfl, .inl rfl, by decide⟩⟩, by decide, HM.out, HB.out⟩
    case round =>
      clear HM HB HD
      obtain ⟨i, time, boot, maybe, k, hi, rfl, rfl, rfl, rfl, ⟨hd, hc⟩, hbd, hmm, hb⟩ := hrel
      have HD := Lib.hid hd
      have HC := Lib.hid hc
      have HM := Lib.hid hmm
      have HB := Lib.hid hb
      clear hd hc hmm hb
      by_cases hlt : i < n
      · have hltz : (i : Int) < (n : Int) := by omega
        obtain ⟨q, off, rfl, hq, hcell⟩ := HPB.out (by omega)
        have hin := hcell i hlt
        have hrr := HR.out i hlt
        clear hcell
        generalize xs[i]! = x at *
        obtain ⟨a, bt⟩ := x
        have hq2 : q < g0 := by have := HGE.out; omega
        have HXS := Lib.hid hin
        have c0 := (HB.out.cell (p := ⟨q, off + i * 2, none⟩) hq2).trans (hin 0 _ rfl)
        have c1 := (HB.out.cell (p := ⟨q, off + i * 2 + 1, none⟩) hq2).trans (hin 1 _ rfl)
        dsimp only at c0 c1 hrr
        clear hin
        have hbx := below1 wr (.cells #[.int .i64 a, .int .u64 (bt : Int)] 105)
        have HDX := Lib.hid (HD.out.below hbx)
        have HCX := Lib.hid (HC.out.below hbx)
        have HMX := Lib.hid (HM.out.below hbx)
        have HBX := Lib.hid (HB.out.trans (hbx.mono (by have := HB.out.size; have := HGE.out; omega)))
        clear hbx
        go_wp2_with fail
        generalize wr.alloc (.cells #[.int .i64 a, .int .u64 (bt : Int)] 105) = W1 at HDX HCX HMX HBX ⊢
        generalize wr.heap.size = qz
        have hgb := HDX.out.lt
        refine (ofArm a bt HDX.out).mono ?_
        rintro e w3 ⟨rfl, hd, hk, _⟩
        have HD := Lib.hid hd
        have HC := Lib.hid (HCX.out.keptB hk)
        have HM := Lib.hid (hk.met HMX.out (by omega))
        have HB := Lib.hid (HBX.out.trans (hk.1 g0 (by omega)))
        clear hd hk HDX HCX HMX HBX c0 c1
        obtain ⟨A, hA, hA0, hA1⟩ : ∃ A : Int, max a 0 = A ∧ 0 ≤ A ∧ A ≤ 9223372036854775807 := ⟨max a 0, rfl, by omega, by omega⟩
        rw [hA] at HD
        clear hA hrr
        obtain ⟨kn, kt, kb⟩ := k
        dsimp only at hbd
        obtain ⟨⟨ht0, ht1⟩, ⟨hb0, hb1⟩, hkn, hkb⟩ := hbd
        rcases HC.out with ⟨c, rfl, rfl, hbc, hck, ht, hbt⟩ | ⟨rfl, hkt, hkb2⟩
        · dsimp only at ht hbt
          subst ht hbt
          have HCK := Lib.hid hck
          clear hck HC
          go_wp2_with fail
          refine (ofTick HD.out HCK.out hbc (by dsimp only; omega) (by dsimp only; omega) (by omega) HM.out h9g hA0 hA1).mono ?_
          rintro e w4 ⟨hk, h⟩
          have HM := Lib.hid (HM.out.belowB (hk.1 g (Nat.le_refl _)) h9g)
          have HB := Lib.hid (HB.out.trans (hk.1 g0 (by omega)))
          clear hk
          rcases h with ⟨rfl, hd⟩ | ⟨A', rfl, hd, hck⟩
          · obtain ⟨k', hk', hd⟩ : ∃ k' : Ck, (k' = ⟨kn + 1, kt + 1, kb⟩ ∨ k' = ⟨kn, kt, kb⟩) ∧ DkOf b g k' (i + 1) 0 true w4 := by
              rcases hd with hd | hd
              · exact ⟨_, .inl rfl, hd⟩
              · exact ⟨_, .inr rfl, hd⟩
            have HD := Lib.hid hd
            clear hd
            go_wp2_with fail
            refine (ofStart HD.out).mono ?_
            rintro e w5 ⟨rfl, hd, hk, _⟩
            have HD := Lib.hid hd
            have HM := Lib.hid (HM.out.belowB (hk.1 g (by omega)) h9g)
            have HB := Lib.hid (HB.out.trans (hk.1 g0 (by omega)))
            clear hd hk
            have HF := Lib.hid (show (k'.time = kt ∨ (true = true ∧ k'.time = kt + 1)) ∧ kb ≤ k'.boot ∧ k'.n ≤ i + 1 ∧ k'.boot ≤ ((i + 1 : Nat) : Int) by
              rcases hk' with rfl | rfl
              · exact ⟨.inr ⟨rfl, rfl⟩, Int.le_refl _, by dsimp only; omega, by dsimp only; omega⟩
              · exact ⟨.inl rfl, Int.le_refl _, by dsimp only; omega, by dsimp only; omega⟩)
            clear hk'
            go_wp2
            go_roundw
            case rel => exact ⟨i + 1, kt, kb, true, k', by omega, by go_num, rfl, rfl, rfl, ⟨HD.out, .inr ⟨rfl, HF.out.1.imp id (fun h => ⟨rfl, h.2⟩), HF.out.2.1⟩⟩, ⟨by omega, by omega, HF.out.2.2.1, HF.out.2.2.2⟩, HM.out, HB.out⟩
            case measure => simp [intOf] <;> omega
          · have HD := Lib.hid hd
            have HCK := Lib.hid hck
            clear hd hck
            go_wp2_with fail
            refine (ofArm 0 0 HD.out).mono ?_
            rintro e w5 ⟨rfl, hd, hk, _⟩
            have HD := Lib.hid hd
            have HCM := Lib.hid (BlkIs.keptB HCK.out hk (by omega))
            have HCN := Lib.hid (show CkAt c b 0 ⟨kn + 1, kt + 1, kb⟩ w5 from HCM.out)
            have HM := Lib.hid (hk.met HM.out (by omega))
            have HB := Lib.hid (HB.out.trans (hk.1 g0 (by omega)))
            clear hd hk HCK HCM
            have hws : wrap64 (kt + 1) = kt + 1 := by simp [wrap64]; omega
            have hws2 : IntKind.i64.wrap (kt + 1) = kt + 1 := by simp [IntKind.wrap, IntKind.signed, IntKind.bits]; omega
            go_wp2_with fail
            refine (clkNow c b 0 _ _ HCN.out).mono ?_
            rintro e w6 ⟨he, rfl⟩
            dsimp only at he
            subst he
            go_wp2_with fail
            refine (clkBoot c b 0 _ _ HCN.out ⟨by dsimp only; omega, by dsimp only; omega⟩).mono ?_
            rintro e w6 ⟨he, rfl⟩
            dsimp only at he
            subst he
            go_wp2
            go_roundw
            case rel => first | exact ⟨i + 1, kt + 1, kb, false, ⟨kn + 1, kt + 1, kb⟩, by omega, by go_num, rfl, rfl, rfl, ⟨HD.out, .inl ⟨c, rfl, rfl, hbc, HCN.out, rfl, rfl⟩⟩, ⟨by omega, by omega, by dsimp only; omega, by dsimp only; omega⟩, HM.out, HB.out⟩ | trace_state
            case measure => simp [intOf] <;> omega
        · clear HC
          dsimp only at hkt hkb2
          go_wp2_with fail
          refine (ofOpen HD.out (by dsimp only; omega) (by dsimp only; omega) (by omega) HM.out h9g hA0 hA1).mono ?_
          rintro e w4 ⟨hk, h⟩
          have HM := Lib.hid (HM.out.belowB (hk.1 g (Nat.le_refl _)) h9g)
          have HB := Lib.hid (HB.out.trans (hk.1 g0 (by omega)))
          clear hk
          rcases h with ⟨rfl, hd⟩ | ⟨c, A', ⟨hbc, _⟩, rfl, hd, hck⟩
          · obtain ⟨k', hk', hd⟩ : ∃ k' : Ck, (k' = ⟨kn + 1, kt, kb + 1⟩ ∨ k' = ⟨kn, kt, kb⟩) ∧ DkOf b g k' (i + 1) 0 true w4 := by
              rcases hd with hd | hd
              · exact ⟨_, .inl rfl, hd⟩
              · exact ⟨_, .inr rfl, hd⟩
            have HD := Lib.hid hd
            clear hd
            go_wp2_with fail
            refine (ofStart HD.out).mono ?_
            rintro e w5 ⟨rfl, hd, hk, _⟩
            have HD := Lib.hid hd
            have HM := Lib.hid (HM.out.belowB (hk.1 g (by omega)) h9g)
            have HB := Lib.hid (HB.out.trans (hk.1 g0 (by omega)))
            clear hd hk
            have HF := Lib.hid (show (k'.time = time ∨ (maybe = true ∧ k'.time = time + 1)) ∧ boot ≤ k'.boot ∧ k'.n ≤ i + 1 ∧ k'.boot ≤ ((i + 1 : Nat) : Int) by
              rcases hk' with rfl | rfl
              · exact ⟨hkt, by dsimp only; omega, by dsimp only; omega, by dsimp only; omega⟩
              · exact ⟨hkt, hkb2, by dsimp only; omega, by dsimp only; omega⟩)
            clear hk'
            go_wp2
            go_roundw
            case rel => first | exact ⟨i + 1, time, boot, maybe, k', by omega, by go_num, rfl, rfl, rfl, ⟨HD.out, .inr ⟨rfl, HF.out.1, HF.out.2.1⟩⟩, ⟨by omega, by omega, HF.out.2.2.1, HF.out.2.2.2⟩, HM.out, HB.out⟩ | trace_state
            case measure => simp [intOf] <;> omega
          · have HD := Lib.hid hd
            have HCK := Lib.hid hck
            clear hd hck
            go_wp2_with fail
            refine (ofArm 0 0 HD.out).mono ?_
            rintro e w5 ⟨rfl, hd, hk, _⟩
            have HD := Lib.hid hd
            have HCM := Lib.hid (BlkIs.keptB HCK.out hk (by omega))
            have HCN := Lib.hid (show CkAt c b 0 ⟨kn + 1, kt, kb + 1⟩ w5 from HCM.out)
            have HM := Lib.hid (hk.met HM.out (by omega))
            have HB := Lib.hid (HB.out.trans (hk.1 g0 (by omega)))
            clear hd hk HCK HCM
            have hgt : ¬ (kb + 1 ≤ boot) := by omega
            have hws : wrap64 (time + 1) = time + 1 := by simp [wrap64]; omega
            have hws2 : IntKind.i64.wrap (time + 1) = time + 1 := by simp [IntKind.wrap, IntKind.signed, IntKind.bits]; omega
            by_cases hke : kt = time
            · subst hke
              clear hkt
              go_wp2_with fail
              refine (clkNow c b 0 _ _ HCN.out).mono ?_
              rintro e w6 ⟨he, rfl⟩
              dsimp only at he
              subst he
              go_wp2_with fail
              refine (clkBoot c b 0 _ _ HCN.out ⟨by dsimp only; omega, by dsimp only; omega⟩).mono ?_
              rintro e w6 ⟨he, rfl⟩
              dsimp only at he
              subst he
              go_wp2_with fail
              refine (clkNow c b 0 _ _ HCN.out).mono ?_
              rintro e w6 ⟨he, rfl⟩
              dsimp only at he
              subst he
              go_wp2_with fail
              refine (clkBoot c b 0 _ _ HCN.out ⟨by dsimp only; omega, by dsimp only; omega⟩).mono ?_
              rintro e w6 ⟨he, rfl⟩
              dsimp only at he
              subst he
              go_wp2
              go_roundw
              case rel => first | exact ⟨i + 1, _, kb + 1, false, ⟨kn + 1, _, kb + 1⟩, by omega, by go_num, rfl, rfl, rfl, ⟨HD.out, .inl ⟨c, rfl, rfl, hbc, HCN.out, rfl, rfl⟩⟩, ⟨by omega, by omega, by dsimp only; omega, by dsimp only; omega⟩, HM.out, HB.out⟩ | trace_state
              case measure => simp [intOf] <;> omega
            · obtain ⟨rfl, rfl⟩ : maybe = true ∧ kt = time + 1 := by
                rcases hkt with h | h
                · exact absurd h hke
                · exact h
              clear hkt hke
              have hke : ¬ (time + 1 = time) := by omega
              go_wp2_with fail
              refine (clkNow c b 0 _ _ HCN.out).mono ?_
              rintro e w6 ⟨he, rfl⟩
              dsimp only at he
              subst he
              go_wp2_with fail
              refine (clkNow c b 0 _ _ HCN.out).mono ?_
              rintro e w6 ⟨he, rfl⟩
              dsimp only at he
              subst he
              go_wp2_with fail
              refine (clkBoot c b 0 _ _ HCN.out ⟨by dsimp only; omega, by dsimp only; omega⟩).mono ?_
              rintro e w6 ⟨he, rfl⟩
              dsimp only at he
              subst he
              go_wp2_with fail
              refine (clkNow c b 0 _ _ HCN.out).mono ?_
              rintro e w6 ⟨he, rfl⟩
              dsimp only at he
              subst he
              go_wp2_with fail
              refine (clkBoot c b 0 _ _ HCN.out ⟨by dsimp only; omega, by dsimp only; omega⟩).mono ?_
              rintro e w6 ⟨he, rfl⟩
              dsimp only at he
              subst he
              go_wp2
              go_roundw
              case rel => first | exact ⟨i + 1, _, kb + 1, false, ⟨kn + 1, _, kb + 1⟩, by omega, by go_num, rfl, rfl, rfl, ⟨HD.out, .inl ⟨c, rfl, rfl, hbc, HCN.out, rfl, rfl⟩⟩, ⟨by omega, by omega, by dsimp only; omega, by dsimp only; omega⟩, HM.out, HB.out⟩ | trace_state
              case measure => simp [intOf] <;> omega
      · have hltz : ¬ ((i : Int) < (n : Int)) := by omega
        go_wp2
        go_ret
        exact ⟨rfl, by rw [HGE.out]; exact HB.out⟩
end Go.Proofs.YtbbcicengfmhiaaDoor

/- RosterTells: of any labels and principals the roster is refused as the document says, or all that it tells is the document's. Every input. -/
import Derived.Test.YtpkmgdpnimecfaaRosO
import Derived.Test.YtpkmgdpnimecfaaRos6
import Derived.Laws.AppendOwnNone
import Derived.Deep.DeepCutAuto
import Derived.Test.YtpkmgdpnimecfaaTk
namespace Go.Proofs.Ytpkmgdpnimecfaa
open Go.ChangeShapes Go.WideShapes Go.ChangeAt Go.RowKit

/-- a list copied by an append to a new empty one -/
theorem wpList_copy {α : Type} [Inhabited α] {k : Nat} (hk0 : 0 < k) {encA : α → List Value} (hk : ∀ x, (encA x).length = k) (h1 : ∀ xs, ∀ u ∈ flat encA xs, u.oneCell' = true)
    {P : Program} {W : World} {ops : Array Oper} {rest : List Oper} {o : Oper} {a : Act} {Q : Exit → Act → World → Prop} (hgd : o.guard = none) (s x : Operand) (t : TypeId)
    (ho : o.op = .call { callee := .builtin .append, args := #[s, x], argTypes := #[t, t] }) (e : TypeId) (i : TypeInfo) (z : Value) (bytes : Nat) (ht : P.underlying t = some (.slice e)) (hi : P.info? e = some i)
    (hz : i.zero = some z) (hsize : i.size = k) (hby : i.bytes = bytes) (hzs : z.cells.size = k) (hs : a.eval s = .slice (some ⟨W.heap.size, 0, none⟩) 0 0) (v : Value) (xs : List α) (hx : a.eval x = v)
    (hS : SlAt k encA W v xs) (h63 : xs.length ≤ maxLen) (hb : xs.length * bytes ≤ 140737488355328)
    (h : ∀ v' w', SlAt k encA w' v' xs → Below W.heap.size W w' → wpList P ops Q rest (a.put o.dst v') w') : wpList P ops Q (o :: rest) a (W.alloc (.cells #[] e)) := by
  obtain ⟨p, c, rfl, ⟨_, hn⟩, hc⟩ := hS
  have hown : (W.alloc (.cells #[] e)).ownsRow W.heap.size e k (.slice (some ⟨W.heap.size, 0, none⟩) 0 0) 0 [] := World.ownsRow_made W #[] 0 (Nat.le_refl _) (Nat.zero_le _) (by simp)
  cases p with
  | none =>
    obtain ⟨rfl, rfl⟩ := hn rfl
    exact wpList_append_own_none hgd s x t ho W.heap.size e i k ht hi _ 0 [] hs hown hx (h _ _ (SlAt.of_owns (enc := encA) hk (by simpa [flat] using hown)) (below1 _ _))
  | some ad =>
    refine wpList_append_own _ hgd s x t ho W.heap.size e i z k bytes ht hi hz hsize hby hzs hk0 _ _ _ hs hown ad xs.length c (flat encA xs) hx (flat_length hk xs) ?_ (h1 xs) (by omega) (by rw [Nat.zero_add]; exact hb) (by simp) ?_
    · intro j u hj
      have hl := flat_length hk xs
      have hpos : 0 < xs.length := by
        have := (List.getElem?_eq_some_iff.1 hj).1
        rcases Nat.eq_zero_or_pos xs.length with h0 | h0
        · rw [h0] at hl; omega
        · exact h0
      obtain ⟨b, off, hp, hlt, hcell⟩ := hc hpos
      obtain rfl : ad = ⟨b, off, none⟩ := by simpa using hp
      rw [Go.WideShapes.add_plain, (below1 W _).cell (p := ⟨b, off + j, none⟩) hlt]
      exact SlAt.flat_cells hk0 hk hcell j u hj
    · intro v' w' h2 hg _
      refine h v' w' (SlAt.of_owns (enc := encA) hk (by simpa using h2)) ?_
      exact (below1 W _).grown hg (by simp) (by intro q hq; simp [Value.ownBlock] at hq; omega)

/-- whoever it is, and where he is -/
theorem who_cases (ps : List Psn) (who : Int) : (decide (0 ≤ who) = false ∧ partAt ps who = -1) ∨ (decide (0 ≤ who) = true ∧ decide (who < (ps.length : Int)) = false ∧ partAt ps who = -1) ∨ (∃ k : Nat, who = k ∧ k < ps.length ∧ partAt ps who = ps[k]!.1) := by
  cases h : inR ps.length who with
  | true =>
    obtain ⟨k, rfl, hk⟩ := inR_mk h
    exact .inr (.inr ⟨k, rfl, hk, by unfold partAt; rw [h]; rfl⟩)
  | false =>
    have hp : partAt ps who = -1 := by unfold partAt; rw [h]; rfl
    simp only [inR, Bool.and_eq_false_iff] at h
    cases h1 : decide (0 ≤ who) with
    | false => exact .inl ⟨rfl, hp⟩
    | true =>
      rw [h1] at h
      exact .inr (.inl ⟨rfl, by simpa using h, hp⟩)
theorem who_cases2 (n : Nat) (who : Int) : (decide (0 ≤ who) = false ∧ inR n who = false) ∨ (decide (0 ≤ who) = true ∧ decide (who < (n : Int)) = false ∧ inR n who = false) ∨ (decide (0 ≤ who) = true ∧ decide (who < (n : Int)) = true ∧ inR n who = true) := by
  unfold inR
  cases h1 : decide (0 ≤ who) with
  | false => exact .inl ⟨rfl, rfl⟩
  | true =>
    cases h2 : decide (who < (n : Int)) with
    | false => exact .inr (.inl ⟨rfl, rfl, rfl⟩)
    | true => exact .inr (.inr ⟨rfl, rfl, rfl⟩)
theorem part_in (ps : List Psn) (who : Int) : (inR ps.length who = false → partAt ps who = -1) ∧ (inR ps.length who = true → ∃ k : Nat, who = k ∧ k < ps.length ∧ partAt ps who = ps[k]!.1) := by
  refine ⟨fun h => by unfold partAt; rw [h]; rfl, fun h => ?_⟩
  obtain ⟨k, rfl, hk⟩ := inR_mk h
  exact ⟨k, rfl, hk, by unfold partAt; rw [h]; rfl⟩
theorem part_cases (ls : List Lbl) (part : Int) : (decide (0 ≤ part) = false ∧ inR ls.length part = false) ∨ (decide (0 ≤ part) = true ∧ decide (part < (ls.length : Int)) = false ∧ inR ls.length part = false) ∨ (∃ k : Nat, part = k ∧ k < ls.length ∧ inR ls.length part = true ∧ labAt ls part = ls[k]!) := by
  cases h : inR ls.length part with
  | true =>
    obtain ⟨k, rfl, hk⟩ := inR_mk h
    exact .inr (.inr ⟨k, rfl, hk, rfl, by unfold labAt; rw [h]; rfl⟩)
  | false =>
    have h0 := h
    simp only [inR, Bool.and_eq_false_iff] at h
    cases h1 : decide (0 ≤ part) with
    | false => exact .inl ⟨rfl, rfl⟩
    | true =>
      rw [h1] at h
      exact .inr (.inl ⟨rfl, by simpa using h, rfl⟩)
theorem in_of_new {ls : List Lbl} {ps : List Psn} (h : newC ls ps = 0) : ∀ k, k < ps.length → inR ls.length ps[k]!.1 = true := by
  intro k hk
  unfold newC at h
  split at h
  · cases h
  split at h
  · cases h
  split at h
  · cases h
  split at h
  · cases h
  rename_i h4
  cases hq : outB ls.length ps[k]! with
  | true =>
    refine absurd ?_ h4
    rw [List.any_eq_true]
    exact ⟨ps[k]!, by rw [getElem!_pos ps k hk]; exact List.getElem_mem hk, hq⟩
  | false =>
    simp only [outB, Bool.or_eq_false_iff, decide_eq_false_iff_not] at hq
    simp only [inR, Bool.and_eq_true, decide_eq_true_eq]
    omega

set_option maxRecDepth 100000 in
set_option maxHeartbeats 16000000 in
theorem rosterTells_walk (vl vp : Value) (ls : List Lbl) (ps : List Psn) (who part a : Int) (x : Nat) (w : World) (hL : SlAt 2 encL w vl ls) (hP : SlAt 3 encP w vp ps) (hml : ls.length ≤ maxLen) (hmp : ps.length ≤ maxLen)
    (ho : okL ls) (hop : okP ps) (hx : x < 65536) :
    Calls Try.prog 7 #[vl, vp, .int .i64 who, .int .i64 part, (.agg #[.int .i64 (a), .int .u16 ((x : Nat) : Int)])] w fun e w' => e = .returned (.bool true) ∧ Below w.heap.size w w' := by
  have HL := Lib.hid hL
  have HP := Lib.hid hP
  have HA := Lib.hid (BoxAt.mk w a x)
  obtain ⟨pl, cl, rfl, _, _⟩ := id hL
  obtain ⟨pp, cp, rfl, _, _⟩ := id hP
  clear hL hP
  go_enter Try.func7, Try.ntmps7
  go_wp2_with fail
  refine (awake02 _).mono ?_
  rintro e w1 ⟨rfl, hb⟩
  have HA := Lib.hid (HA.out.next hb)
  clear hb
  cases t1 : decide ((50 : Int) < (ls.length : Int)) with
  | true =>
    go_wp2_with fail
    refine (awake02 _).mono ?_
    rintro e w1 ⟨rfl, hb⟩
    have HA := Lib.hid (HA.out.next hb)
    clear hb
    go_wp2
    go_ret
    exact ⟨rfl, HA.out.1⟩
  | false =>
  cases t2 : decide ((50 : Int) < (ps.length : Int)) with
  | true =>
    go_wp2_with fail
    refine (awake02 _).mono ?_
    rintro e w1 ⟨rfl, hb⟩
    have HA := Lib.hid (HA.out.next hb)
    clear hb
    go_wp2
    go_ret
    exact ⟨rfl, HA.out.1⟩
  | false =>
  have hl50 : ls.length ≤ 50 := by simp at t1; omega
  have hp50 : ps.length ≤ 50 := by simp at t2; omega
  obtain ⟨i4, z4, hi4, hz4, hs4, hy4, hc4⟩ := info_cloneL
  obtain ⟨i5, z5, hi5, hz5, hs5, hy5, hc5⟩ := info_cloneP
  have J4 := Lib.hid hi4
  have J5 := Lib.hid hi5
  have Z4 := Lib.hid hz4
  have Z5 := Lib.hid hz5
  clear hi4 hi5 hz4 hz5
  go_wp2_with (at_builtin; go_loud (refine wpList_copy (k := 2) (encA := encL) (by decide) (fun _ => rfl) one_encL rfl _ _ 44 rfl 48 i4 z4 16 Try.underlying44 J4.out Z4.out hs4 hy4 hc4 rfl (.slice pl ls.length cl) ls rfl (HL.out.below HA.out.1) hml (by omega) ?_))
  intro v2 w2 hS2 hb2
  have HA := Lib.hid (HA.out.next hb2)
  have HS2 := Lib.hid hS2
  clear hS2 hb2
  go_wp2_with (at_builtin; refine wpList_copy (k := 3) (encA := encP) (by decide) (fun _ => rfl) one_encP rfl _ _ 45 rfl 55 i5 z5 24 Try.underlying45 J5.out Z5.out hs5 hy5 hc5 rfl (.slice pp ps.length cp) ps rfl (HP.out.below HA.out.1) hmp (by omega) ?_)
  intro v3 w3 hS3 hb3
  have HA := Lib.hid (HA.out.next hb3)
  have HS2 := Lib.hid (HS2.out.below hb3)
  have HS3 := Lib.hid hS3
  clear hS3 hb3
  go_wp2_with fail
  refine (rosterNew _ _ ls ps _ HS2.out HS3.out (by omega) (by omega)).mono ?_
  rintro e w4 ⟨pv, rfl, hb4, hn4, hr4⟩
  have HA := Lib.hid (HA.out.next hb4)
  clear hb4
  go_wp2_with fail
  refine (refNew _ _ ls ps _ (HL.out.below HA.out.1) (HP.out.below HA.out.1) (by omega) (by omega)).mono ?_
  rintro e w5 ⟨rfl, hb5⟩
  have hr5 : newC ls ps = 0 → ∃ r, pv = .pointer (some ⟨r, 0, none⟩) ∧ Rost w5 r ls ps := fun h => by
    obtain ⟨r, h1, h2⟩ := hr4 h
    exact ⟨r, h1, h2.below hb5⟩
  have HA := Lib.hid (HA.out.next hb5)
  clear hb5 hr4
  by_cases hc0 : newC ls ps = 0
  · obtain ⟨r, rfl, hr⟩ := hr5 hc0
    have HR := Lib.hid (show Ros w5 (.pointer (some ⟨r, 0, none⟩)) ls ps from .inr ⟨r, rfl, hr⟩)
    have HC0 := Lib.hid hc0
    rw [hc0]
    clear hr hr5 hn4 hc0
    go_wp2_with fail
    refine (rosParts _ _ _ _ HR.out).mono ?_
    rintro e w' ⟨rfl, rfl⟩
    go_wp2_with fail
    refine (rosPeople _ _ _ _ HR.out).mono ?_
    rintro e w' ⟨rfl, rfl⟩
    have HIN := Lib.hid (in_of_new HC0.out)
    have HO := Lib.hid ho
    have HOP := Lib.hid hop
    have HX := Lib.hid hx
    have hLw := HL.out.below HA.out.1
    have hPw := HP.out.below HA.out.1
    obtain ⟨p1, c1, hv1, _, kl⟩ := hLw
    simp only [Value.slice.injEq] at hv1
    obtain ⟨rfl, _, rfl⟩ := hv1
    obtain ⟨p2, c2, hv2, _, kp⟩ := hPw
    simp only [Value.slice.injEq] at hv2
    obtain ⟨rfl, _, rfl⟩ := hv2
    have KL := Lib.hid kl
    have KP := Lib.hid kp
    have Hl1 := Lib.hid (show ls.length ≤ 1000 by omega)
    have Hp1 := Lib.hid (show ps.length ≤ 1000 by omega)
    clear kl kp hx ho hop hl50 hp50
    have hq32 := rosLabel _ _ _ part _ HR.out Hl1.out
    have hq33 := fun W hW => rosPart (.pointer (some ⟨r, 0, none⟩)) ls ps who W hW Hp1.out
    have S1 := Lib.hid (fun W hW => rosSees (.pointer (some ⟨r, 0, none⟩)) ls ps who part W hW Hl1.out Hp1.out HO.out)
    have S2 := Lib.hid (fun W hW hW2 => refSees (.slice pl ls.length cl) (.slice pp ps.length cp) ls ps who part W hW hW2 Hl1.out Hp1.out HO.out HIN.out)
    have M1 := Lib.hid (fun W hW => rosMay (.pointer (some ⟨r, 0, none⟩)) ls ps who a x W hW Hl1.out Hp1.out HO.out HOP.out HX.out)
    have M2 := Lib.hid (fun W hW hW2 => refMay (.slice pl ls.length cl) (.slice pp ps.length cp) ls ps who a x W hW hW2 Hl1.out Hp1.out HO.out HOP.out HX.out HIN.out)
    have F1 := Lib.hid (fun W hW => rosFind (.pointer (some ⟨r, 0, none⟩)) ls ps a x W hW Hl1.out)
    have F2 := Lib.hid (fun W hW => refFind (.slice pl ls.length cl) ls a x W hW Hl1.out)
    have B1 := Lib.hid (fun W hW => rosBelow (.pointer (some ⟨r, 0, none⟩)) ls ps a x W hW Hl1.out HO.out HX.out)
    have B2 := Lib.hid (fun W hW => refBelow (.slice pl ls.length cl) ls a x W hW Hl1.out HO.out HX.out)
    have BL := Lib.hid (show (belL ls a x ls.length).length ≤ 1000000 by have := belL_len ls a x ls.length; have := Hl1.out; omega)
    generalize seesB ls ps who part = s1 at S1 S2
    generalize mayB ls ps who a x = s2 at M1 M2
    generalize idxI (fun y : Int × Nat => a == y.1 && x == y.2) ls = s3 at F1 F2
    go_upto_region 10 with fail
    go_cut [80] (fun s80 wx => s80 = .bool (inR ps.length who) ∧ wx = w5)
    case first =>
      rcases who_cases2 ps.length who with ⟨a1, hpa⟩ | ⟨a1, a2, hpa⟩ | ⟨a1, a2, hpa⟩
      · go_wp2_with fail
        go_meet
        case rel => exact ⟨by rw [hpa], rfl⟩
      · go_wp2_with fail
        go_meet
        case rel => exact ⟨by rw [hpa], rfl⟩
      · go_wp2_with fail
        go_meet
        case rel => exact ⟨by rw [hpa], rfl⟩
    case rest =>
      obtain ⟨rfl, rfl⟩ := hcut
      have hparts := part_in ps who
      go_upto_if 80 with fail
      go_cut [14] (fun s14 wx => s14 = .int .i64 (partAt ps who) ∧ wx = wc)
      case first =>
        cases hin : inR ps.length who with
        | false =>
          rw [hin] at hparts
          have HPA := Lib.hid (hparts.1 rfl)
          clear hparts
          go_wp2_with fail
          go_meet
          case rel => exact ⟨by rw [HPA.out], rfl⟩
        | true =>
          rw [hin] at hparts
          obtain ⟨k, rfl, hk, hpa⟩ := hparts.2 rfl
          clear hparts
          have HPA := Lib.hid hpa
          clear hpa
          obtain ⟨bp, op, rfl, hbp, hcp⟩ := KP.out (by omega)
          have c0 : wc.cell? ⟨bp, op + k * 3, none⟩ = some (.int .i64 ps[k]!.1) := hcp k hk 0 _ rfl
          have hkz : (k : Int) < (ps.length : Int) := by omega
          clear hcp
          generalize ps[k]!.1 = v14 at c0 HPA
          go_wp2_with fail
          go_meet
          case rel => exact ⟨by rw [HPA.out], rfl⟩
      case rest =>
        obtain ⟨rfl, rfl⟩ := hcut
        clear hparts
        generalize partAt ps who = v14 at hq33 ⊢
        generalize inR ps.length who = v80
        generalize hlp : labAt ls part = lp at hq32
        have HLP := Lib.hid hlp
        clear hlp
        obtain ⟨b1, b2⟩ := lp
        dsimp only at hq32
        generalize ho1 : inR ls.length part = o1 at hq32
        have HO1 := Lib.hid ho1
        clear ho1
        go_wp2_with fail
        refine hq32.mono ?_
        rintro e w6 ⟨rfl, hb⟩
        have KL6 := Lib.hid hb
        have HA := Lib.hid (HA.out.next hb)
        have HR := Lib.hid (HR.out.below hb)
        clear hb hq32
        go_upto_region 13 with fail
        have HB6 := Lib.hid (KL6.out.alloc KL6.out.size (.cells #[.int .i64 b1, .int .u16 (b2 : Int)] 48))
        have HA := Lib.hid (HA.out.next (below1 _ (.cells #[.int .i64 b1, .int .u16 (b2 : Int)] 48)))
        have HR := Lib.hid (HR.out.below (below1 _ (.cells #[.int .i64 b1, .int .u16 (b2 : Int)] 48)))
        have e0 : (w6.alloc (.cells #[.int .i64 b1, .int .u16 (b2 : Int)] 48)).cell? ⟨w6.heap.size, 0, none⟩ = some (.int .i64 b1) := by go_simp
        have e1 : (w6.alloc (.cells #[.int .i64 b1, .int .u16 (b2 : Int)] 48)).cell? ⟨w6.heap.size, 1, none⟩ = some (.int .u16 (b2 : Int)) := by go_simp
        have hzW : w6.heap.size < (w6.alloc (.cells #[.int .i64 b1, .int .u16 (b2 : Int)] 48)).heap.size := by simp
        generalize w6.alloc (.cells #[.int .i64 b1, .int .u16 (b2 : Int)] 48) = W at HA HR e0 e1 HB6 hzW ⊢
        go_cut [17] (fun s17 wx => s17 = .bool o1 ∧ wx = W)
        case first =>
          rcases who_cases2 ls.length part with ⟨a1, hpa⟩ | ⟨a1, a2, hpa⟩ | ⟨a1, a2, hpa⟩
          · go_wp2_with fail
            go_meet
            case rel => exact ⟨by rw [← HO1.out, hpa], rfl⟩
          · go_wp2_with fail
            go_meet
            case rel => exact ⟨by rw [← HO1.out, hpa], rfl⟩
          · go_wp2_with fail
            go_meet
            case rel => exact ⟨by rw [← HO1.out, hpa], rfl⟩
        case rest =>
          obtain ⟨rfl, rfl⟩ := hcut
          obtain ⟨_, hz, l0, l1⟩ := id HA.out
          have hbWW := HA.out.1
          have K33 := Lib.hid (fun (wc' : World) (h : (∀ b o, b < wc.heap.size → wc'.cell? ⟨b, o, none⟩ = wc.cell? ⟨b, o, none⟩) ∧ Below wc.heap.size wc wc') => hq33 wc' (HR.out.below h.2))
          have K34 := Lib.hid (fun (wc' : World) (h : (∀ b o, b < wc.heap.size → wc'.cell? ⟨b, o, none⟩ = wc.cell? ⟨b, o, none⟩) ∧ Below wc.heap.size wc wc') => S1.out wc' (HR.out.below h.2))
          have K35 := Lib.hid (fun (wc' : World) (h : (∀ b o, b < wc.heap.size → wc'.cell? ⟨b, o, none⟩ = wc.cell? ⟨b, o, none⟩) ∧ Below wc.heap.size wc wc') => S2.out wc' ((HL.out.below HA.out.1).below h.2) ((HP.out.below HA.out.1).below h.2))
          have K36 := Lib.hid (fun (wc' : World) (h : (∀ b o, b < wc.heap.size → wc'.cell? ⟨b, o, none⟩ = wc.cell? ⟨b, o, none⟩) ∧ Below wc.heap.size wc wc') => M1.out wc' (HR.out.below h.2))
          have K37 := Lib.hid (fun (wc' : World) (h : (∀ b o, b < wc.heap.size → wc'.cell? ⟨b, o, none⟩ = wc.cell? ⟨b, o, none⟩) ∧ Below wc.heap.size wc wc') => M2.out wc' ((HL.out.below HA.out.1).below h.2) ((HP.out.below HA.out.1).below h.2))
          have K38 := Lib.hid (fun (wc' : World) (h : (∀ b o, b < wc.heap.size → wc'.cell? ⟨b, o, none⟩ = wc.cell? ⟨b, o, none⟩) ∧ Below wc.heap.size wc wc') => F1.out wc' (HR.out.below h.2))
          have K39 := Lib.hid (fun (wc' : World) (h : (∀ b o, b < wc.heap.size → wc'.cell? ⟨b, o, none⟩ = wc.cell? ⟨b, o, none⟩) ∧ Below wc.heap.size wc wc') => F2.out wc' ((HL.out.below HA.out.1).below h.2))
          have K41 := Lib.hid (fun (wc' : World) (h : (∀ b o, b < wc.heap.size → wc'.cell? ⟨b, o, none⟩ = wc.cell? ⟨b, o, none⟩) ∧ Below wc.heap.size wc wc') => B1.out wc' (HR.out.below h.2))
          have K42 := Lib.hid (fun (wc' : World) (h : (∀ b o, b < wc.heap.size → wc'.cell? ⟨b, o, none⟩ = wc.cell? ⟨b, o, none⟩) ∧ Below wc.heap.size wc wc') => B2.out wc' ((HL.out.below HA.out.1).below h.2))
          have K40 := Lib.hid (fun (wc' : World) (u1 u2 : Value) (h1 : SlAt 1 encI wc' u1 (belL ls a x ls.length)) (h2 : SlAt 1 encI wc' u2 (belL ls a x ls.length)) => same02 u1 u2 _ _ wc' h1 h2 BL.out BL.out)
          rw [decide_eq_true (rfl : belL ls a x ls.length = belL ls a x ls.length)] at K40
          clear hq33
          cases o1 with
          | false =>
            go_wp2_with fail
            simp only [List.append_eq, List.cons_append, List.nil_append]
            refine wp_region_held_drew (S := (fun w' => (∀ b o, b < (wc).heap.size → w'.cell? ⟨b, o, none⟩ = (wc).cell? ⟨b, o, none⟩) ∧ Below (wc).heap.size (wc) w')) (by kernel_rfl) (stay0 _) (fun hHeld => ?_)
            try dsimp only [List.size_toArray, List.length_cons, List.length_nil]
            refine takeL (i := 0) rfl (v := ?v0a) (by kernel_rfl) (by kernel_rfl) (by kernel_rfl) (fun _ _ _ h => h) (Or.inl ⟨by rfl, fun w hSw => ?hy0a⟩) (by assumption) ?rest0a
            case hy0a =>
              (try dsimp only at hSw)
              go_simp
              try with_reducible rfl
            try simp only [Act.put, List.setIfInBounds_toArray, List.set_cons_zero, List.set_cons_succ]
            refine takeL (i := 1) rfl (v := ?v1a) (by kernel_rfl) (by kernel_rfl) (by kernel_rfl) (fun _ _ _ h => h) (Or.inl ⟨by rfl, fun w hSw => ?hy1a⟩) (by assumption) ?rest1a
            case hy1a =>
              (try dsimp only at hSw)
              go_simp
              try with_reducible rfl
            try simp only [Act.put, List.setIfInBounds_toArray, List.set_cons_zero, List.set_cons_succ]
            refine takeL (i := 2) rfl (v := ?v2a) (by kernel_rfl) (by kernel_rfl) (by kernel_rfl) (fun _ _ _ h => h) (Or.inl ⟨by rfl, fun w hSw => ?hy2a⟩) (by assumption) ?rest2a
            case hy2a =>
              (try dsimp only at hSw)
              go_simp
              try with_reducible rfl
            try simp only [Act.put, List.setIfInBounds_toArray, List.set_cons_zero, List.set_cons_succ]
            refine takeL (i := 3) rfl (v := ?v3a) (by kernel_rfl) (by kernel_rfl) (by kernel_rfl) (fun _ _ _ h => h) (Or.inl ⟨by rfl, fun w hSw => ?hy3a⟩) (by assumption) ?rest3a
            case hy3a =>
              (try dsimp only at hSw)
              go_simp
              try with_reducible rfl
            try simp only [Act.put, List.setIfInBounds_toArray, List.set_cons_zero, List.set_cons_succ]
            refine takeL (i := 4) rfl (v := ?v4a) (by kernel_rfl) (by kernel_rfl) (by kernel_rfl) (fun _ _ _ h => h) (Or.inl ⟨by rfl, fun w hSw => ?hy4a⟩) (by assumption) ?rest4a
            case hy4a =>
              (try dsimp only at hSw)
              go_simp
              try with_reducible rfl
            try simp only [Act.put, List.setIfInBounds_toArray, List.set_cons_zero, List.set_cons_succ]
            refine takeL (i := 5) rfl (v := ?v5a) (by kernel_rfl) (by kernel_rfl) (by kernel_rfl) (fun _ _ _ h => h) (Or.inl ⟨by rfl, fun w hSw => ?hy5a⟩) (by assumption) ?rest5a
            case hy5a =>
              (try dsimp only at hSw)
              go_simp
              try with_reducible rfl
            try simp only [Act.put, List.setIfInBounds_toArray, List.set_cons_zero, List.set_cons_succ]
            refine takeL (i := 6) rfl (v := ?v6a) (by kernel_rfl) (by kernel_rfl) (by kernel_rfl) (fun _ _ _ h => h) (Or.inl ⟨by rfl, fun w hSw => ?hy6a⟩) (by assumption) ?rest6a
            case hy6a =>
              (try dsimp only at hSw)
              go_simp
              try with_reducible rfl
            try simp only [Act.put, List.setIfInBounds_toArray, List.set_cons_zero, List.set_cons_succ]
            refine takeL (i := 7) rfl (v := undef) (by kernel_rfl) (by kernel_rfl) (by kernel_rfl) (fun _ _ _ h => h) (Or.inr ⟨by rfl, rfl⟩) (by assumption) ?_
            try simp only [Act.put, List.setIfInBounds_toArray, List.set_cons_zero, List.set_cons_succ]
            refine takeL (i := 8) rfl (v := undef) (by kernel_rfl) (by kernel_rfl) (by kernel_rfl) (fun _ _ _ h => h) (Or.inr ⟨by rfl, rfl⟩) (by assumption) ?_
            try simp only [Act.put, List.setIfInBounds_toArray, List.set_cons_zero, List.set_cons_succ]
            refine takeL (i := 9) rfl (v := undef) (by kernel_rfl) (by kernel_rfl) (by kernel_rfl) (fun _ _ _ h => h) (Or.inr ⟨by rfl, rfl⟩) (by assumption) ?_
            try simp only [Act.put, List.setIfInBounds_toArray, List.set_cons_zero, List.set_cons_succ]
            refine takeL (i := 10) rfl (v := undef) (by kernel_rfl) (by kernel_rfl) (by kernel_rfl) (fun _ _ _ h => h) (Or.inr ⟨by rfl, rfl⟩) (by assumption) ?_
            try simp only [Act.put, List.setIfInBounds_toArray, List.set_cons_zero, List.set_cons_succ]
            refine takeL (i := 11) rfl (v := undef) (by kernel_rfl) (by kernel_rfl) (by kernel_rfl) (fun _ _ _ h => h) (Or.inr ⟨by rfl, rfl⟩) (by assumption) ?_
            try simp only [Act.put, List.setIfInBounds_toArray, List.set_cons_zero, List.set_cons_succ]
            refine takeL (i := 12) rfl (v := undef) (by kernel_rfl) (by kernel_rfl) (by kernel_rfl) (fun _ _ _ h => h) (Or.inr ⟨by rfl, rfl⟩) (by assumption) ?_
            try simp only [Act.put, List.setIfInBounds_toArray, List.set_cons_zero, List.set_cons_succ]
            refine takeL (i := 13) rfl (v := ?v13a) (by kernel_rfl) (by kernel_rfl) (by kernel_rfl) (fun _ _ _ h => h) (Or.inl ⟨by rfl, fun w hSw => ?hy13a⟩) (by assumption) ?rest13a
            case hy13a =>
              (try dsimp only at hSw)
              go_simp
              try with_reducible rfl
            try simp only [Act.put, List.setIfInBounds_toArray, List.set_cons_zero, List.set_cons_succ]
            refine takeL (i := 14) rfl (v := ?v14a) (by kernel_rfl) (by kernel_rfl) (by kernel_rfl) (fun _ _ _ h => h) (Or.inl ⟨by rfl, fun w hSw => ?hy14a⟩) (by assumption) ?rest14a
            case hy14a =>
              (try dsimp only at hSw)
              go_simp
              try with_reducible rfl
            try simp only [Act.put, List.setIfInBounds_toArray, List.set_cons_zero, List.set_cons_succ]
            refine takeL (i := 15) rfl (v := ?v15a) (by kernel_rfl) (by kernel_rfl) (by kernel_rfl) (fun _ _ _ h => h) (Or.inl ⟨by rfl, fun w hSw => ?hy15a⟩) (by assumption) ?rest15a
            case hy15a =>
              (try dsimp only at hSw)
              go_simp
              try with_reducible rfl
            try simp only [Act.put, List.setIfInBounds_toArray, List.set_cons_zero, List.set_cons_succ]
            refine takeL (i := 16) rfl (v := ?v16a) (by kernel_rfl) (by kernel_rfl) (by kernel_rfl) (fun _ _ _ h => h) (Or.inl ⟨by rfl, fun w hSw => ?hy16a⟩) (by assumption) ?rest16a
            case hy16a =>
              (try dsimp only at hSw)
              go_simp
              try with_reducible rfl
            try simp only [Act.put, List.setIfInBounds_toArray, List.set_cons_zero, List.set_cons_succ]
            refine takeL (i := 17) rfl (v := ?v17a) (by kernel_rfl) (by kernel_rfl) (by kernel_rfl) (fun _ _ _ h => h) (Or.inl ⟨by rfl, fun w hSw => ?hy17a⟩) (by assumption) ?rest17a
            case hy17a =>
              (try dsimp only at hSw)
              go_simp
              try with_reducible rfl
            try simp only [Act.put, List.setIfInBounds_toArray, List.set_cons_zero, List.set_cons_succ]
            refine takeL (i := 19) rfl (v := ?v19a) (by kernel_rfl) (by kernel_rfl) (by kernel_rfl) (fun _ _ _ h => h) (Or.inl ⟨by rfl, fun w hSw => ?hy19a⟩) (by assumption) ?rest19a
            case hy19a =>
              (try dsimp only at hSw)
              go_simp
              try with_reducible rfl
            try simp only [Act.put, List.setIfInBounds_toArray, List.set_cons_zero, List.set_cons_succ]
            refine wpAnyH_ready (rs := [18]) (by kernel_rfl) (by simp) (readyL rfl (fun K hK => ?_) AllReadyH.nil)
            go_simp
            with_reducible refine (K33.out _ ‹_›).mono ?_
            rintro e w' ⟨rfl, rfl⟩
            try dsimp only
            refine hK.out _ _ ‹_› (fun hHeld => ?_)
            clear hK K
            try simp only [Act.put, List.setIfInBounds_toArray, List.set_cons_zero, List.set_cons_succ]
            refine takeL (i := 20) rfl (v := ?v20a) (by kernel_rfl) (by kernel_rfl) (by kernel_rfl) (fun _ _ _ h => h) (Or.inl ⟨by rfl, fun w hSw => ?hy20a⟩) (by assumption) ?rest20a
            case hy20a =>
              (try dsimp only at hSw)
              go_simp
              try with_reducible rfl
            try simp only [Act.put, List.setIfInBounds_toArray, List.set_cons_zero, List.set_cons_succ]
            refine takeL (i := 21) rfl (v := ?v21a) (by kernel_rfl) (by kernel_rfl) (by kernel_rfl) (fun _ _ _ h => h) (Or.inl ⟨by rfl, fun w hSw => ?hy21a⟩) (by assumption) ?rest21a
            case hy21a =>
              (try dsimp only at hSw)
              go_simp
              try with_reducible rfl
            try simp only [Act.put, List.setIfInBounds_toArray, List.set_cons_zero, List.set_cons_succ]
            refine takeL (i := 22) rfl (v := ?v22a) (by kernel_rfl) (by kernel_rfl) (by kernel_rfl) (fun _ _ _ h => h) (Or.inl ⟨by rfl, fun w hSw => ?hy22a⟩) (by assumption) ?rest22a
            case hy22a =>
              (try dsimp only at hSw)
              go_simp
              try with_reducible rfl
            try simp only [Act.put, List.setIfInBounds_toArray, List.set_cons_zero, List.set_cons_succ]
            refine takeL (i := 23) rfl (v := ?v23a) (by kernel_rfl) (by kernel_rfl) (by kernel_rfl) (fun _ _ _ h => h) (Or.inl ⟨by rfl, fun w hSw => ?hy23a⟩) (by assumption) ?rest23a
            case hy23a =>
              (try dsimp only at hSw)
              go_simp
              try with_reducible rfl
            try simp only [Act.put, List.setIfInBounds_toArray, List.set_cons_zero, List.set_cons_succ]
            refine takeL (i := 24) rfl (v := ?v24a) (by kernel_rfl) (by kernel_rfl) (by kernel_rfl) (fun _ _ _ h => h) (Or.inl ⟨by rfl, fun w hSw => ?hy24a⟩) (by assumption) ?rest24a
            case hy24a =>
              (try dsimp only at hSw)
              go_simp
              try with_reducible rfl
            try simp only [Act.put, List.setIfInBounds_toArray, List.set_cons_zero, List.set_cons_succ]
            refine takeL (i := 25) rfl (v := ?v25a) (by kernel_rfl) (by kernel_rfl) (by kernel_rfl) (fun _ _ _ h => h) (Or.inl ⟨by rfl, fun w hSw => ?hy25a⟩) (by assumption) ?rest25a
            case hy25a =>
              (try dsimp only at hSw)
              go_simp
              try with_reducible rfl
            try simp only [Act.put, List.setIfInBounds_toArray, List.set_cons_zero, List.set_cons_succ]
            refine takeL (i := 27) rfl (v := ?v27a) (by kernel_rfl) (by kernel_rfl) (by kernel_rfl) (fun _ _ _ h => h) (Or.inl ⟨by rfl, fun w hSw => ?hy27a⟩) (by assumption) ?rest27a
            case hy27a =>
              (try dsimp only at hSw)
              go_simp
              try with_reducible rfl
            try simp only [Act.put, List.setIfInBounds_toArray, List.set_cons_zero, List.set_cons_succ]
            refine takeL (i := 28) rfl (v := ?v28a) (by kernel_rfl) (by kernel_rfl) (by kernel_rfl) (fun _ _ _ h => h) (Or.inl ⟨by rfl, fun w hSw => ?hy28a⟩) (by assumption) ?rest28a
            case hy28a =>
              (try dsimp only at hSw)
              go_simp
              try with_reducible rfl
            try simp only [Act.put, List.setIfInBounds_toArray, List.set_cons_zero, List.set_cons_succ]
            refine takeL (i := 29) rfl (v := ?v29a) (by kernel_rfl) (by kernel_rfl) (by kernel_rfl) (fun _ _ _ h => h) (Or.inl ⟨by rfl, fun w hSw => ?hy29a⟩) (by assumption) ?rest29a
            case hy29a =>
              (try dsimp only at hSw)
              go_simp
              try with_reducible rfl
            try simp only [Act.put, List.setIfInBounds_toArray, List.set_cons_zero, List.set_cons_succ]
            refine takeL (i := 30) rfl (v := ?v30a) (by kernel_rfl) (by kernel_rfl) (by kernel_rfl) (fun _ _ _ h => h) (Or.inl ⟨by rfl, fun w hSw => ?hy30a⟩) (by assumption) ?rest30a
            case hy30a =>
              (try dsimp only at hSw)
              go_simp
              try with_reducible rfl
            try simp only [Act.put, List.setIfInBounds_toArray, List.set_cons_zero, List.set_cons_succ]
            refine wpAnyH_ready (rs := [26]) (by kernel_rfl) (by simp) (readyL rfl (fun K hK => ?_) AllReadyH.nil)
            go_simp
            with_reducible refine (K34.out _ ‹_›).mono ?_
            rintro e w' ⟨rfl, hb⟩
            try dsimp only
            refine hK.out _ _ (stay ‹_› ‹_›) (fun hHeld => ?_)
            clear hK K
            try simp only [Act.put, List.setIfInBounds_toArray, List.set_cons_zero, List.set_cons_succ]
            refine wpAnyH_ready (rs := [31]) (by kernel_rfl) (by simp) (readyL rfl (fun K hK => ?_) AllReadyH.nil)
            go_simp
            with_reducible refine (K35.out _ ‹_›).mono ?_
            rintro e w' ⟨rfl, hb⟩
            try dsimp only
            refine hK.out _ _ (stay ‹_› ‹_›) (fun hHeld => ?_)
            clear hK K
            try simp only [Act.put, List.setIfInBounds_toArray, List.set_cons_zero, List.set_cons_succ]
            refine takeL (i := 32) rfl (v := ?v32a) (by kernel_rfl) (by kernel_rfl) (by kernel_rfl) (fun _ _ _ h => h) (Or.inl ⟨by rfl, fun w hSw => ?hy32a⟩) (by assumption) ?rest32a
            case hy32a =>
              (try dsimp only at hSw)
              go_simp
              try with_reducible rfl
            try simp only [Act.put, List.setIfInBounds_toArray, List.set_cons_zero, List.set_cons_succ]
            refine takeL (i := 33) rfl (v := ?v33a) (by kernel_rfl) (by kernel_rfl) (by kernel_rfl) (fun _ _ _ h => h) (Or.inl ⟨by rfl, fun w hSw => ?hy33a⟩) (by assumption) ?rest33a
            case hy33a =>
              (try dsimp only at hSw)
              go_simp
              try with_reducible rfl
            try simp only [Act.put, List.setIfInBounds_toArray, List.set_cons_zero, List.set_cons_succ]
            refine takeL (i := 34) rfl (v := ?v34a) (by kernel_rfl) (by kernel_rfl) (by kernel_rfl) (fun _ _ _ h => h) (Or.inl ⟨by rfl, fun w hSw => ?hy34a⟩) (by assumption) ?rest34a
            case hy34a =>
              (try dsimp only at hSw)
              go_simp
              try with_reducible rfl
            try simp only [Act.put, List.setIfInBounds_toArray, List.set_cons_zero, List.set_cons_succ]
            refine takeL (i := 35) rfl (v := ?v35a) (by kernel_rfl) (by kernel_rfl) (by kernel_rfl) (fun _ _ _ h => h) (Or.inl ⟨by rfl, fun w hSw => ?hy35a⟩) (by assumption) ?rest35a
            case hy35a =>
              (try dsimp only at hSw)
              go_simp
              try with_reducible rfl
            try simp only [Act.put, List.setIfInBounds_toArray, List.set_cons_zero, List.set_cons_succ]
            refine takeL (i := 36) rfl (v := ?v36a) (by kernel_rfl) (by kernel_rfl) (by kernel_rfl) (fun _ _ _ h => h) (Or.inl ⟨by rfl, fun w hSw => ?hy36a⟩) (by assumption) ?rest36a
            case hy36a =>
              (try dsimp only at hSw)
              go_simp
              try with_reducible rfl
            try simp only [Act.put, List.setIfInBounds_toArray, List.set_cons_zero, List.set_cons_succ]
            refine takeL (i := 37) rfl (v := ?v37a) (by kernel_rfl) (by kernel_rfl) (by kernel_rfl) (fun _ _ _ h => h) (Or.inl ⟨by rfl, fun w hSw => ?hy37a⟩) (by assumption) ?rest37a
            case hy37a =>
              (try dsimp only at hSw)
              go_simp
              try with_reducible rfl
            try simp only [Act.put, List.setIfInBounds_toArray, List.set_cons_zero, List.set_cons_succ]
            refine takeL (i := 39) rfl (v := ?v39a) (by kernel_rfl) (by kernel_rfl) (by kernel_rfl) (fun _ _ _ h => h) (Or.inl ⟨by rfl, fun w hSw => ?hy39a⟩) (by assumption) ?rest39a
            case hy39a =>
              (try dsimp only at hSw)
              go_simp
              try with_reducible rfl
            try simp only [Act.put, List.setIfInBounds_toArray, List.set_cons_zero, List.set_cons_succ]
            refine takeL (i := 40) rfl (v := ?v40a) (by kernel_rfl) (by kernel_rfl) (by kernel_rfl) (fun _ _ _ h => h) (Or.inl ⟨by rfl, fun w hSw => ?hy40a⟩) (by assumption) ?rest40a
            case hy40a =>
              (try dsimp only at hSw)
              go_simp
              try with_reducible rfl
            try simp only [Act.put, List.setIfInBounds_toArray, List.set_cons_zero, List.set_cons_succ]
            refine takeL (i := 41) rfl (v := ?v41a) (by kernel_rfl) (by kernel_rfl) (by kernel_rfl) (fun _ _ _ h => h) (Or.inl ⟨by rfl, fun w hSw => ?hy41a⟩) (by assumption) ?rest41a
            case hy41a =>
              (try dsimp only at hSw)
              go_simp
              try with_reducible rfl
            try simp only [Act.put, List.setIfInBounds_toArray, List.set_cons_zero, List.set_cons_succ]
            refine takeL (i := 42) rfl (v := ?v42a) (by kernel_rfl) (by kernel_rfl) (by kernel_rfl) (fun _ _ _ h => h) (Or.inl ⟨by rfl, fun w hSw => ?hy42a⟩) (by assumption) ?rest42a
            case hy42a =>
              (try dsimp only at hSw)
              go_simp
              try with_reducible rfl
            try simp only [Act.put, List.setIfInBounds_toArray, List.set_cons_zero, List.set_cons_succ]
            refine wpAnyH_ready (rs := [38]) (by kernel_rfl) (by simp) (readyL rfl (fun K hK => ?_) AllReadyH.nil)
            go_simp
            with_reducible refine (K36.out _ ‹_›).mono ?_
            rintro e w' ⟨rfl, hb⟩
            try dsimp only
            refine hK.out _ _ (stay ‹_› ‹_›) (fun hHeld => ?_)
            clear hK K
            try simp only [Act.put, List.setIfInBounds_toArray, List.set_cons_zero, List.set_cons_succ]
            refine wpAnyH_ready (rs := [43]) (by kernel_rfl) (by simp) (readyL rfl (fun K hK => ?_) AllReadyH.nil)
            go_simp
            with_reducible refine (K37.out _ ‹_›).mono ?_
            rintro e w' ⟨rfl, hb⟩
            try dsimp only
            refine hK.out _ _ (stay ‹_› ‹_›) (fun hHeld => ?_)
            clear hK K
            try simp only [Act.put, List.setIfInBounds_toArray, List.set_cons_zero, List.set_cons_succ]
            refine takeL (i := 44) rfl (v := ?v44a) (by kernel_rfl) (by kernel_rfl) (by kernel_rfl) (fun _ _ _ h => h) (Or.inl ⟨by rfl, fun w hSw => ?hy44a⟩) (by assumption) ?rest44a
            case hy44a =>
              (try dsimp only at hSw)
              go_simp
              try with_reducible rfl
            try simp only [Act.put, List.setIfInBounds_toArray, List.set_cons_zero, List.set_cons_succ]
            refine takeL (i := 45) rfl (v := ?v45a) (by kernel_rfl) (by kernel_rfl) (by kernel_rfl) (fun _ _ _ h => h) (Or.inl ⟨by rfl, fun w hSw => ?hy45a⟩) (by assumption) ?rest45a
            case hy45a =>
              (try dsimp only at hSw)
              go_simp
              try with_reducible rfl
            try simp only [Act.put, List.setIfInBounds_toArray, List.set_cons_zero, List.set_cons_succ]
            refine takeL (i := 46) rfl (v := ?v46a) (by kernel_rfl) (by kernel_rfl) (by kernel_rfl) (fun _ _ _ h => h) (Or.inl ⟨by rfl, fun w hSw => ?hy46a⟩) (by assumption) ?rest46a
            case hy46a =>
              (try dsimp only at hSw)
              go_simp
              try with_reducible rfl
            try simp only [Act.put, List.setIfInBounds_toArray, List.set_cons_zero, List.set_cons_succ]
            refine takeL (i := 47) rfl (v := ?v47a) (by kernel_rfl) (by kernel_rfl) (by kernel_rfl) (fun _ _ _ h => h) (Or.inl ⟨by rfl, fun w hSw => ?hy47a⟩) (by assumption) ?rest47a
            case hy47a =>
              (try dsimp only at hSw)
              go_simp
              try with_reducible rfl
            try simp only [Act.put, List.setIfInBounds_toArray, List.set_cons_zero, List.set_cons_succ]
            refine takeL (i := 48) rfl (v := ?v48a) (by kernel_rfl) (by kernel_rfl) (by kernel_rfl) (fun _ _ _ h => h) (Or.inl ⟨by rfl, fun w hSw => ?hy48a⟩) (by assumption) ?rest48a
            case hy48a =>
              (try dsimp only at hSw)
              go_simp
              try with_reducible rfl
            try simp only [Act.put, List.setIfInBounds_toArray, List.set_cons_zero, List.set_cons_succ]
            refine takeL (i := 50) rfl (v := ?v50a) (by kernel_rfl) (by kernel_rfl) (by kernel_rfl) (fun _ _ _ h => h) (Or.inl ⟨by rfl, fun w hSw => ?hy50a⟩) (by assumption) ?rest50a
            case hy50a =>
              (try dsimp only at hSw)
              go_simp
              try with_reducible rfl
            try simp only [Act.put, List.setIfInBounds_toArray, List.set_cons_zero, List.set_cons_succ]
            refine takeL (i := 51) rfl (v := ?v51a) (by kernel_rfl) (by kernel_rfl) (by kernel_rfl) (fun _ _ _ h => h) (Or.inl ⟨by rfl, fun w hSw => ?hy51a⟩) (by assumption) ?rest51a
            case hy51a =>
              (try dsimp only at hSw)
              go_simp
              try with_reducible rfl
            try simp only [Act.put, List.setIfInBounds_toArray, List.set_cons_zero, List.set_cons_succ]
            refine wpAnyH_ready (rs := [49]) (by kernel_rfl) (by simp) (readyL rfl (fun K hK => ?_) AllReadyH.nil)
            go_simp
            with_reducible refine (K38.out _ ‹_›).mono ?_
            rintro e w' ⟨rfl, hb⟩
            try dsimp only
            refine hK.out _ _ (stay ‹_› ‹_›) (fun hHeld => ?_)
            clear hK K
            try simp only [Act.put, List.setIfInBounds_toArray, List.set_cons_zero, List.set_cons_succ]
            refine wpAnyH_ready (rs := [52]) (by kernel_rfl) (by simp) (readyL rfl (fun K hK => ?_) AllReadyH.nil)
            go_simp
            with_reducible refine (K39.out _ ‹_›).mono ?_
            rintro e w' ⟨rfl, hb⟩
            try dsimp only
            refine hK.out _ _ (stay ‹_› ‹_›) (fun hHeld => ?_)
            clear hK K
            try simp only [Act.put, List.setIfInBounds_toArray, List.set_cons_zero, List.set_cons_succ]
            refine takeL (i := 53) rfl (v := ?v53a) (by kernel_rfl) (by kernel_rfl) (by kernel_rfl) (fun _ _ _ h => h) (Or.inl ⟨by rfl, fun w hSw => ?hy53a⟩) (by assumption) ?rest53a
            case hy53a =>
              (try dsimp only at hSw)
              go_simp
              try with_reducible rfl
            try simp only [Act.put, List.setIfInBounds_toArray, List.set_cons_zero, List.set_cons_succ]
            refine takeL (i := 54) rfl (v := ?v54a) (by kernel_rfl) (by kernel_rfl) (by kernel_rfl) (fun _ _ _ h => h) (Or.inl ⟨by rfl, fun w hSw => ?hy54a⟩) (by assumption) ?rest54a
            case hy54a =>
              (try dsimp only at hSw)
              go_simp
              try with_reducible rfl
            try simp only [Act.put, List.setIfInBounds_toArray, List.set_cons_zero, List.set_cons_succ]
            refine takeL (i := 55) rfl (v := ?v55a) (by kernel_rfl) (by kernel_rfl) (by kernel_rfl) (fun _ _ _ h => h) (Or.inl ⟨by rfl, fun w hSw => ?hy55a⟩) (by assumption) ?rest55a
            case hy55a =>
              (try dsimp only at hSw)
              go_simp
              try with_reducible rfl
            try simp only [Act.put, List.setIfInBounds_toArray, List.set_cons_zero, List.set_cons_succ]
            refine takeL (i := 56) rfl (v := ?v56a) (by kernel_rfl) (by kernel_rfl) (by kernel_rfl) (fun _ _ _ h => h) (Or.inl ⟨by rfl, fun w hSw => ?hy56a⟩) (by assumption) ?rest56a
            case hy56a =>
              (try dsimp only at hSw)
              go_simp
              try with_reducible rfl
            try simp only [Act.put, List.setIfInBounds_toArray, List.set_cons_zero, List.set_cons_succ]
            refine takeL (i := 57) rfl (v := ?v57a) (by kernel_rfl) (by kernel_rfl) (by kernel_rfl) (fun _ _ _ h => h) (Or.inl ⟨by rfl, fun w hSw => ?hy57a⟩) (by assumption) ?rest57a
            case hy57a =>
              (try dsimp only at hSw)
              go_simp
              try with_reducible rfl
            try simp only [Act.put, List.setIfInBounds_toArray, List.set_cons_zero, List.set_cons_succ]
            refine takeL (i := 59) rfl (v := ?v59a) (by kernel_rfl) (by kernel_rfl) (by kernel_rfl) (fun _ _ _ h => h) (Or.inl ⟨by rfl, fun w hSw => ?hy59a⟩) (by assumption) ?rest59a
            case hy59a =>
              (try dsimp only at hSw)
              go_simp
              try with_reducible rfl
            try simp only [Act.put, List.setIfInBounds_toArray, List.set_cons_zero, List.set_cons_succ]
            refine takeL (i := 60) rfl (v := ?v60a) (by kernel_rfl) (by kernel_rfl) (by kernel_rfl) (fun _ _ _ h => h) (Or.inl ⟨by rfl, fun w hSw => ?hy60a⟩) (by assumption) ?rest60a
            case hy60a =>
              (try dsimp only at hSw)
              go_simp
              try with_reducible rfl
            try simp only [Act.put, List.setIfInBounds_toArray, List.set_cons_zero, List.set_cons_succ]
            refine wpAnyH_ready (rs := [58]) (by kernel_rfl) (by simp) (readyL rfl (fun K hK => ?_) AllReadyH.nil)
            go_simp
            with_reducible refine (K41.out _ ‹_›).mono ?_
            rintro e w' ⟨u1, rfl, hS1, hb⟩
            try dsimp only
            refine hK.out _ _ (stay ‹_› ‹_›) (fun hHeld => ?_)
            clear hK K
            try simp only [Act.put, List.setIfInBounds_toArray, List.set_cons_zero, List.set_cons_succ]
            refine wpAnyH_ready (rs := [61]) (by kernel_rfl) (by simp) (readyL rfl (fun K hK => ?_) AllReadyH.nil)
            go_simp
            with_reducible refine (K42.out _ ‹_›).mono ?_
            rintro e w' ⟨u2, rfl, hS2, hb⟩
            have hS1 := SlAt.below hS1 hb
            try dsimp only
            refine hK.out _ _ (stay ‹_› ‹_›) (fun hHeld => ?_)
            clear hK K
            try simp only [Act.put, List.setIfInBounds_toArray, List.set_cons_zero, List.set_cons_succ]
            refine wpAnyH_ready (rs := [62]) (by kernel_rfl) (by simp) (readyL rfl (fun K hK => ?_) AllReadyH.nil)
            go_simp
            with_reducible refine (K40.out _ _ _ hS1 hS2).mono ?_
            rintro e w' ⟨rfl, hb⟩
            try dsimp only
            refine hK.out _ _ (stay ‹_› ‹_›) (fun hHeld => ?_)
            clear hK K
            try simp only [Act.put, List.setIfInBounds_toArray, List.set_cons_zero, List.set_cons_succ]
            refine takeL (i := 63) rfl (v := ?v63a) (by kernel_rfl) (by kernel_rfl) (by kernel_rfl) (fun _ _ _ h => h) (Or.inl ⟨by rfl, fun w hSw => ?hy63a⟩) (by assumption) ?rest63a
            case hy63a =>
              (try dsimp only at hSw)
              go_simp
              try with_reducible rfl
            try simp only [Act.put, List.setIfInBounds_toArray, List.set_cons_zero, List.set_cons_succ]
            refine takeL (i := 64) rfl (v := ?v64a) (by kernel_rfl) (by kernel_rfl) (by kernel_rfl) (fun _ _ _ h => h) (Or.inl ⟨by rfl, fun w hSw => ?hy64a⟩) (by assumption) ?rest64a
            case hy64a =>
              (try dsimp only at hSw)
              go_simp
              try with_reducible rfl
            try simp only [Act.put, List.setIfInBounds_toArray, List.set_cons_zero, List.set_cons_succ]
            refine wpAnyH_done (by kernel_rfl) ?_ _
            go_wp2
            go_ret
            exact ⟨by simp, stayEnd hbWW hbWW.size ‹_›⟩
          | true =>
            obtain ⟨k, rfl, hk⟩ := inR_mk HO1.out
            have hkz : (k : Int) < (ls.length : Int) := by omega
            have hlk : ls[k]! = (b1, b2) := by rw [← HLP.out]; unfold labAt; rw [HO1.out]; rfl
            obtain ⟨bl, ol, rfl, hbl, hcl⟩ := KL.out (by omega)
            have c0 : wc.cell? ⟨bl, ol + k * 2, none⟩ = some (.int .i64 b1) := (HB6.out.cell (p := ⟨bl, ol + k * 2, none⟩) hbl).trans (by have := hcl k hk 0 _ rfl; rw [hlk] at this; exact this)
            have c1 : wc.cell? ⟨bl, ol + k * 2 + 1, none⟩ = some (.int .u16 (b2 : Int)) := (HB6.out.cell (p := ⟨bl, ol + k * 2 + 1, none⟩) hbl).trans (by have := hcl k hk 1 _ rfl; rw [hlk] at this; exact this)
            have hblz := Nat.lt_of_lt_of_le hbl HB6.out.size
            have hE : ∀ W, (binOp .eql 48 (.agg #[.int .i64 (b1), .int .u16 ((b2 : Nat) : Int)]) (.agg #[.int .i64 (b1), .int .u16 ((b2 : Nat) : Int)])).run Try.prog W = .ok (.bool true) W := fun W => by
              have := run_eqL' b1 b1 b2 b2 W
              simpa using this
            have hgu := eqGuardL
            clear hcl hlk hbl
            go_wp2_with fail
            simp only [List.append_eq, List.cons_append, List.nil_append]
            refine wp_region_held_drew (S := (fun w' => (∀ b o, b < (wc).heap.size → w'.cell? ⟨b, o, none⟩ = (wc).cell? ⟨b, o, none⟩) ∧ Below (wc).heap.size (wc) w')) (by kernel_rfl) (stay0 _) (fun hHeld => ?_)
            try dsimp only [List.size_toArray, List.length_cons, List.length_nil]
            refine takeL (i := 0) rfl (v := ?v0b) (by kernel_rfl) (by kernel_rfl) (by kernel_rfl) (fun _ _ _ h => h) (Or.inl ⟨by rfl, fun w hSw => ?hy0b⟩) (by assumption) ?rest0b
            case hy0b =>
              (try dsimp only at hSw)
              go_simp
              try with_reducible rfl
            try simp only [Act.put, List.setIfInBounds_toArray, List.set_cons_zero, List.set_cons_succ]
            refine takeL (i := 1) rfl (v := ?v1b) (by kernel_rfl) (by kernel_rfl) (by kernel_rfl) (fun _ _ _ h => h) (Or.inl ⟨by rfl, fun w hSw => ?hy1b⟩) (by assumption) ?rest1b
            case hy1b =>
              (try dsimp only at hSw)
              go_simp
              try with_reducible rfl
            try simp only [Act.put, List.setIfInBounds_toArray, List.set_cons_zero, List.set_cons_succ]
            refine takeL (i := 2) rfl (v := ?v2b) (by kernel_rfl) (by kernel_rfl) (by kernel_rfl) (fun _ _ _ h => h) (Or.inl ⟨by rfl, fun w hSw => ?hy2b⟩) (by assumption) ?rest2b
            case hy2b =>
              (try dsimp only at hSw)
              go_simp
              try with_reducible rfl
            try simp only [Act.put, List.setIfInBounds_toArray, List.set_cons_zero, List.set_cons_succ]
            refine takeL (i := 3) rfl (v := ?v3b) (by kernel_rfl) (by kernel_rfl) (by kernel_rfl) (fun _ _ _ h => h) (Or.inl ⟨by rfl, fun w hSw => ?hy3b⟩) (by assumption) ?rest3b
            case hy3b =>
              (try dsimp only at hSw)
              go_simp
              try with_reducible rfl
            try simp only [Act.put, List.setIfInBounds_toArray, List.set_cons_zero, List.set_cons_succ]
            refine takeL (i := 4) rfl (v := ?v4b) (by kernel_rfl) (by kernel_rfl) (by kernel_rfl) (fun _ _ _ h => h) (Or.inl ⟨by rfl, fun w hSw => ?hy4b⟩) (by assumption) ?rest4b
            case hy4b =>
              (try dsimp only at hSw)
              go_simp
              try with_reducible rfl
            try simp only [Act.put, List.setIfInBounds_toArray, List.set_cons_zero, List.set_cons_succ]
            refine takeL (i := 5) rfl (v := ?v5b) (by kernel_rfl) (by kernel_rfl) (by kernel_rfl) (fun _ _ _ h => h) (Or.inl ⟨by rfl, fun w hSw => ?hy5b⟩) (by assumption) ?rest5b
            case hy5b =>
              (try dsimp only at hSw)
              go_simp
              try with_reducible rfl
            try simp only [Act.put, List.setIfInBounds_toArray, List.set_cons_zero, List.set_cons_succ]
            refine takeL (i := 6) rfl (v := ?v6b) (by kernel_rfl) (by kernel_rfl) (by kernel_rfl) (fun _ _ _ h => h) (Or.inl ⟨by rfl, fun w hSw => ?hy6b⟩) (by assumption) ?rest6b
            case hy6b =>
              (try dsimp only at hSw)
              go_simp
              try with_reducible rfl
            try simp only [Act.put, List.setIfInBounds_toArray, List.set_cons_zero, List.set_cons_succ]
            refine takeL (i := 7) rfl (v := ?v7b) (by kernel_rfl) (by kernel_rfl) (by kernel_rfl) (fun _ _ _ h => h) (Or.inl ⟨by rfl, fun w hSw => ?hy7b⟩) (by assumption) ?rest7b
            case hy7b =>
              (try dsimp only at hSw)
              go_simp
              try with_reducible rfl
            try simp only [Act.put, List.setIfInBounds_toArray, List.set_cons_zero, List.set_cons_succ]
            refine takeL (i := 8) rfl (v := ?v8b) (by kernel_rfl) (by kernel_rfl) (by kernel_rfl) (fun _ _ _ h => h) (Or.inl ⟨by rfl, fun w hSw => ?hy8b⟩) (by assumption) ?rest8b
            case hy8b =>
              (try dsimp only at hSw)
              go_simp
              try with_reducible rfl
            try simp only [Act.put, List.setIfInBounds_toArray, List.set_cons_zero, List.set_cons_succ]
            refine takeL (i := 9) rfl (v := ?v9b) (by kernel_rfl) (by kernel_rfl) (by kernel_rfl) (fun _ _ _ h => h) (Or.inl ⟨by rfl, fun w hSw => ?hy9b⟩) (by assumption) ?rest9b
            case hy9b =>
              (try dsimp only at hSw)
              go_simp
              try with_reducible rfl
            try simp only [Act.put, List.setIfInBounds_toArray, List.set_cons_zero, List.set_cons_succ]
            refine takeL (i := 10) rfl (v := ?v10b) (by kernel_rfl) (by kernel_rfl) (by kernel_rfl) (fun _ _ _ h => h) (Or.inl ⟨by rfl, fun w hSw => ?hy10b⟩) (by assumption) ?rest10b
            case hy10b =>
              (try dsimp only at hSw)
              go_simp
              try with_reducible rfl
            try simp only [Act.put, List.setIfInBounds_toArray, List.set_cons_zero, List.set_cons_succ]
            refine takeL (i := 11) rfl (v := ?v11b) (by kernel_rfl) (by kernel_rfl) (by kernel_rfl) (fun _ _ _ h => h) (Or.inl ⟨by rfl, fun w hSw => ?hy11b⟩) (by assumption) ?rest11b
            case hy11b =>
              (try dsimp only at hSw)
              go_simp
              try with_reducible rfl
            try simp only [Act.put, List.setIfInBounds_toArray, List.set_cons_zero, List.set_cons_succ]
            refine takeL (i := 12) rfl (v := ?v12b) (by kernel_rfl) (by kernel_rfl) (by kernel_rfl) (fun _ _ _ h => h) (Or.inl ⟨by rfl, fun w hSw => ?hy12b⟩) (by assumption) ?rest12b
            case hy12b =>
              (try dsimp only at hSw)
              go_simp
              try with_reducible rfl
            try simp only [Act.put, List.setIfInBounds_toArray, List.set_cons_zero, List.set_cons_succ]
            refine takeL (i := 13) rfl (v := ?v13b) (by kernel_rfl) (by kernel_rfl) (by kernel_rfl) (fun _ _ _ h => h) (Or.inl ⟨by rfl, fun w hSw => ?hy13b⟩) (by assumption) ?rest13b
            case hy13b =>
              (try dsimp only at hSw)
              go_simp
              try with_reducible rfl
            try simp only [Act.put, List.setIfInBounds_toArray, List.set_cons_zero, List.set_cons_succ]
            refine takeL (i := 14) rfl (v := ?v14b) (by kernel_rfl) (by kernel_rfl) (by kernel_rfl) (fun _ _ _ h => h) (Or.inl ⟨by rfl, fun w hSw => ?hy14b⟩) (by assumption) ?rest14b
            case hy14b =>
              (try dsimp only at hSw)
              go_simp
              try with_reducible rfl
            try simp only [Act.put, List.setIfInBounds_toArray, List.set_cons_zero, List.set_cons_succ]
            refine takeL (i := 15) rfl (v := ?v15b) (by kernel_rfl) (by kernel_rfl) (by kernel_rfl) (fun _ _ _ h => h) (Or.inl ⟨by rfl, fun w hSw => ?hy15b⟩) (by assumption) ?rest15b
            case hy15b =>
              (try dsimp only at hSw)
              go_simp
              try with_reducible rfl
            try simp only [Act.put, List.setIfInBounds_toArray, List.set_cons_zero, List.set_cons_succ]
            refine takeL (i := 16) rfl (v := ?v16b) (by kernel_rfl) (by kernel_rfl) (by kernel_rfl) (fun _ _ _ h => h) (Or.inl ⟨by rfl, fun w hSw => ?hy16b⟩) (by assumption) ?rest16b
            case hy16b =>
              (try dsimp only at hSw)
              go_simp
              try with_reducible rfl
            try simp only [Act.put, List.setIfInBounds_toArray, List.set_cons_zero, List.set_cons_succ]
            refine takeL (i := 17) rfl (v := ?v17b) (by kernel_rfl) (by kernel_rfl) (by kernel_rfl) (fun _ _ _ h => h) (Or.inl ⟨by rfl, fun w hSw => ?hy17b⟩) (by assumption) ?rest17b
            case hy17b =>
              (try dsimp only at hSw)
              go_simp
              try with_reducible rfl
            try simp only [Act.put, List.setIfInBounds_toArray, List.set_cons_zero, List.set_cons_succ]
            refine takeL (i := 19) rfl (v := ?v19b) (by kernel_rfl) (by kernel_rfl) (by kernel_rfl) (fun _ _ _ h => h) (Or.inl ⟨by rfl, fun w hSw => ?hy19b⟩) (by assumption) ?rest19b
            case hy19b =>
              (try dsimp only at hSw)
              go_simp
              try with_reducible rfl
            try simp only [Act.put, List.setIfInBounds_toArray, List.set_cons_zero, List.set_cons_succ]
            refine wpAnyH_ready (rs := [18]) (by kernel_rfl) (by simp) (readyL rfl (fun K hK => ?_) AllReadyH.nil)
            go_simp
            with_reducible refine (K33.out _ ‹_›).mono ?_
            rintro e w' ⟨rfl, rfl⟩
            try dsimp only
            refine hK.out _ _ ‹_› (fun hHeld => ?_)
            clear hK K
            try simp only [Act.put, List.setIfInBounds_toArray, List.set_cons_zero, List.set_cons_succ]
            refine takeL (i := 20) rfl (v := ?v20b) (by kernel_rfl) (by kernel_rfl) (by kernel_rfl) (fun _ _ _ h => h) (Or.inl ⟨by rfl, fun w hSw => ?hy20b⟩) (by assumption) ?rest20b
            case hy20b =>
              (try dsimp only at hSw)
              go_simp
              try with_reducible rfl
            try simp only [Act.put, List.setIfInBounds_toArray, List.set_cons_zero, List.set_cons_succ]
            refine takeL (i := 21) rfl (v := ?v21b) (by kernel_rfl) (by kernel_rfl) (by kernel_rfl) (fun _ _ _ h => h) (Or.inl ⟨by rfl, fun w hSw => ?hy21b⟩) (by assumption) ?rest21b
            case hy21b =>
              (try dsimp only at hSw)
              go_simp
              try with_reducible rfl
            try simp only [Act.put, List.setIfInBounds_toArray, List.set_cons_zero, List.set_cons_succ]
            refine takeL (i := 22) rfl (v := ?v22b) (by kernel_rfl) (by kernel_rfl) (by kernel_rfl) (fun _ _ _ h => h) (Or.inl ⟨by rfl, fun w hSw => ?hy22b⟩) (by assumption) ?rest22b
            case hy22b =>
              (try dsimp only at hSw)
              go_simp
              try with_reducible rfl
            try simp only [Act.put, List.setIfInBounds_toArray, List.set_cons_zero, List.set_cons_succ]
            refine takeL (i := 23) rfl (v := ?v23b) (by kernel_rfl) (by kernel_rfl) (by kernel_rfl) (fun _ _ _ h => h) (Or.inl ⟨by rfl, fun w hSw => ?hy23b⟩) (by assumption) ?rest23b
            case hy23b =>
              (try dsimp only at hSw)
              go_simp
              try with_reducible rfl
            try simp only [Act.put, List.setIfInBounds_toArray, List.set_cons_zero, List.set_cons_succ]
            refine takeL (i := 24) rfl (v := ?v24b) (by kernel_rfl) (by kernel_rfl) (by kernel_rfl) (fun _ _ _ h => h) (Or.inl ⟨by rfl, fun w hSw => ?hy24b⟩) (by assumption) ?rest24b
            case hy24b =>
              (try dsimp only at hSw)
              go_simp
              try with_reducible rfl
            try simp only [Act.put, List.setIfInBounds_toArray, List.set_cons_zero, List.set_cons_succ]
            refine takeL (i := 25) rfl (v := ?v25b) (by kernel_rfl) (by kernel_rfl) (by kernel_rfl) (fun _ _ _ h => h) (Or.inl ⟨by rfl, fun w hSw => ?hy25b⟩) (by assumption) ?rest25b
            case hy25b =>
              (try dsimp only at hSw)
              go_simp
              try with_reducible rfl
            try simp only [Act.put, List.setIfInBounds_toArray, List.set_cons_zero, List.set_cons_succ]
            refine takeL (i := 27) rfl (v := ?v27b) (by kernel_rfl) (by kernel_rfl) (by kernel_rfl) (fun _ _ _ h => h) (Or.inl ⟨by rfl, fun w hSw => ?hy27b⟩) (by assumption) ?rest27b
            case hy27b =>
              (try dsimp only at hSw)
              go_simp
              try with_reducible rfl
            try simp only [Act.put, List.setIfInBounds_toArray, List.set_cons_zero, List.set_cons_succ]
            refine takeL (i := 28) rfl (v := ?v28b) (by kernel_rfl) (by kernel_rfl) (by kernel_rfl) (fun _ _ _ h => h) (Or.inl ⟨by rfl, fun w hSw => ?hy28b⟩) (by assumption) ?rest28b
            case hy28b =>
              (try dsimp only at hSw)
              go_simp
              try with_reducible rfl
            try simp only [Act.put, List.setIfInBounds_toArray, List.set_cons_zero, List.set_cons_succ]
            refine takeL (i := 29) rfl (v := ?v29b) (by kernel_rfl) (by kernel_rfl) (by kernel_rfl) (fun _ _ _ h => h) (Or.inl ⟨by rfl, fun w hSw => ?hy29b⟩) (by assumption) ?rest29b
            case hy29b =>
              (try dsimp only at hSw)
              go_simp
              try with_reducible rfl
            try simp only [Act.put, List.setIfInBounds_toArray, List.set_cons_zero, List.set_cons_succ]
            refine takeL (i := 30) rfl (v := ?v30b) (by kernel_rfl) (by kernel_rfl) (by kernel_rfl) (fun _ _ _ h => h) (Or.inl ⟨by rfl, fun w hSw => ?hy30b⟩) (by assumption) ?rest30b
            case hy30b =>
              (try dsimp only at hSw)
              go_simp
              try with_reducible rfl
            try simp only [Act.put, List.setIfInBounds_toArray, List.set_cons_zero, List.set_cons_succ]
            refine wpAnyH_ready (rs := [26]) (by kernel_rfl) (by simp) (readyL rfl (fun K hK => ?_) AllReadyH.nil)
            go_simp
            with_reducible refine (K34.out _ ‹_›).mono ?_
            rintro e w' ⟨rfl, hb⟩
            try dsimp only
            refine hK.out _ _ (stay ‹_› ‹_›) (fun hHeld => ?_)
            clear hK K
            try simp only [Act.put, List.setIfInBounds_toArray, List.set_cons_zero, List.set_cons_succ]
            refine wpAnyH_ready (rs := [31]) (by kernel_rfl) (by simp) (readyL rfl (fun K hK => ?_) AllReadyH.nil)
            go_simp
            with_reducible refine (K35.out _ ‹_›).mono ?_
            rintro e w' ⟨rfl, hb⟩
            try dsimp only
            refine hK.out _ _ (stay ‹_› ‹_›) (fun hHeld => ?_)
            clear hK K
            try simp only [Act.put, List.setIfInBounds_toArray, List.set_cons_zero, List.set_cons_succ]
            refine takeL (i := 32) rfl (v := ?v32b) (by kernel_rfl) (by kernel_rfl) (by kernel_rfl) (fun _ _ _ h => h) (Or.inl ⟨by rfl, fun w hSw => ?hy32b⟩) (by assumption) ?rest32b
            case hy32b =>
              (try dsimp only at hSw)
              go_simp
              try with_reducible rfl
            try simp only [Act.put, List.setIfInBounds_toArray, List.set_cons_zero, List.set_cons_succ]
            refine takeL (i := 33) rfl (v := ?v33b) (by kernel_rfl) (by kernel_rfl) (by kernel_rfl) (fun _ _ _ h => h) (Or.inl ⟨by rfl, fun w hSw => ?hy33b⟩) (by assumption) ?rest33b
            case hy33b =>
              (try dsimp only at hSw)
              go_simp
              try with_reducible rfl
            try simp only [Act.put, List.setIfInBounds_toArray, List.set_cons_zero, List.set_cons_succ]
            refine takeL (i := 34) rfl (v := ?v34b) (by kernel_rfl) (by kernel_rfl) (by kernel_rfl) (fun _ _ _ h => h) (Or.inl ⟨by rfl, fun w hSw => ?hy34b⟩) (by assumption) ?rest34b
            case hy34b =>
              (try dsimp only at hSw)
              go_simp
              try with_reducible rfl
            try simp only [Act.put, List.setIfInBounds_toArray, List.set_cons_zero, List.set_cons_succ]
            refine takeL (i := 35) rfl (v := ?v35b) (by kernel_rfl) (by kernel_rfl) (by kernel_rfl) (fun _ _ _ h => h) (Or.inl ⟨by rfl, fun w hSw => ?hy35b⟩) (by assumption) ?rest35b
            case hy35b =>
              (try dsimp only at hSw)
              go_simp
              try with_reducible rfl
            try simp only [Act.put, List.setIfInBounds_toArray, List.set_cons_zero, List.set_cons_succ]
            refine takeL (i := 36) rfl (v := ?v36b) (by kernel_rfl) (by kernel_rfl) (by kernel_rfl) (fun _ _ _ h => h) (Or.inl ⟨by rfl, fun w hSw => ?hy36b⟩) (by assumption) ?rest36b
            case hy36b =>
              (try dsimp only at hSw)
              go_simp
              try with_reducible rfl
            try simp only [Act.put, List.setIfInBounds_toArray, List.set_cons_zero, List.set_cons_succ]
            refine takeL (i := 37) rfl (v := ?v37b) (by kernel_rfl) (by kernel_rfl) (by kernel_rfl) (fun _ _ _ h => h) (Or.inl ⟨by rfl, fun w hSw => ?hy37b⟩) (by assumption) ?rest37b
            case hy37b =>
              (try dsimp only at hSw)
              go_simp
              try with_reducible rfl
            try simp only [Act.put, List.setIfInBounds_toArray, List.set_cons_zero, List.set_cons_succ]
            refine takeL (i := 39) rfl (v := ?v39b) (by kernel_rfl) (by kernel_rfl) (by kernel_rfl) (fun _ _ _ h => h) (Or.inl ⟨by rfl, fun w hSw => ?hy39b⟩) (by assumption) ?rest39b
            case hy39b =>
              (try dsimp only at hSw)
              go_simp
              try with_reducible rfl
            try simp only [Act.put, List.setIfInBounds_toArray, List.set_cons_zero, List.set_cons_succ]
            refine takeL (i := 40) rfl (v := ?v40b) (by kernel_rfl) (by kernel_rfl) (by kernel_rfl) (fun _ _ _ h => h) (Or.inl ⟨by rfl, fun w hSw => ?hy40b⟩) (by assumption) ?rest40b
            case hy40b =>
              (try dsimp only at hSw)
              go_simp
              try with_reducible rfl
            try simp only [Act.put, List.setIfInBounds_toArray, List.set_cons_zero, List.set_cons_succ]
            refine takeL (i := 41) rfl (v := ?v41b) (by kernel_rfl) (by kernel_rfl) (by kernel_rfl) (fun _ _ _ h => h) (Or.inl ⟨by rfl, fun w hSw => ?hy41b⟩) (by assumption) ?rest41b
            case hy41b =>
              (try dsimp only at hSw)
              go_simp
              try with_reducible rfl
            try simp only [Act.put, List.setIfInBounds_toArray, List.set_cons_zero, List.set_cons_succ]
            refine takeL (i := 42) rfl (v := ?v42b) (by kernel_rfl) (by kernel_rfl) (by kernel_rfl) (fun _ _ _ h => h) (Or.inl ⟨by rfl, fun w hSw => ?hy42b⟩) (by assumption) ?rest42b
            case hy42b =>
              (try dsimp only at hSw)
              go_simp
              try with_reducible rfl
            try simp only [Act.put, List.setIfInBounds_toArray, List.set_cons_zero, List.set_cons_succ]
            refine wpAnyH_ready (rs := [38]) (by kernel_rfl) (by simp) (readyL rfl (fun K hK => ?_) AllReadyH.nil)
            go_simp
            with_reducible refine (K36.out _ ‹_›).mono ?_
            rintro e w' ⟨rfl, hb⟩
            try dsimp only
            refine hK.out _ _ (stay ‹_› ‹_›) (fun hHeld => ?_)
            clear hK K
            try simp only [Act.put, List.setIfInBounds_toArray, List.set_cons_zero, List.set_cons_succ]
            refine wpAnyH_ready (rs := [43]) (by kernel_rfl) (by simp) (readyL rfl (fun K hK => ?_) AllReadyH.nil)
            go_simp
            with_reducible refine (K37.out _ ‹_›).mono ?_
            rintro e w' ⟨rfl, hb⟩
            try dsimp only
            refine hK.out _ _ (stay ‹_› ‹_›) (fun hHeld => ?_)
            clear hK K
            try simp only [Act.put, List.setIfInBounds_toArray, List.set_cons_zero, List.set_cons_succ]
            refine takeL (i := 44) rfl (v := ?v44b) (by kernel_rfl) (by kernel_rfl) (by kernel_rfl) (fun _ _ _ h => h) (Or.inl ⟨by rfl, fun w hSw => ?hy44b⟩) (by assumption) ?rest44b
            case hy44b =>
              (try dsimp only at hSw)
              go_simp
              try with_reducible rfl
            try simp only [Act.put, List.setIfInBounds_toArray, List.set_cons_zero, List.set_cons_succ]
            refine takeL (i := 45) rfl (v := ?v45b) (by kernel_rfl) (by kernel_rfl) (by kernel_rfl) (fun _ _ _ h => h) (Or.inl ⟨by rfl, fun w hSw => ?hy45b⟩) (by assumption) ?rest45b
            case hy45b =>
              (try dsimp only at hSw)
              go_simp
              try with_reducible rfl
            try simp only [Act.put, List.setIfInBounds_toArray, List.set_cons_zero, List.set_cons_succ]
            refine takeL (i := 46) rfl (v := ?v46b) (by kernel_rfl) (by kernel_rfl) (by kernel_rfl) (fun _ _ _ h => h) (Or.inl ⟨by rfl, fun w hSw => ?hy46b⟩) (by assumption) ?rest46b
            case hy46b =>
              (try dsimp only at hSw)
              go_simp
              try with_reducible rfl
            try simp only [Act.put, List.setIfInBounds_toArray, List.set_cons_zero, List.set_cons_succ]
            refine takeL (i := 47) rfl (v := ?v47b) (by kernel_rfl) (by kernel_rfl) (by kernel_rfl) (fun _ _ _ h => h) (Or.inl ⟨by rfl, fun w hSw => ?hy47b⟩) (by assumption) ?rest47b
            case hy47b =>
              (try dsimp only at hSw)
              go_simp
              try with_reducible rfl
            try simp only [Act.put, List.setIfInBounds_toArray, List.set_cons_zero, List.set_cons_succ]
            refine takeL (i := 48) rfl (v := ?v48b) (by kernel_rfl) (by kernel_rfl) (by kernel_rfl) (fun _ _ _ h => h) (Or.inl ⟨by rfl, fun w hSw => ?hy48b⟩) (by assumption) ?rest48b
            case hy48b =>
              (try dsimp only at hSw)
              go_simp
              try with_reducible rfl
            try simp only [Act.put, List.setIfInBounds_toArray, List.set_cons_zero, List.set_cons_succ]
            refine takeL (i := 50) rfl (v := ?v50b) (by kernel_rfl) (by kernel_rfl) (by kernel_rfl) (fun _ _ _ h => h) (Or.inl ⟨by rfl, fun w hSw => ?hy50b⟩) (by assumption) ?rest50b
            case hy50b =>
              (try dsimp only at hSw)
              go_simp
              try with_reducible rfl
            try simp only [Act.put, List.setIfInBounds_toArray, List.set_cons_zero, List.set_cons_succ]
            refine takeL (i := 51) rfl (v := ?v51b) (by kernel_rfl) (by kernel_rfl) (by kernel_rfl) (fun _ _ _ h => h) (Or.inl ⟨by rfl, fun w hSw => ?hy51b⟩) (by assumption) ?rest51b
            case hy51b =>
              (try dsimp only at hSw)
              go_simp
              try with_reducible rfl
            try simp only [Act.put, List.setIfInBounds_toArray, List.set_cons_zero, List.set_cons_succ]
            refine wpAnyH_ready (rs := [49]) (by kernel_rfl) (by simp) (readyL rfl (fun K hK => ?_) AllReadyH.nil)
            go_simp
            with_reducible refine (K38.out _ ‹_›).mono ?_
            rintro e w' ⟨rfl, hb⟩
            try dsimp only
            refine hK.out _ _ (stay ‹_› ‹_›) (fun hHeld => ?_)
            clear hK K
            try simp only [Act.put, List.setIfInBounds_toArray, List.set_cons_zero, List.set_cons_succ]
            refine wpAnyH_ready (rs := [52]) (by kernel_rfl) (by simp) (readyL rfl (fun K hK => ?_) AllReadyH.nil)
            go_simp
            with_reducible refine (K39.out _ ‹_›).mono ?_
            rintro e w' ⟨rfl, hb⟩
            try dsimp only
            refine hK.out _ _ (stay ‹_› ‹_›) (fun hHeld => ?_)
            clear hK K
            try simp only [Act.put, List.setIfInBounds_toArray, List.set_cons_zero, List.set_cons_succ]
            refine takeL (i := 53) rfl (v := ?v53b) (by kernel_rfl) (by kernel_rfl) (by kernel_rfl) (fun _ _ _ h => h) (Or.inl ⟨by rfl, fun w hSw => ?hy53b⟩) (by assumption) ?rest53b
            case hy53b =>
              (try dsimp only at hSw)
              go_simp
              try with_reducible rfl
            try simp only [Act.put, List.setIfInBounds_toArray, List.set_cons_zero, List.set_cons_succ]
            refine takeL (i := 54) rfl (v := ?v54b) (by kernel_rfl) (by kernel_rfl) (by kernel_rfl) (fun _ _ _ h => h) (Or.inl ⟨by rfl, fun w hSw => ?hy54b⟩) (by assumption) ?rest54b
            case hy54b =>
              (try dsimp only at hSw)
              go_simp
              try with_reducible rfl
            try simp only [Act.put, List.setIfInBounds_toArray, List.set_cons_zero, List.set_cons_succ]
            refine takeL (i := 55) rfl (v := ?v55b) (by kernel_rfl) (by kernel_rfl) (by kernel_rfl) (fun _ _ _ h => h) (Or.inl ⟨by rfl, fun w hSw => ?hy55b⟩) (by assumption) ?rest55b
            case hy55b =>
              (try dsimp only at hSw)
              go_simp
              try with_reducible rfl
            try simp only [Act.put, List.setIfInBounds_toArray, List.set_cons_zero, List.set_cons_succ]
            refine takeL (i := 56) rfl (v := ?v56b) (by kernel_rfl) (by kernel_rfl) (by kernel_rfl) (fun _ _ _ h => h) (Or.inl ⟨by rfl, fun w hSw => ?hy56b⟩) (by assumption) ?rest56b
            case hy56b =>
              (try dsimp only at hSw)
              go_simp
              try with_reducible rfl
            try simp only [Act.put, List.setIfInBounds_toArray, List.set_cons_zero, List.set_cons_succ]
            refine takeL (i := 57) rfl (v := ?v57b) (by kernel_rfl) (by kernel_rfl) (by kernel_rfl) (fun _ _ _ h => h) (Or.inl ⟨by rfl, fun w hSw => ?hy57b⟩) (by assumption) ?rest57b
            case hy57b =>
              (try dsimp only at hSw)
              go_simp
              try with_reducible rfl
            try simp only [Act.put, List.setIfInBounds_toArray, List.set_cons_zero, List.set_cons_succ]
            refine takeL (i := 59) rfl (v := ?v59b) (by kernel_rfl) (by kernel_rfl) (by kernel_rfl) (fun _ _ _ h => h) (Or.inl ⟨by rfl, fun w hSw => ?hy59b⟩) (by assumption) ?rest59b
            case hy59b =>
              (try dsimp only at hSw)
              go_simp
              try with_reducible rfl
            try simp only [Act.put, List.setIfInBounds_toArray, List.set_cons_zero, List.set_cons_succ]
            refine takeL (i := 60) rfl (v := ?v60b) (by kernel_rfl) (by kernel_rfl) (by kernel_rfl) (fun _ _ _ h => h) (Or.inl ⟨by rfl, fun w hSw => ?hy60b⟩) (by assumption) ?rest60b
            case hy60b =>
              (try dsimp only at hSw)
              go_simp
              try with_reducible rfl
            try simp only [Act.put, List.setIfInBounds_toArray, List.set_cons_zero, List.set_cons_succ]
            refine wpAnyH_ready (rs := [58]) (by kernel_rfl) (by simp) (readyL rfl (fun K hK => ?_) AllReadyH.nil)
            go_simp
            with_reducible refine (K41.out _ ‹_›).mono ?_
            rintro e w' ⟨u1, rfl, hS1, hb⟩
            try dsimp only
            refine hK.out _ _ (stay ‹_› ‹_›) (fun hHeld => ?_)
            clear hK K
            try simp only [Act.put, List.setIfInBounds_toArray, List.set_cons_zero, List.set_cons_succ]
            refine wpAnyH_ready (rs := [61]) (by kernel_rfl) (by simp) (readyL rfl (fun K hK => ?_) AllReadyH.nil)
            go_simp
            with_reducible refine (K42.out _ ‹_›).mono ?_
            rintro e w' ⟨u2, rfl, hS2, hb⟩
            have hS1 := SlAt.below hS1 hb
            try dsimp only
            refine hK.out _ _ (stay ‹_› ‹_›) (fun hHeld => ?_)
            clear hK K
            try simp only [Act.put, List.setIfInBounds_toArray, List.set_cons_zero, List.set_cons_succ]
            refine wpAnyH_ready (rs := [62]) (by kernel_rfl) (by simp) (readyL rfl (fun K hK => ?_) AllReadyH.nil)
            go_simp
            with_reducible refine (K40.out _ _ _ hS1 hS2).mono ?_
            rintro e w' ⟨rfl, hb⟩
            try dsimp only
            refine hK.out _ _ (stay ‹_› ‹_›) (fun hHeld => ?_)
            clear hK K
            try simp only [Act.put, List.setIfInBounds_toArray, List.set_cons_zero, List.set_cons_succ]
            refine takeL (i := 63) rfl (v := ?v63b) (by kernel_rfl) (by kernel_rfl) (by kernel_rfl) (fun _ _ _ h => h) (Or.inl ⟨by rfl, fun w hSw => ?hy63b⟩) (by assumption) ?rest63b
            case hy63b =>
              (try dsimp only at hSw)
              go_simp
              try with_reducible rfl
            try simp only [Act.put, List.setIfInBounds_toArray, List.set_cons_zero, List.set_cons_succ]
            refine takeL (i := 64) rfl (v := ?v64b) (by kernel_rfl) (by kernel_rfl) (by kernel_rfl) (fun _ _ _ h => h) (Or.inl ⟨by rfl, fun w hSw => ?hy64b⟩) (by assumption) ?rest64b
            case hy64b =>
              (try dsimp only at hSw)
              go_simp
              try with_reducible rfl
            try simp only [Act.put, List.setIfInBounds_toArray, List.set_cons_zero, List.set_cons_succ]
            refine wpAnyH_done (by kernel_rfl) ?_ _
            go_wp2
            go_ret
            exact ⟨by simp, stayEnd hbWW hbWW.size ‹_›⟩
  · obtain rfl := hn4 hc0
    clear hr5 hn4
    have hcb : (newC ls ps == 0) = false := by simpa using hc0
    generalize newC ls ps = c at hc0 hcb ⊢
    go_wp2
    go_ret
    exact ⟨by simp, HA.out.1⟩

set_option maxRecDepth 100000 in
theorem rosterTells_lifted (os : Os) (started : os.Started) (H : Type) (enc : TypeId × Value → H) :
    ReturnsInHanded {} Try.checked os 7 .any (Rows.rosterTellsSpec.pre6 enc Try.prog Try.f7 Rows.rosterTellsRow.domain false) (Rows.rosterTellsSpec.post enc Try.prog Try.f7 false true false false) := by
  refine law_lift started Try.func7 (by kernel_rfl) (by kernel_rfl) rfl (by kernel_rfl) ?_
    (ChangeSpec.witness6 (enc := enc) (C := Try.checked) false ⟨#[], #[.slice none 0 0, .slice none 0 0, .int .i64 0, .int .i64 0, (.agg #[.int .i64 (0), .int .u16 ((0 : Nat) : Int)])], []⟩ 8 (by kernel_rfl) (by kernel_rfl) (by kernel_rfl) (by kernel_rfl)) ?_
  · intro ds hd
    rw [Try.params7] at hd
    match ds, hd with
    | [d0, d1, d2, d3, d4], _ => rfl
  · intro W base args ds ps hval hA
    rw [Try.params7] at hA hval
    obtain ⟨v0, vs0, d0, ds0, p0, q0, hargs, rfl, rfl, h0, r0⟩ := trodAll_cons hA
    obtain ⟨v1, vs1, d1, ds1, p1, q1, rfl, rfl, rfl, h1, r1⟩ := trodAll_cons r0
    obtain ⟨v2, vs2, d2, ds2, p2, q2, rfl, rfl, rfl, h2, r2⟩ := trodAll_cons r1
    obtain ⟨v3, vs3, d3, ds3, p3, q3, rfl, rfl, rfl, h3, r3⟩ := trodAll_cons r2
    obtain ⟨v4, vs4, d4, ds4, p4, q4, rfl, rfl, rfl, h4, r4⟩ := trodAll_cons r3
    obtain ⟨rfl, rfl, rfl⟩ := trodAll_nil r4
    obtain rfl : args = #[v0, v1, v2, v3, v4] := by cases args; simp_all
    obtain ⟨s0, n0, k0, rfl⟩ := okWide_slice Try.underlying44 (hval 0 44 v0 rfl rfl)
    obtain ⟨s1, n1, k1, rfl⟩ := okWide_slice Try.underlying45 (hval 1 45 v1 rfl rfl)
    obtain ⟨ls, hL, ho, hml⟩ := open_structs (encA := encL) (ok := fun l : Lbl => l.2 < 65536) (k := 2) (by decide) (fun _ => rfl) Try.underlying44 (by kernel_rfl) (fun n cs y h => lbl_of h) rfl h0
    obtain ⟨ps, hP, hop, hmp⟩ := open_structs (encA := encP) (ok := fun p : Psn => p.2.2 < 65536) (k := 3) (by decide) (fun _ => rfl) Try.underlying45 (by kernel_rfl) (fun n cs y h => psn_of h) rfl h1
    obtain ⟨a2, rfl, _, _, w2⟩ := open_int Try.underlying3 (hval 2 3 v2 rfl rfl) h2
    obtain ⟨a3, rfl, _, _, w3⟩ := open_int Try.underlying3 (hval 3 3 v3 rfl rfl) h3
    obtain ⟨a, x, hx, rfl⟩ := open_L (hval 4 48 v4 rfl rfl) h4
    exact rosterTells_walk _ _ ls ps _ _ _ _ _ hL hP hml hmp ho hop hx

theorem rosterTells_holds : Rows.RosterTellsSaid :=
  OpenClaim.holds_of_wide 7 Try.f7 rfl rfl rfl rfl rfl rfl rfl ⟨rfl, rfl, rfl, rfl, rfl⟩ rfl rfl rfl rfl rfl (by kernel_rfl) Try.func7 (by kernel_rfl)
    (of_decide_eq_true (by kernel_rfl)) (by unfold Func.isWrapper; first | (rw [if_pos (by decide +kernel)]; kernel_rfl) | (rw [if_neg (by decide +kernel)]; exact ⟨rfl, rfl⟩))
    (fun os started H enc _ => rosterTells_lifted os started H enc)
end Go.Proofs.Ytpkmgdpnimecfaa

/- GateVotes: whatever votes are cast, in whatever order: who is for it, whether it may go, is the document's. Every input. -/
import Derived.Test.YtpkmgdpnimecfaaGatW
import Derived.Test.YtpkmgdpnimecfaaGat5
import Derived.Test.YtpkmgdpnimecfaaRosO
import Derived.Deep.DeepCutAuto
import Derived.Deep.Slices
import Derived.Deep.Fields
namespace Go.Proofs.Ytpkmgdpnimecfaa
open Go.ChangeShapes Go.WideShapes Go.ChangeAt Go.RowKit Go.Deep Go.Joins

/-- a copy onto a made row -/
theorem wpList_copyI {P : Program} {W : World} {ops : Array Oper} {rest : List Oper} {o : Oper} {a : Act} {Q : Exit → Act → World → Prop} (hgd : o.guard = none) (s x : Operand) (t : TypeId)
    (ho : o.op = .call { callee := .builtin .append, args := #[s, x], argTypes := #[t, t] }) (i : TypeInfo) (ht : P.underlying t = some (.slice 3)) (hi : P.info? 3 = some i)
    (hz : i.zero = some (.int .i64 0)) (hsize : i.size = 1) (hby : i.bytes = 8) (hs : a.eval s = .slice (some ⟨W.heap.size, 0, none⟩) 0 0) (v : Value) (xs : List Int) (hx : a.eval x = v)
    (hS : SlAt 1 encI W v xs) (hb : xs.length ≤ 1000000)
    (h : ∀ v' w', SlAt 1 encI w' v' xs → Below W.heap.size W w' → wpList P ops Q rest (a.put o.dst v') w') : wpList P ops Q (o :: rest) a (W.alloc (.cells #[] 3)) := by
  obtain ⟨p, c, rfl, ⟨_, hn⟩, hc⟩ := hS
  have hown : (W.alloc (.cells #[] 3)).ownsRow W.heap.size 3 1 (.slice (some ⟨W.heap.size, 0, none⟩) 0 0) 0 [] := World.ownsRow_made W #[] 0 (Nat.le_refl _) (Nat.zero_le _) (by simp)
  cases p with
  | none =>
    obtain ⟨rfl, rfl⟩ := hn rfl
    exact wpList_append_own_none hgd s x t ho W.heap.size 3 i 1 ht hi _ 0 [] hs hown hx (h _ _ (SlAt.of_owns (enc := encI) (fun _ => rfl) (by simpa [flat] using hown)) (below1 _ _))
  | some ad =>
    refine wpList_append_own _ hgd s x t ho W.heap.size 3 i (.int .i64 0) 1 8 ht hi hz hsize hby rfl (by decide) _ _ _ hs hown ad xs.length c (flat encI xs) hx (flat_length (enc := encI) (fun _ => rfl) xs) ?_ (by rw [flatI]; exact oneI xs) (by unfold maxLen; omega) (by omega) (by simp) ?_
    · intro j u hj
      have hl := flat_length (enc := encI) (k := 1) (fun _ => rfl) xs
      have hpos : 0 < xs.length := by
        have := (List.getElem?_eq_some_iff.1 hj).1
        omega
      obtain ⟨b, off, hp, hlt, hcell⟩ := hc hpos
      obtain rfl : ad = ⟨b, off, none⟩ := by simpa using hp
      rw [Go.WideShapes.add_plain, (below1 W _).cell (p := ⟨b, off + j, none⟩) hlt]
      exact SlAt.flat_cells (enc := encI) (by decide) (fun _ => rfl) hcell j u hj
    · intro v' w' h2 hg _
      refine h v' w' (SlAt.of_owns (enc := encI) (fun _ => rfl) (by simpa using h2)) ?_
      exact (below1 W _).grown hg (by simp) (by intro q hq; simp [Value.ownBlock] at hq; omega)

set_option maxRecDepth 100000 in
set_option maxHeartbeats 8000000 in
theorem gateVotes_walk (v : Value) (cs : List Cst) (need : Int) (w : World) (hS : SlAt 2 encC w v cs) (hml : cs.length ≤ maxLen) :
    Calls Try.prog 11 #[v, .int .i64 need] w fun e w' => e = .returned (.bool true) ∧ Below w.heap.size w w' := by
  have HS := Lib.hid hS
  obtain ⟨p, c, rfl, _, _⟩ := id hS
  obtain ⟨i0, hi, hz0, hz1, hz2⟩ := info_int
  have HI := Lib.hid hi
  have HZ := Lib.hid hz0
  clear hS hi hz0
  have hmm := @run_makeMap Try.prog
  go_enter Try.func11, Try.ntmps11
  go_wp2_with fail
  refine (awake12 _).mono ?_
  rintro e w1 ⟨rfl, hb1⟩
  have HB1 := Lib.hid hb1
  clear hb1
  cases t1 : decide ((100 : Int) < (cs.length : Int)) with
  | true =>
    go_wp2_with fail
    refine (awake12 _).mono ?_
    rintro e w2 ⟨rfl, hb2⟩
    go_wp2
    go_ret
    exact ⟨rfl, HB1.out.trans (hb2.mono HB1.out.size)⟩
  | false =>
    have hl100 : cs.length ≤ 100 := by simp at t1; omega
    clear t1
    go_upto_region 7 with fail
    have hva : VAt w ((w1.alloc (.cells #[.slice none 0 0, .bool false] 75)).alloc (.map #[] 0)) w1.heap.size (w1.heap.size + 1) (.slice none 0 0) false [] [] (.slice none 0 0) := by
      have hz := HB1.out.size
      have hm := MapIs.made (w1.alloc (.cells #[.slice none 0 0, .bool false] 75)) eI eB
      rw [show (w1.alloc (.cells #[.slice none 0 0, .bool false] 75)).heap.size = w1.heap.size + 1 by simp] at hm
      exact ⟨HB1.out.trans ((below2 _ _ _).mono hz), ⟨by simp; omega, by go_simp, by go_simp, SlAt.nil _ _ _⟩, ⟨by go_simp, by go_simp⟩, hm, hz, by omega, by omega, SlAt.nil _ _ _, fun k hk => by simp [Value.ownBlock] at hk⟩
    have HV := Lib.hid hva
    clear hva
    generalize ((w1.alloc (.cells #[.slice none 0 0, .bool false] 75)).alloc (.map #[] 0)) = W0 at HV ⊢
    generalize hb5 : w1.heap.size = b5 at HV ⊢
    generalize hbm : b5 + 1 = bm at HV ⊢
    clear hb5 hbm
    go_wp2
    go_loopw [6, 7, 28] (fun vy no i wr => ∃ (k : Nat) (v5 : Value) (no0 : Bool) (xs : List Int) (m : List (Int × Bool)), k ≤ cs.length ∧ i = .int .i64 k ∧ no = .bool no0 ∧ VAt w wr b5 bm v5 no0 xs m vy ∧ Inv m xs) (fun _ _ i _ => cs.length - (intOf i).toNat)
    case atStart => exact ⟨0, _, _, _, _, by omega, rfl, rfl, HV.out, Inv.nil⟩
    case round =>
      clear HV
      obtain ⟨k, v5, no0, xs, m, hk, rfl, rfl, hv, hinv⟩ := hrel
      have HV := Lib.hid hv
      have HINV := Lib.hid hinv
      clear hv hinv
      by_cases hlt : k < cs.length
      · have hltz : (k : Int) < (cs.length : Int) := by omega
        obtain ⟨p', c', hv, _, hc⟩ := HS.out.below HV.out.1
        simp only [Value.slice.injEq] at hv
        obtain ⟨rfl, _, rfl⟩ := hv
        obtain ⟨bk, off, rfl, hb, hcell⟩ := hc (by omega)
        have d0 : wr.cell? ⟨bk, off + k * 2, none⟩ = some (.int .i64 cs[k]!.1) := hcell k hlt 0 _ rfl
        have d1 : wr.cell? ⟨bk, off + k * 2 + 1, none⟩ = some (.bool cs[k]!.2) := hcell k hlt 1 _ rfl
        clear hcell hc
        generalize cs[k]!.1 = who at d0
        generalize cs[k]!.2 = yes at d1
        go_upto_region 10 with fail
        have B10 := Lib.hid (show wr.heap.size < (wr.alloc (.cells #[.int .i64 who, .bool yes] 77)).heap.size ∧ (wr.alloc (.cells #[.int .i64 who, .bool yes] 77)).cell? ⟨wr.heap.size, 0, none⟩ = some (.int .i64 who) ∧ (wr.alloc (.cells #[.int .i64 who, .bool yes] 77)).cell? ⟨wr.heap.size, 1, none⟩ = some (.bool yes) from ⟨by simp, by go_simp, by go_simp⟩)
        have HV := Lib.hid (HV.out.next (below1 _ (.cells #[.int .i64 who, .bool yes] 77)))
        clear d0 d1
        generalize wr.alloc (.cells #[.int .i64 who, .bool yes] 77) = W1 at B10 HV ⊢
        generalize wr.heap.size = b10 at B10 ⊢
        have hle := HINV.out.len
        have hnx := HINV.out.next who yes
        have HNX := Lib.hid hnx
        have hle2 := hnx.len
        obtain ⟨z5, f5, g5, s5⟩ := HV.out.2.1
        obtain ⟨z10, f10, g10⟩ := B10.out
        obtain ⟨pv, cv, rfl, _, _⟩ := id s5
        clear hnx
        have q := gateVote _ no0 xs who yes need W1 s5 (by omega)
        unfold VotePost at q
        have q2 := fun w3 v hv => ref12Vote v no0 xs who yes need w3 hv (by omega)
        unfold RefPost at q2
        generalize hys : voteL xs who yes = ys at q q2 HNX hle2
        generalize hn1 : (no0 || !yes) = no1 at q q2
        generalize hmy : (!no1 && decide (need ≤ (ys.length : Int))) = may at q q2
        have HYS := Lib.hid hys
        have HN1 := Lib.hid hn1
        have HMY := Lib.hid hmy
        have HQ2 := Lib.hid q2
        clear hys hn1 hmy q2
        go_wp2_with fail
        refine q.mono ?_
        rintro e w2 ⟨v', rfl, hS', hb', ho'⟩
        obtain ⟨p1, c1, rfl, _, _⟩ := id hS'
        have h5lt := z5
        have hq2 := Nat.lt_of_lt_of_le z10 hb'.size
        clear q f5 g5 s5 z5 z10 f10 g10
        go_upto_region 11 with fail
        have B10 := Lib.hid (show b10 < (w2.alloc (.cells #[.slice p1 ys.length c1, .bool no1] 75)).heap.size ∧ (w2.alloc (.cells #[.slice p1 ys.length c1, .bool no1] 75)).cell? ⟨b10, 0, none⟩ = some (.int .i64 who) ∧ (w2.alloc (.cells #[.slice p1 ys.length c1, .bool no1] 75)).cell? ⟨b10, 1, none⟩ = some (.bool yes) from
          have hbb := hb'.trans ((below1 w2 (.cells #[.slice p1 ys.length c1, .bool no1] 75)).mono hb'.size)
          ⟨Nat.lt_of_lt_of_le B10.out.1 hbb.size, (hbb.cell (p := ⟨b10, 0, none⟩) B10.out.1).trans B10.out.2.1, (hbb.cell (p := ⟨b10, 1, none⟩) B10.out.1).trans B10.out.2.2⟩)
        have B11 := Lib.hid (show Bx w2.heap.size (.slice p1 ys.length c1) no1 ys (w2.alloc (.cells #[.slice p1 ys.length c1, .bool no1] 75)) from Bx.mk w2 hS')
        have HV := Lib.hid ((HV.out.next hb').next (below1 _ (.cells #[.slice p1 ys.length c1, .bool no1] 75)))
        have HO' := Lib.hid (show ∀ k, (Value.slice p1 ys.length c1).ownBlock = some k → k ≠ b5 from fun k hk => by have := ho' k hk; omega)
        clear hS' hb' ho' hq2
        generalize w2.alloc (.cells #[.slice p1 ys.length c1, .bool no1] 75) = W2 at B10 B11 HV ⊢
        generalize w2.heap.size = b11 at B11 ⊢
        obtain ⟨z5, f5, g5, s5⟩ := HV.out.2.1
        have hs5 := Lib.hid s5
        clear s5
        go_wp2_with (at_builtin; refine wpList_copyI rfl _ _ 64 rfl i0 Try.underlying64 HI.out HZ.out hz1 hz2 rfl (.slice pv xs.length cv) xs rfl hs5.out (by omega) ?_)
        intro vc w3 hsc hb3
        obtain ⟨pc, cc, rfl, _, _⟩ := id hsc
        have HC := Lib.hid hsc
        have B10 := Lib.hid (show b10 < w3.heap.size ∧ w3.cell? ⟨b10, 0, none⟩ = some (.int .i64 who) ∧ w3.cell? ⟨b10, 1, none⟩ = some (.bool yes) from
          ⟨Nat.lt_of_lt_of_le B10.out.1 hb3.size, (hb3.cell (p := ⟨b10, 0, none⟩) B10.out.1).trans B10.out.2.1, (hb3.cell (p := ⟨b10, 1, none⟩) B10.out.1).trans B10.out.2.2⟩)
        have B11 := Lib.hid (B11.out.below hb3)
        have HV := Lib.hid (HV.out.next hb3)
        clear hsc hb3 z5 f5 g5 hs5
        obtain ⟨z10, f10, g10⟩ := B10.out
        obtain ⟨py, cy, rfl, _, _⟩ := id HV.out.2.2.2.2.2.2.2.1
        go_wp2_with fail
        have q := HQ2.out w3 _ HV.out.2.2.2.2.2.2.2.1
        refine q.mono ?_
        rintro e w4 ⟨vz, rfl, hSz, hb4, hoz⟩
        obtain ⟨pz, cz, rfl, _, _⟩ := id hSz
        have hr : RAt w w4 b5 b10 b11 bm (.slice pv xs.length cv) no0 xs m (.slice py xs.length cy) who yes (.slice p1 ys.length c1) no1 ys (.slice pz ys.length cz) := by
          refine ⟨HV.out.next hb4, ⟨Nat.lt_of_lt_of_le z10 hb4.size, (hb4.cell (p := ⟨b10, 0, none⟩) z10).trans f10, (hb4.cell (p := ⟨b10, 1, none⟩) z10).trans g10⟩, B11.out.below hb4, hSz, fun k hk => ?_⟩
          rcases hk with hk | hk
          · exact HO'.out k hk
          · have := hoz k hk
            have := HV.out.2.1.1
            omega
        have HR := Lib.hid hr
        have HC := Lib.hid (HC.out.below hb4)
        clear q hr hSz hb4 hoz z10 f10 g10 B10 B11 HV HO' h5lt
        obtain ⟨_, _, ⟨z11, f11, g11, s11⟩, sz, _⟩ := HR.out
        have q := same02 _ _ ys ys w4 s11 sz (by omega) (by omega)
        rw [show decide (ys = ys) = true by simp] at q
        have S11 := Lib.hid s11
        clear s11 sz
        go_wp2_with fail
        refine q.mono ?_
        rintro e w5 ⟨rfl, hb⟩
        have HR := Lib.hid (HR.out.next hb)
        have HC := Lib.hid (HC.out.below hb)
        clear q hb z11 f11 g11 S11
        obtain ⟨⟨_, ⟨z5, f5, g5, s5⟩, _⟩, _, ⟨z11, f11, g11, s11⟩, _, _⟩ := HR.out
        have q := same02 _ _ xs xs w5 s5 HC.out (by omega) (by omega)
        rw [show decide (xs = xs) = true by simp] at q
        clear s5 s11
        go_wp2_with fail
        refine q.mono ?_
        rintro e w6 ⟨rfl, hb⟩
        have HR := Lib.hid (HR.out.next hb)
        clear q hb z5 f5 g5 z11 f11 g11 HC
        obtain ⟨_, _, ⟨z11, f11, g11, s11⟩, _, _⟩ := HR.out
        have q := gateRight _ no1 ys w6 s11 (by omega)
        rw [HNX.out.right] at q
        clear s11
        go_wp2_with fail
        refine q.mono ?_
        rintro e w7 ⟨rfl, hb⟩
        have HR := Lib.hid (HR.out.next hb)
        clear q hb z11 f11 g11
        obtain ⟨_, ⟨z10, f10, g10⟩, _, _, _⟩ := HR.out
        go_upto_region 15 with fail
        go_cut [97] (fun s97 wx => s97 = .bool (yes && inR 12 who) ∧ wx = w7)
        case first =>
          cases yes with
          | false =>
            go_wp2_with fail
            go_meet
            case rel => exact ⟨rfl, rfl⟩
          | true =>
            cases u1 : decide ((0 : Int) ≤ who) with
            | false =>
              have hi' : inR 12 who = false := by simp [inR]; simp at u1; omega
              go_wp2_with fail
              go_meet
              case rel => exact ⟨by rw [hi']; rfl, rfl⟩
            | true =>
              cases u2 : decide (who < (12 : Int)) with
              | false =>
                have hi' : inR 12 who = false := by simp [inR]; simp at u1 u2; omega
                go_wp2_with fail
                go_meet
                case rel => exact ⟨by rw [hi']; rfl, rfl⟩
              | true =>
                have hi' : inR 12 who = true := by simp [inR]; simp at u1 u2; omega
                go_wp2_with fail
                go_meet
                case rel => exact ⟨by rw [hi']; rfl, rfl⟩
        case rest =>
          obtain ⟨rfl, rfl⟩ := hcut
          go_upto_if 97 with fail
          go_cut [100] (fun _ wx => RAt w wx b5 b10 b11 bm (.slice pv xs.length cv) no0 xs (mput' m who yes) (.slice py xs.length cy) who yes (.slice p1 ys.length c1) no1 ys (.slice pz ys.length cz))
          case first =>
            cases u1 : (yes && inR 12 who) with
            | false =>
              have hmp : mput' m who yes = m := by unfold mput'; rw [u1]; rfl
              go_wp2_with fail
              go_meet
              case rel => rw [hmp]; exact HR.out
            | true =>
              have hmp : mput' m who yes = mput m who true := by unfold mput'; rw [u1]; rfl
              go_wp2_with (at_mapUpdate; refine wpList_store rfl _ _ _ 28 rfl 3 4 keyIB Try.underlying28 bm m rfl HR.out.1.2.2.2.1 who rfl true rfl ?_; intro w8 hM8 hg8)
              go_meet
              case rel => rw [hmp]; exact HR.out.store hM8 hg8
          case rest =>
            have HR := Lib.hid hcut
            clear hcut z10 f10 g10
            go_upto_region 17 with fail
            go_cut [134] (fun s134 wx => s134 = .bool false ∧ RAt w wx b5 b10 b11 bm (.slice pv xs.length cv) no0 xs (mput' m who yes) (.slice py xs.length cy) who yes (.slice p1 ys.length c1) no1 ys (.slice pz ys.length cz))
            case first =>
              cases yes with
              | false =>
                obtain ⟨hva, ⟨z10, f10, g10⟩, ⟨z11, f11, g11, s11⟩, _, _⟩ := HR.out
                have HML := Lib.hid (fun (w' : World) (h : (∀ b o, b < wc.heap.size → w'.cell? ⟨b, o, none⟩ = wc.cell? ⟨b, o, none⟩) ∧ Below wc.heap.size wc w') (ty : TypeId) => (hva.2.2.2.1.below h.2 hva.2.2.2.1.lt).len Try.underlying28 ty)
                have HMK := Lib.hid (fun (w' : World) (h : (∀ b o, b < wc.heap.size → w'.cell? ⟨b, o, none⟩ = wc.cell? ⟨b, o, none⟩) ∧ Below wc.heap.size wc w') => (hva.2.2.2.1.below h.2 hva.2.2.2.1.lt).look keyIB Try.underlying28 false (zeroBB _) who)
                have K49 := Lib.hid (fun (w' : World) (h : (∀ b o, b < wc.heap.size → w'.cell? ⟨b, o, none⟩ = wc.cell? ⟨b, o, none⟩) ∧ Below wc.heap.size wc w') => gateHas who _ no1 ys w' (s11.below h.2) (by omega))
                rw [HNX.out.mem who] at K49
                rw [HNX.out.2.1] at HML
                generalize hhas : (mlook (mput' m who false) who).getD false = has at K49 HMK
                clear hhas s11 hva
                refine wp_region_held_drew (S := (fun w' => (∀ b o, b < (wc).heap.size → w'.cell? ⟨b, o, none⟩ = (wc).cell? ⟨b, o, none⟩) ∧ Below (wc).heap.size (wc) w')) (by kernel_rfl) (stay0 _) (fun hHeld => ?_)
                try dsimp only [List.size_toArray, List.length_cons, List.length_nil]
                refine takeL (i := 0) rfl (v := ?v0a) (by kernel_rfl) (by kernel_rfl) (by kernel_rfl) (fun _ _ _ h => h) (Or.inl ⟨by rfl, fun _w _hSw => ?hy0a⟩) (by assumption) ?rest0a
                case hy0a =>
                  (try dsimp only at _hSw)
                  go_simp
                  try with_reducible rfl
                try simp only [Act.put, List.setIfInBounds_toArray, List.set_cons_zero, List.set_cons_succ]
                refine takeL (i := 1) rfl (v := ?v1a) (by kernel_rfl) (by kernel_rfl) (by kernel_rfl) (fun _ _ _ h => h) (Or.inl ⟨by rfl, fun _w _hSw => ?hy1a⟩) (by assumption) ?rest1a
                case hy1a =>
                  (try dsimp only at _hSw)
                  go_simp
                  try with_reducible rfl
                try simp only [Act.put, List.setIfInBounds_toArray, List.set_cons_zero, List.set_cons_succ]
                refine takeL (i := 2) rfl (v := ?v2a) (by kernel_rfl) (by kernel_rfl) (by kernel_rfl) (fun _ _ _ h => h) (Or.inl ⟨by rfl, fun _w _hSw => ?hy2a⟩) (by assumption) ?rest2a
                case hy2a =>
                  (try dsimp only at _hSw)
                  go_simp
                  try with_reducible rfl
                try simp only [Act.put, List.setIfInBounds_toArray, List.set_cons_zero, List.set_cons_succ]
                refine takeL (i := 3) rfl (v := undef) (by kernel_rfl) (by kernel_rfl) (by kernel_rfl) (fun _ _ _ h => h) (Or.inr ⟨by rfl, rfl⟩) (by assumption) ?_
                try simp only [Act.put, List.setIfInBounds_toArray, List.set_cons_zero, List.set_cons_succ]
                refine takeL (i := 4) rfl (v := undef) (by kernel_rfl) (by kernel_rfl) (by kernel_rfl) (fun _ _ _ h => h) (Or.inr ⟨by rfl, rfl⟩) (by assumption) ?_
                try simp only [Act.put, List.setIfInBounds_toArray, List.set_cons_zero, List.set_cons_succ]
                refine takeL (i := 5) rfl (v := undef) (by kernel_rfl) (by kernel_rfl) (by kernel_rfl) (fun _ _ _ h => h) (Or.inr ⟨by rfl, rfl⟩) (by assumption) ?_
                try simp only [Act.put, List.setIfInBounds_toArray, List.set_cons_zero, List.set_cons_succ]
                refine takeL (i := 6) rfl (v := undef) (by kernel_rfl) (by kernel_rfl) (by kernel_rfl) (fun _ _ _ h => h) (Or.inr ⟨by rfl, rfl⟩) (by assumption) ?_
                try simp only [Act.put, List.setIfInBounds_toArray, List.set_cons_zero, List.set_cons_succ]
                refine takeL (i := 7) rfl (v := undef) (by kernel_rfl) (by kernel_rfl) (by kernel_rfl) (fun _ _ _ h => h) (Or.inr ⟨by rfl, rfl⟩) (by assumption) ?_
                try simp only [Act.put, List.setIfInBounds_toArray, List.set_cons_zero, List.set_cons_succ]
                refine takeL (i := 8) rfl (v := undef) (by kernel_rfl) (by kernel_rfl) (by kernel_rfl) (fun _ _ _ h => h) (Or.inr ⟨by rfl, rfl⟩) (by assumption) ?_
                try simp only [Act.put, List.setIfInBounds_toArray, List.set_cons_zero, List.set_cons_succ]
                refine takeL (i := 9) rfl (v := undef) (by kernel_rfl) (by kernel_rfl) (by kernel_rfl) (fun _ _ _ h => h) (Or.inr ⟨by rfl, rfl⟩) (by assumption) ?_
                try simp only [Act.put, List.setIfInBounds_toArray, List.set_cons_zero, List.set_cons_succ]
                refine takeL (i := 10) rfl (v := undef) (by kernel_rfl) (by kernel_rfl) (by kernel_rfl) (fun _ _ _ h => h) (Or.inr ⟨by rfl, rfl⟩) (by assumption) ?_
                try simp only [Act.put, List.setIfInBounds_toArray, List.set_cons_zero, List.set_cons_succ]
                refine takeL (i := 11) rfl (v := undef) (by kernel_rfl) (by kernel_rfl) (by kernel_rfl) (fun _ _ _ h => h) (Or.inr ⟨by rfl, rfl⟩) (by assumption) ?_
                try simp only [Act.put, List.setIfInBounds_toArray, List.set_cons_zero, List.set_cons_succ]
                refine takeL (i := 12) rfl (v := undef) (by kernel_rfl) (by kernel_rfl) (by kernel_rfl) (fun _ _ _ h => h) (Or.inr ⟨by rfl, rfl⟩) (by assumption) ?_
                try simp only [Act.put, List.setIfInBounds_toArray, List.set_cons_zero, List.set_cons_succ]
                refine takeL (i := 13) rfl (v := undef) (by kernel_rfl) (by kernel_rfl) (by kernel_rfl) (fun _ _ _ h => h) (Or.inr ⟨by rfl, rfl⟩) (by assumption) ?_
                try simp only [Act.put, List.setIfInBounds_toArray, List.set_cons_zero, List.set_cons_succ]
                refine takeL (i := 14) rfl (v := ?v14a) (by kernel_rfl) (by kernel_rfl) (by kernel_rfl) (fun _ _ _ h => h) (Or.inl ⟨by rfl, fun _w _hSw => ?hy14a⟩) (by assumption) ?rest14a
                case hy14a =>
                  (try dsimp only at _hSw)
                  go_simp
                  try with_reducible rfl
                try simp only [Act.put, List.setIfInBounds_toArray, List.set_cons_zero, List.set_cons_succ]
                refine takeL (i := 15) rfl (v := ?v15a) (by kernel_rfl) (by kernel_rfl) (by kernel_rfl) (fun _ _ _ h => h) (Or.inl ⟨by rfl, fun _w _hSw => ?hy15a⟩) (by assumption) ?rest15a
                case hy15a =>
                  (try dsimp only at _hSw)
                  go_simp
                  try with_reducible rfl
                try simp only [Act.put, List.setIfInBounds_toArray, List.set_cons_zero, List.set_cons_succ]
                refine takeL (i := 16) rfl (v := ?v16a) (by kernel_rfl) (by kernel_rfl) (by kernel_rfl) (fun _ _ _ h => h) (Or.inl ⟨by rfl, fun _w _hSw => ?hy16a⟩) (by assumption) ?rest16a
                case hy16a =>
                  (try dsimp only at _hSw)
                  go_simp
                  try with_reducible rfl
                try simp only [Act.put, List.setIfInBounds_toArray, List.set_cons_zero, List.set_cons_succ]
                refine takeL (i := 17) rfl (v := ?v17a) (by kernel_rfl) (by kernel_rfl) (by kernel_rfl) (fun _ _ _ h => h) (Or.inl ⟨by rfl, fun _w _hSw => ?hy17a⟩) (by assumption) ?rest17a
                case hy17a =>
                  (try dsimp only at _hSw)
                  go_simp
                  try with_reducible rfl
                try simp only [Act.put, List.setIfInBounds_toArray, List.set_cons_zero, List.set_cons_succ]
                refine takeL (i := 18) rfl (v := ?v18a) (by kernel_rfl) (by kernel_rfl) (by kernel_rfl) (fun _ _ _ h => h) (Or.inl ⟨by rfl, fun _w _hSw => ?hy18a⟩) (by assumption) ?rest18a
                case hy18a =>
                  (try dsimp only at _hSw)
                  go_simp
                  try with_reducible rfl
                try simp only [Act.put, List.setIfInBounds_toArray, List.set_cons_zero, List.set_cons_succ]
                refine takeL (i := 19) rfl (v := ?v19a) (by kernel_rfl) (by kernel_rfl) (by kernel_rfl) (fun _ _ _ h => h) (Or.inl ⟨by rfl, fun _w _hSw => ?hy19a⟩) (by assumption) ?rest19a
                case hy19a =>
                  (try dsimp only at _hSw)
                  go_simp
                  try with_reducible rfl
                try simp only [Act.put, List.setIfInBounds_toArray, List.set_cons_zero, List.set_cons_succ]
                refine takeL (i := 20) rfl (v := ?v20a) (by kernel_rfl) (by kernel_rfl) (by kernel_rfl) (fun _ _ _ h => h) (Or.inl ⟨by rfl, fun _w _hSw => ?hy20a⟩) (by assumption) ?rest20a
                case hy20a =>
                  (try dsimp only at _hSw)
                  go_simp
                  rw [HML.out _ _hSw 3]
                  rfl
                try simp only [Act.put, List.setIfInBounds_toArray, List.set_cons_zero, List.set_cons_succ]
                refine takeL (i := 21) rfl (v := ?v21a) (by kernel_rfl) (by kernel_rfl) (by kernel_rfl) (fun _ _ _ h => h) (Or.inl ⟨by rfl, fun _w _hSw => ?hy21a⟩) (by assumption) ?rest21a
                case hy21a =>
                  (try dsimp only at _hSw)
                  go_simp
                  try with_reducible rfl
                try simp only [Act.put, List.setIfInBounds_toArray, List.set_cons_zero, List.set_cons_succ]
                refine takeL (i := 22) rfl (v := ?v22a) (by kernel_rfl) (by kernel_rfl) (by kernel_rfl) (fun _ _ _ h => h) (Or.inl ⟨by rfl, fun _w _hSw => ?hy22a⟩) (by assumption) ?rest22a
                case hy22a =>
                  (try dsimp only at _hSw)
                  go_simp
                  try with_reducible rfl
                try simp only [Act.put, List.setIfInBounds_toArray, List.set_cons_zero, List.set_cons_succ]
                refine takeL (i := 23) rfl (v := ?v23a) (by kernel_rfl) (by kernel_rfl) (by kernel_rfl) (fun _ _ _ h => h) (Or.inl ⟨by rfl, fun _w _hSw => ?hy23a⟩) (by assumption) ?rest23a
                case hy23a =>
                  (try dsimp only at _hSw)
                  go_simp
                  try with_reducible rfl
                try simp only [Act.put, List.setIfInBounds_toArray, List.set_cons_zero, List.set_cons_succ]
                refine takeL (i := 24) rfl (v := ?v24a) (by kernel_rfl) (by kernel_rfl) (by kernel_rfl) (fun _ _ _ h => h) (Or.inl ⟨by rfl, fun _w _hSw => ?hy24a⟩) (by assumption) ?rest24a
                case hy24a =>
                  (try dsimp only at _hSw)
                  go_simp
                  try with_reducible rfl
                try simp only [Act.put, List.setIfInBounds_toArray, List.set_cons_zero, List.set_cons_succ]
                refine takeL (i := 25) rfl (v := ?v25a) (by kernel_rfl) (by kernel_rfl) (by kernel_rfl) (fun _ _ _ h => h) (Or.inl ⟨by rfl, fun _w _hSw => ?hy25a⟩) (by assumption) ?rest25a
                case hy25a =>
                  (try dsimp only at _hSw)
                  go_simp
                  try with_reducible rfl
                try simp only [Act.put, List.setIfInBounds_toArray, List.set_cons_zero, List.set_cons_succ]
                refine takeL (i := 26) rfl (v := ?v26a) (by kernel_rfl) (by kernel_rfl) (by kernel_rfl) (fun _ _ _ h => h) (Or.inl ⟨by rfl, fun _w _hSw => ?hy26a⟩) (by assumption) ?rest26a
                case hy26a =>
                  (try dsimp only at _hSw)
                  go_simp
                  try with_reducible rfl
                try simp only [Act.put, List.setIfInBounds_toArray, List.set_cons_zero, List.set_cons_succ]
                refine takeL (i := 28) rfl (v := ?v28a) (by kernel_rfl) (by kernel_rfl) (by kernel_rfl) (fun _ _ _ h => h) (Or.inl ⟨by rfl, fun _w _hSw => ?hy28a⟩) (by assumption) ?rest28a
                case hy28a =>
                  (try dsimp only at _hSw)
                  go_simp
                  try with_reducible rfl
                try simp only [Act.put, List.setIfInBounds_toArray, List.set_cons_zero, List.set_cons_succ]
                refine takeL (i := 29) rfl (v := ?v29a) (by kernel_rfl) (by kernel_rfl) (by kernel_rfl) (fun _ _ _ h => h) (Or.inl ⟨by rfl, fun _w _hSw => ?hy29a⟩) (by assumption) ?rest29a
                case hy29a =>
                  (try dsimp only at _hSw)
                  go_simp
                  try with_reducible rfl
                try simp only [Act.put, List.setIfInBounds_toArray, List.set_cons_zero, List.set_cons_succ]
                refine takeL (i := 30) rfl (v := ?v30a) (by kernel_rfl) (by kernel_rfl) (by kernel_rfl) (fun _ _ _ h => h) (Or.inl ⟨by rfl, fun _w _hSw => ?hy30a⟩) (by assumption) ?rest30a
                case hy30a =>
                  (try dsimp only at _hSw)
                  go_simp
                  try with_reducible rfl
                try simp only [Act.put, List.setIfInBounds_toArray, List.set_cons_zero, List.set_cons_succ]
                refine takeL (i := 31) rfl (v := ?v31a) (by kernel_rfl) (by kernel_rfl) (by kernel_rfl) (fun _ _ _ h => h) (Or.inl ⟨by rfl, fun _w _hSw => ?hy31a⟩) (by assumption) ?rest31a
                case hy31a =>
                  (try dsimp only at _hSw)
                  go_simp
                  rw [HMK.out _ _hSw]
                  rfl
                try simp only [Act.put, List.setIfInBounds_toArray, List.set_cons_zero, List.set_cons_succ]
                refine wpAnyH_ready (rs := [27]) (by kernel_rfl) (by simp) (readyL rfl (fun K hK => ?_) AllReadyH.nil)
                go_simp
                with_reducible refine (K49.out _ ‹_›).mono ?_
                rintro e w' ⟨rfl, hb⟩
                try dsimp only
                refine hK.out _ _ (stay ‹_› ‹_›) (fun hHeld => ?_)
                clear hK K
                try simp only [Act.put, List.setIfInBounds_toArray, List.set_cons_zero, List.set_cons_succ]
                refine takeL (i := 32) rfl (v := ?v32a) (by kernel_rfl) (by kernel_rfl) (by kernel_rfl) (fun _ _ _ h => h) (Or.inl ⟨by rfl, fun _w _hSw => ?hy32a⟩) (by assumption) ?rest32a
                case hy32a =>
                  (try dsimp only at _hSw)
                  go_simp
                  try with_reducible rfl
                try simp only [Act.put, List.setIfInBounds_toArray, List.set_cons_zero, List.set_cons_succ]
                refine takeL (i := 33) rfl (v := ?v33a) (by kernel_rfl) (by kernel_rfl) (by kernel_rfl) (fun _ _ _ h => h) (Or.inl ⟨by rfl, fun _w _hSw => ?hy33a⟩) (by assumption) ?rest33a
                case hy33a =>
                  (try dsimp only at _hSw)
                  go_simp
                  try with_reducible rfl
                try simp only [Act.put, List.setIfInBounds_toArray, List.set_cons_zero, List.set_cons_succ]
                refine wpAnyH_done (by kernel_rfl) ?_ _
                go_wp2_with fail
                go_meet
                case rel => exact ⟨by simp, HR.out.next (show _ ∧ Below _ _ _ from ‹_›).2⟩
              | true =>
                cases no1 with
                | false =>
                  have hmy2 : may = decide (need ≤ (ys.length : Int)) := by rw [← HMY.out]; rfl
                  subst hmy2
                  obtain ⟨hva, ⟨z10, f10, g10⟩, ⟨z11, f11, g11, s11⟩, _, _⟩ := HR.out
                  have HML := Lib.hid (fun (w' : World) (h : (∀ b o, b < wc.heap.size → w'.cell? ⟨b, o, none⟩ = wc.cell? ⟨b, o, none⟩) ∧ Below wc.heap.size wc w') (ty : TypeId) => (hva.2.2.2.1.below h.2 hva.2.2.2.1.lt).len Try.underlying28 ty)
                  have HMK := Lib.hid (fun (w' : World) (h : (∀ b o, b < wc.heap.size → w'.cell? ⟨b, o, none⟩ = wc.cell? ⟨b, o, none⟩) ∧ Below wc.heap.size wc w') => (hva.2.2.2.1.below h.2 hva.2.2.2.1.lt).look keyIB Try.underlying28 false (zeroBB _) who)
                  have K49 := Lib.hid (fun (w' : World) (h : (∀ b o, b < wc.heap.size → w'.cell? ⟨b, o, none⟩ = wc.cell? ⟨b, o, none⟩) ∧ Below wc.heap.size wc w') => gateHas who _ false ys w' (s11.below h.2) (by omega))
                  rw [HNX.out.mem who] at K49
                  rw [HNX.out.2.1] at HML
                  generalize hhas : (mlook (mput' m who true) who).getD false = has at K49 HMK
                  clear hhas s11 hva
                  refine wp_region_held_drew (S := (fun w' => (∀ b o, b < (wc).heap.size → w'.cell? ⟨b, o, none⟩ = (wc).cell? ⟨b, o, none⟩) ∧ Below (wc).heap.size (wc) w')) (by kernel_rfl) (stay0 _) (fun hHeld => ?_)
                  try dsimp only [List.size_toArray, List.length_cons, List.length_nil]
                  refine takeL (i := 0) rfl (v := ?v0b) (by kernel_rfl) (by kernel_rfl) (by kernel_rfl) (fun _ _ _ h => h) (Or.inl ⟨by rfl, fun _w _hSw => ?hy0b⟩) (by assumption) ?rest0b
                  case hy0b =>
                    (try dsimp only at _hSw)
                    go_simp
                    try with_reducible rfl
                  try simp only [Act.put, List.setIfInBounds_toArray, List.set_cons_zero, List.set_cons_succ]
                  refine takeL (i := 1) rfl (v := ?v1b) (by kernel_rfl) (by kernel_rfl) (by kernel_rfl) (fun _ _ _ h => h) (Or.inl ⟨by rfl, fun _w _hSw => ?hy1b⟩) (by assumption) ?rest1b
                  case hy1b =>
                    (try dsimp only at _hSw)
                    go_simp
                    try with_reducible rfl
                  try simp only [Act.put, List.setIfInBounds_toArray, List.set_cons_zero, List.set_cons_succ]
                  refine takeL (i := 2) rfl (v := ?v2b) (by kernel_rfl) (by kernel_rfl) (by kernel_rfl) (fun _ _ _ h => h) (Or.inl ⟨by rfl, fun _w _hSw => ?hy2b⟩) (by assumption) ?rest2b
                  case hy2b =>
                    (try dsimp only at _hSw)
                    go_simp
                    try with_reducible rfl
                  try simp only [Act.put, List.setIfInBounds_toArray, List.set_cons_zero, List.set_cons_succ]
                  refine takeL (i := 3) rfl (v := ?v3b) (by kernel_rfl) (by kernel_rfl) (by kernel_rfl) (fun _ _ _ h => h) (Or.inl ⟨by rfl, fun _w _hSw => ?hy3b⟩) (by assumption) ?rest3b
                  case hy3b =>
                    (try dsimp only at _hSw)
                    go_simp
                    try with_reducible rfl
                  try simp only [Act.put, List.setIfInBounds_toArray, List.set_cons_zero, List.set_cons_succ]
                  refine takeL (i := 4) rfl (v := ?v4b) (by kernel_rfl) (by kernel_rfl) (by kernel_rfl) (fun _ _ _ h => h) (Or.inl ⟨by rfl, fun _w _hSw => ?hy4b⟩) (by assumption) ?rest4b
                  case hy4b =>
                    (try dsimp only at _hSw)
                    go_simp
                    try with_reducible rfl
                  try simp only [Act.put, List.setIfInBounds_toArray, List.set_cons_zero, List.set_cons_succ]
                  refine takeL (i := 5) rfl (v := ?v5b) (by kernel_rfl) (by kernel_rfl) (by kernel_rfl) (fun _ _ _ h => h) (Or.inl ⟨by rfl, fun _w _hSw => ?hy5b⟩) (by assumption) ?rest5b
                  case hy5b =>
                    (try dsimp only at _hSw)
                    go_simp
                    try with_reducible rfl
                  try simp only [Act.put, List.setIfInBounds_toArray, List.set_cons_zero, List.set_cons_succ]
                  refine takeL (i := 6) rfl (v := ?v6b) (by kernel_rfl) (by kernel_rfl) (by kernel_rfl) (fun _ _ _ h => h) (Or.inl ⟨by rfl, fun _w _hSw => ?hy6b⟩) (by assumption) ?rest6b
                  case hy6b =>
                    (try dsimp only at _hSw)
                    go_simp
                    try with_reducible rfl
                  try simp only [Act.put, List.setIfInBounds_toArray, List.set_cons_zero, List.set_cons_succ]
                  refine takeL (i := 7) rfl (v := ?v7b) (by kernel_rfl) (by kernel_rfl) (by kernel_rfl) (fun _ _ _ h => h) (Or.inl ⟨by rfl, fun _w _hSw => ?hy7b⟩) (by assumption) ?rest7b
                  case hy7b =>
                    (try dsimp only at _hSw)
                    go_simp
                    try with_reducible rfl
                  try simp only [Act.put, List.setIfInBounds_toArray, List.set_cons_zero, List.set_cons_succ]
                  refine takeL (i := 8) rfl (v := ?v8b) (by kernel_rfl) (by kernel_rfl) (by kernel_rfl) (fun _ _ _ h => h) (Or.inl ⟨by rfl, fun _w _hSw => ?hy8b⟩) (by assumption) ?rest8b
                  case hy8b =>
                    (try dsimp only at _hSw)
                    go_simp
                    try with_reducible rfl
                  try simp only [Act.put, List.setIfInBounds_toArray, List.set_cons_zero, List.set_cons_succ]
                  refine takeL (i := 9) rfl (v := ?v9b) (by kernel_rfl) (by kernel_rfl) (by kernel_rfl) (fun _ _ _ h => h) (Or.inl ⟨by rfl, fun _w _hSw => ?hy9b⟩) (by assumption) ?rest9b
                  case hy9b =>
                    (try dsimp only at _hSw)
                    go_simp
                    rw [HML.out _ _hSw 3]
                    rfl
                  try simp only [Act.put, List.setIfInBounds_toArray, List.set_cons_zero, List.set_cons_succ]
                  refine takeL (i := 10) rfl (v := ?v10b) (by kernel_rfl) (by kernel_rfl) (by kernel_rfl) (fun _ _ _ h => h) (Or.inl ⟨by rfl, fun _w _hSw => ?hy10b⟩) (by assumption) ?rest10b
                  case hy10b =>
                    (try dsimp only at _hSw)
                    go_simp
                    try with_reducible rfl
                  try simp only [Act.put, List.setIfInBounds_toArray, List.set_cons_zero, List.set_cons_succ]
                  refine takeL (i := 11) rfl (v := ?v11b) (by kernel_rfl) (by kernel_rfl) (by kernel_rfl) (fun _ _ _ h => h) (Or.inl ⟨by rfl, fun _w _hSw => ?hy11b⟩) (by assumption) ?rest11b
                  case hy11b =>
                    (try dsimp only at _hSw)
                    go_simp
                    try with_reducible rfl
                  try simp only [Act.put, List.setIfInBounds_toArray, List.set_cons_zero, List.set_cons_succ]
                  refine takeL (i := 12) rfl (v := ?v12b) (by kernel_rfl) (by kernel_rfl) (by kernel_rfl) (fun _ _ _ h => h) (Or.inl ⟨by rfl, fun _w _hSw => ?hy12b⟩) (by assumption) ?rest12b
                  case hy12b =>
                    (try dsimp only at _hSw)
                    go_simp
                    try with_reducible rfl
                  try simp only [Act.put, List.setIfInBounds_toArray, List.set_cons_zero, List.set_cons_succ]
                  refine takeL (i := 13) rfl (v := ?v13b) (by kernel_rfl) (by kernel_rfl) (by kernel_rfl) (fun _ _ _ h => h) (Or.inl ⟨by rfl, fun _w _hSw => ?hy13b⟩) (by assumption) ?rest13b
                  case hy13b =>
                    (try dsimp only at _hSw)
                    go_simp
                    try with_reducible rfl
                  try simp only [Act.put, List.setIfInBounds_toArray, List.set_cons_zero, List.set_cons_succ]
                  refine takeL (i := 14) rfl (v := ?v14b) (by kernel_rfl) (by kernel_rfl) (by kernel_rfl) (fun _ _ _ h => h) (Or.inl ⟨by rfl, fun _w _hSw => ?hy14b⟩) (by assumption) ?rest14b
                  case hy14b =>
                    (try dsimp only at _hSw)
                    go_simp
                    try with_reducible rfl
                  try simp only [Act.put, List.setIfInBounds_toArray, List.set_cons_zero, List.set_cons_succ]
                  refine takeL (i := 15) rfl (v := ?v15b) (by kernel_rfl) (by kernel_rfl) (by kernel_rfl) (fun _ _ _ h => h) (Or.inl ⟨by rfl, fun _w _hSw => ?hy15b⟩) (by assumption) ?rest15b
                  case hy15b =>
                    (try dsimp only at _hSw)
                    go_simp
                    try with_reducible rfl
                  try simp only [Act.put, List.setIfInBounds_toArray, List.set_cons_zero, List.set_cons_succ]
                  refine takeL (i := 16) rfl (v := ?v16b) (by kernel_rfl) (by kernel_rfl) (by kernel_rfl) (fun _ _ _ h => h) (Or.inl ⟨by rfl, fun _w _hSw => ?hy16b⟩) (by assumption) ?rest16b
                  case hy16b =>
                    (try dsimp only at _hSw)
                    go_simp
                    try with_reducible rfl
                  try simp only [Act.put, List.setIfInBounds_toArray, List.set_cons_zero, List.set_cons_succ]
                  refine takeL (i := 17) rfl (v := ?v17b) (by kernel_rfl) (by kernel_rfl) (by kernel_rfl) (fun _ _ _ h => h) (Or.inl ⟨by rfl, fun _w _hSw => ?hy17b⟩) (by assumption) ?rest17b
                  case hy17b =>
                    (try dsimp only at _hSw)
                    go_simp
                    try with_reducible rfl
                  try simp only [Act.put, List.setIfInBounds_toArray, List.set_cons_zero, List.set_cons_succ]
                  refine takeL (i := 18) rfl (v := ?v18b) (by kernel_rfl) (by kernel_rfl) (by kernel_rfl) (fun _ _ _ h => h) (Or.inl ⟨by rfl, fun _w _hSw => ?hy18b⟩) (by assumption) ?rest18b
                  case hy18b =>
                    (try dsimp only at _hSw)
                    go_simp
                    try with_reducible rfl
                  try simp only [Act.put, List.setIfInBounds_toArray, List.set_cons_zero, List.set_cons_succ]
                  refine takeL (i := 19) rfl (v := ?v19b) (by kernel_rfl) (by kernel_rfl) (by kernel_rfl) (fun _ _ _ h => h) (Or.inl ⟨by rfl, fun _w _hSw => ?hy19b⟩) (by assumption) ?rest19b
                  case hy19b =>
                    (try dsimp only at _hSw)
                    go_simp
                    try with_reducible rfl
                  try simp only [Act.put, List.setIfInBounds_toArray, List.set_cons_zero, List.set_cons_succ]
                  refine takeL (i := 20) rfl (v := ?v20b) (by kernel_rfl) (by kernel_rfl) (by kernel_rfl) (fun _ _ _ h => h) (Or.inl ⟨by rfl, fun _w _hSw => ?hy20b⟩) (by assumption) ?rest20b
                  case hy20b =>
                    (try dsimp only at _hSw)
                    go_simp
                    rw [HML.out _ _hSw 3]
                    rfl
                  try simp only [Act.put, List.setIfInBounds_toArray, List.set_cons_zero, List.set_cons_succ]
                  refine takeL (i := 21) rfl (v := ?v21b) (by kernel_rfl) (by kernel_rfl) (by kernel_rfl) (fun _ _ _ h => h) (Or.inl ⟨by rfl, fun _w _hSw => ?hy21b⟩) (by assumption) ?rest21b
                  case hy21b =>
                    (try dsimp only at _hSw)
                    go_simp
                    try with_reducible rfl
                  try simp only [Act.put, List.setIfInBounds_toArray, List.set_cons_zero, List.set_cons_succ]
                  refine takeL (i := 22) rfl (v := ?v22b) (by kernel_rfl) (by kernel_rfl) (by kernel_rfl) (fun _ _ _ h => h) (Or.inl ⟨by rfl, fun _w _hSw => ?hy22b⟩) (by assumption) ?rest22b
                  case hy22b =>
                    (try dsimp only at _hSw)
                    go_simp
                    try with_reducible rfl
                  try simp only [Act.put, List.setIfInBounds_toArray, List.set_cons_zero, List.set_cons_succ]
                  refine takeL (i := 23) rfl (v := ?v23b) (by kernel_rfl) (by kernel_rfl) (by kernel_rfl) (fun _ _ _ h => h) (Or.inl ⟨by rfl, fun _w _hSw => ?hy23b⟩) (by assumption) ?rest23b
                  case hy23b =>
                    (try dsimp only at _hSw)
                    go_simp
                    try with_reducible rfl
                  try simp only [Act.put, List.setIfInBounds_toArray, List.set_cons_zero, List.set_cons_succ]
                  refine takeL (i := 24) rfl (v := ?v24b) (by kernel_rfl) (by kernel_rfl) (by kernel_rfl) (fun _ _ _ h => h) (Or.inl ⟨by rfl, fun _w _hSw => ?hy24b⟩) (by assumption) ?rest24b
                  case hy24b =>
                    (try dsimp only at _hSw)
                    go_simp
                    try with_reducible rfl
                  try simp only [Act.put, List.setIfInBounds_toArray, List.set_cons_zero, List.set_cons_succ]
                  refine takeL (i := 25) rfl (v := ?v25b) (by kernel_rfl) (by kernel_rfl) (by kernel_rfl) (fun _ _ _ h => h) (Or.inl ⟨by rfl, fun _w _hSw => ?hy25b⟩) (by assumption) ?rest25b
                  case hy25b =>
                    (try dsimp only at _hSw)
                    go_simp
                    try with_reducible rfl
                  try simp only [Act.put, List.setIfInBounds_toArray, List.set_cons_zero, List.set_cons_succ]
                  refine takeL (i := 26) rfl (v := ?v26b) (by kernel_rfl) (by kernel_rfl) (by kernel_rfl) (fun _ _ _ h => h) (Or.inl ⟨by rfl, fun _w _hSw => ?hy26b⟩) (by assumption) ?rest26b
                  case hy26b =>
                    (try dsimp only at _hSw)
                    go_simp
                    try with_reducible rfl
                  try simp only [Act.put, List.setIfInBounds_toArray, List.set_cons_zero, List.set_cons_succ]
                  refine takeL (i := 28) rfl (v := ?v28b) (by kernel_rfl) (by kernel_rfl) (by kernel_rfl) (fun _ _ _ h => h) (Or.inl ⟨by rfl, fun _w _hSw => ?hy28b⟩) (by assumption) ?rest28b
                  case hy28b =>
                    (try dsimp only at _hSw)
                    go_simp
                    try with_reducible rfl
                  try simp only [Act.put, List.setIfInBounds_toArray, List.set_cons_zero, List.set_cons_succ]
                  refine takeL (i := 29) rfl (v := ?v29b) (by kernel_rfl) (by kernel_rfl) (by kernel_rfl) (fun _ _ _ h => h) (Or.inl ⟨by rfl, fun _w _hSw => ?hy29b⟩) (by assumption) ?rest29b
                  case hy29b =>
                    (try dsimp only at _hSw)
                    go_simp
                    try with_reducible rfl
                  try simp only [Act.put, List.setIfInBounds_toArray, List.set_cons_zero, List.set_cons_succ]
                  refine takeL (i := 30) rfl (v := ?v30b) (by kernel_rfl) (by kernel_rfl) (by kernel_rfl) (fun _ _ _ h => h) (Or.inl ⟨by rfl, fun _w _hSw => ?hy30b⟩) (by assumption) ?rest30b
                  case hy30b =>
                    (try dsimp only at _hSw)
                    go_simp
                    try with_reducible rfl
                  try simp only [Act.put, List.setIfInBounds_toArray, List.set_cons_zero, List.set_cons_succ]
                  refine takeL (i := 31) rfl (v := ?v31b) (by kernel_rfl) (by kernel_rfl) (by kernel_rfl) (fun _ _ _ h => h) (Or.inl ⟨by rfl, fun _w _hSw => ?hy31b⟩) (by assumption) ?rest31b
                  case hy31b =>
                    (try dsimp only at _hSw)
                    go_simp
                    rw [HMK.out _ _hSw]
                    rfl
                  try simp only [Act.put, List.setIfInBounds_toArray, List.set_cons_zero, List.set_cons_succ]
                  refine wpAnyH_ready (rs := [27]) (by kernel_rfl) (by simp) (readyL rfl (fun K hK => ?_) AllReadyH.nil)
                  go_simp
                  with_reducible refine (K49.out _ ‹_›).mono ?_
                  rintro e w' ⟨rfl, hb⟩
                  try dsimp only
                  refine hK.out _ _ (stay ‹_› ‹_›) (fun hHeld => ?_)
                  clear hK K
                  try simp only [Act.put, List.setIfInBounds_toArray, List.set_cons_zero, List.set_cons_succ]
                  refine takeL (i := 32) rfl (v := ?v32b) (by kernel_rfl) (by kernel_rfl) (by kernel_rfl) (fun _ _ _ h => h) (Or.inl ⟨by rfl, fun _w _hSw => ?hy32b⟩) (by assumption) ?rest32b
                  case hy32b =>
                    (try dsimp only at _hSw)
                    go_simp
                    try with_reducible rfl
                  try simp only [Act.put, List.setIfInBounds_toArray, List.set_cons_zero, List.set_cons_succ]
                  refine takeL (i := 33) rfl (v := ?v33b) (by kernel_rfl) (by kernel_rfl) (by kernel_rfl) (fun _ _ _ h => h) (Or.inl ⟨by rfl, fun _w _hSw => ?hy33b⟩) (by assumption) ?rest33b
                  case hy33b =>
                    (try dsimp only at _hSw)
                    go_simp
                    try with_reducible rfl
                  try simp only [Act.put, List.setIfInBounds_toArray, List.set_cons_zero, List.set_cons_succ]
                  refine wpAnyH_done (by kernel_rfl) ?_ _
                  go_wp2_with fail
                  go_meet
                  case rel => exact ⟨by simp, HR.out.next (show _ ∧ Below _ _ _ from ‹_›).2⟩
                | true =>
                  obtain rfl : false = may := HMY.out
                  obtain ⟨hva, ⟨z10, f10, g10⟩, ⟨z11, f11, g11, s11⟩, _, _⟩ := HR.out
                  have HML := Lib.hid (fun (w' : World) (h : (∀ b o, b < wc.heap.size → w'.cell? ⟨b, o, none⟩ = wc.cell? ⟨b, o, none⟩) ∧ Below wc.heap.size wc w') (ty : TypeId) => (hva.2.2.2.1.below h.2 hva.2.2.2.1.lt).len Try.underlying28 ty)
                  have HMK := Lib.hid (fun (w' : World) (h : (∀ b o, b < wc.heap.size → w'.cell? ⟨b, o, none⟩ = wc.cell? ⟨b, o, none⟩) ∧ Below wc.heap.size wc w') => (hva.2.2.2.1.below h.2 hva.2.2.2.1.lt).look keyIB Try.underlying28 false (zeroBB _) who)
                  have K49 := Lib.hid (fun (w' : World) (h : (∀ b o, b < wc.heap.size → w'.cell? ⟨b, o, none⟩ = wc.cell? ⟨b, o, none⟩) ∧ Below wc.heap.size wc w') => gateHas who _ true ys w' (s11.below h.2) (by omega))
                  rw [HNX.out.mem who] at K49
                  rw [HNX.out.2.1] at HML
                  generalize hhas : (mlook (mput' m who true) who).getD false = has at K49 HMK
                  clear hhas s11 hva
                  refine wp_region_held_drew (S := (fun w' => (∀ b o, b < (wc).heap.size → w'.cell? ⟨b, o, none⟩ = (wc).cell? ⟨b, o, none⟩) ∧ Below (wc).heap.size (wc) w')) (by kernel_rfl) (stay0 _) (fun hHeld => ?_)
                  try dsimp only [List.size_toArray, List.length_cons, List.length_nil]
                  refine takeL (i := 0) rfl (v := ?v0c) (by kernel_rfl) (by kernel_rfl) (by kernel_rfl) (fun _ _ _ h => h) (Or.inl ⟨by rfl, fun _w _hSw => ?hy0c⟩) (by assumption) ?rest0c
                  case hy0c =>
                    (try dsimp only at _hSw)
                    go_simp
                    try with_reducible rfl
                  try simp only [Act.put, List.setIfInBounds_toArray, List.set_cons_zero, List.set_cons_succ]
                  refine takeL (i := 1) rfl (v := ?v1c) (by kernel_rfl) (by kernel_rfl) (by kernel_rfl) (fun _ _ _ h => h) (Or.inl ⟨by rfl, fun _w _hSw => ?hy1c⟩) (by assumption) ?rest1c
                  case hy1c =>
                    (try dsimp only at _hSw)
                    go_simp
                    try with_reducible rfl
                  try simp only [Act.put, List.setIfInBounds_toArray, List.set_cons_zero, List.set_cons_succ]
                  refine takeL (i := 2) rfl (v := ?v2c) (by kernel_rfl) (by kernel_rfl) (by kernel_rfl) (fun _ _ _ h => h) (Or.inl ⟨by rfl, fun _w _hSw => ?hy2c⟩) (by assumption) ?rest2c
                  case hy2c =>
                    (try dsimp only at _hSw)
                    go_simp
                    try with_reducible rfl
                  try simp only [Act.put, List.setIfInBounds_toArray, List.set_cons_zero, List.set_cons_succ]
                  refine takeL (i := 3) rfl (v := ?v3c) (by kernel_rfl) (by kernel_rfl) (by kernel_rfl) (fun _ _ _ h => h) (Or.inl ⟨by rfl, fun _w _hSw => ?hy3c⟩) (by assumption) ?rest3c
                  case hy3c =>
                    (try dsimp only at _hSw)
                    go_simp
                    try with_reducible rfl
                  try simp only [Act.put, List.setIfInBounds_toArray, List.set_cons_zero, List.set_cons_succ]
                  refine takeL (i := 4) rfl (v := ?v4c) (by kernel_rfl) (by kernel_rfl) (by kernel_rfl) (fun _ _ _ h => h) (Or.inl ⟨by rfl, fun _w _hSw => ?hy4c⟩) (by assumption) ?rest4c
                  case hy4c =>
                    (try dsimp only at _hSw)
                    go_simp
                    try with_reducible rfl
                  try simp only [Act.put, List.setIfInBounds_toArray, List.set_cons_zero, List.set_cons_succ]
                  refine takeL (i := 5) rfl (v := ?v5c) (by kernel_rfl) (by kernel_rfl) (by kernel_rfl) (fun _ _ _ h => h) (Or.inl ⟨by rfl, fun _w _hSw => ?hy5c⟩) (by assumption) ?rest5c
                  case hy5c =>
                    (try dsimp only at _hSw)
                    go_simp
                    try with_reducible rfl
                  try simp only [Act.put, List.setIfInBounds_toArray, List.set_cons_zero, List.set_cons_succ]
                  refine takeL (i := 6) rfl (v := ?v6c) (by kernel_rfl) (by kernel_rfl) (by kernel_rfl) (fun _ _ _ h => h) (Or.inl ⟨by rfl, fun _w _hSw => ?hy6c⟩) (by assumption) ?rest6c
                  case hy6c =>
                    (try dsimp only at _hSw)
                    go_simp
                    try with_reducible rfl
                  try simp only [Act.put, List.setIfInBounds_toArray, List.set_cons_zero, List.set_cons_succ]
                  refine takeL (i := 7) rfl (v := ?v7c) (by kernel_rfl) (by kernel_rfl) (by kernel_rfl) (fun _ _ _ h => h) (Or.inl ⟨by rfl, fun _w _hSw => ?hy7c⟩) (by assumption) ?rest7c
                  case hy7c =>
                    (try dsimp only at _hSw)
                    go_simp
                    try with_reducible rfl
                  try simp only [Act.put, List.setIfInBounds_toArray, List.set_cons_zero, List.set_cons_succ]
                  refine takeL (i := 8) rfl (v := undef) (by kernel_rfl) (by kernel_rfl) (by kernel_rfl) (fun _ _ _ h => h) (Or.inr ⟨by rfl, rfl⟩) (by assumption) ?_
                  try simp only [Act.put, List.setIfInBounds_toArray, List.set_cons_zero, List.set_cons_succ]
                  refine takeL (i := 9) rfl (v := undef) (by kernel_rfl) (by kernel_rfl) (by kernel_rfl) (fun _ _ _ h => h) (Or.inr ⟨by rfl, rfl⟩) (by assumption) ?_
                  try simp only [Act.put, List.setIfInBounds_toArray, List.set_cons_zero, List.set_cons_succ]
                  refine takeL (i := 10) rfl (v := undef) (by kernel_rfl) (by kernel_rfl) (by kernel_rfl) (fun _ _ _ h => h) (Or.inr ⟨by rfl, rfl⟩) (by assumption) ?_
                  try simp only [Act.put, List.setIfInBounds_toArray, List.set_cons_zero, List.set_cons_succ]
                  refine takeL (i := 11) rfl (v := undef) (by kernel_rfl) (by kernel_rfl) (by kernel_rfl) (fun _ _ _ h => h) (Or.inr ⟨by rfl, rfl⟩) (by assumption) ?_
                  try simp only [Act.put, List.setIfInBounds_toArray, List.set_cons_zero, List.set_cons_succ]
                  refine takeL (i := 12) rfl (v := ?v12c) (by kernel_rfl) (by kernel_rfl) (by kernel_rfl) (fun _ _ _ h => h) (Or.inl ⟨by rfl, fun _w _hSw => ?hy12c⟩) (by assumption) ?rest12c
                  case hy12c =>
                    (try dsimp only at _hSw)
                    go_simp
                    try with_reducible rfl
                  try simp only [Act.put, List.setIfInBounds_toArray, List.set_cons_zero, List.set_cons_succ]
                  refine takeL (i := 13) rfl (v := ?v13c) (by kernel_rfl) (by kernel_rfl) (by kernel_rfl) (fun _ _ _ h => h) (Or.inl ⟨by rfl, fun _w _hSw => ?hy13c⟩) (by assumption) ?rest13c
                  case hy13c =>
                    (try dsimp only at _hSw)
                    go_simp
                    try with_reducible rfl
                  try simp only [Act.put, List.setIfInBounds_toArray, List.set_cons_zero, List.set_cons_succ]
                  refine takeL (i := 14) rfl (v := ?v14c) (by kernel_rfl) (by kernel_rfl) (by kernel_rfl) (fun _ _ _ h => h) (Or.inl ⟨by rfl, fun _w _hSw => ?hy14c⟩) (by assumption) ?rest14c
                  case hy14c =>
                    (try dsimp only at _hSw)
                    go_simp
                    try with_reducible rfl
                  try simp only [Act.put, List.setIfInBounds_toArray, List.set_cons_zero, List.set_cons_succ]
                  refine takeL (i := 15) rfl (v := ?v15c) (by kernel_rfl) (by kernel_rfl) (by kernel_rfl) (fun _ _ _ h => h) (Or.inl ⟨by rfl, fun _w _hSw => ?hy15c⟩) (by assumption) ?rest15c
                  case hy15c =>
                    (try dsimp only at _hSw)
                    go_simp
                    try with_reducible rfl
                  try simp only [Act.put, List.setIfInBounds_toArray, List.set_cons_zero, List.set_cons_succ]
                  refine takeL (i := 16) rfl (v := ?v16c) (by kernel_rfl) (by kernel_rfl) (by kernel_rfl) (fun _ _ _ h => h) (Or.inl ⟨by rfl, fun _w _hSw => ?hy16c⟩) (by assumption) ?rest16c
                  case hy16c =>
                    (try dsimp only at _hSw)
                    go_simp
                    try with_reducible rfl
                  try simp only [Act.put, List.setIfInBounds_toArray, List.set_cons_zero, List.set_cons_succ]
                  refine takeL (i := 17) rfl (v := ?v17c) (by kernel_rfl) (by kernel_rfl) (by kernel_rfl) (fun _ _ _ h => h) (Or.inl ⟨by rfl, fun _w _hSw => ?hy17c⟩) (by assumption) ?rest17c
                  case hy17c =>
                    (try dsimp only at _hSw)
                    go_simp
                    try with_reducible rfl
                  try simp only [Act.put, List.setIfInBounds_toArray, List.set_cons_zero, List.set_cons_succ]
                  refine takeL (i := 18) rfl (v := ?v18c) (by kernel_rfl) (by kernel_rfl) (by kernel_rfl) (fun _ _ _ h => h) (Or.inl ⟨by rfl, fun _w _hSw => ?hy18c⟩) (by assumption) ?rest18c
                  case hy18c =>
                    (try dsimp only at _hSw)
                    go_simp
                    try with_reducible rfl
                  try simp only [Act.put, List.setIfInBounds_toArray, List.set_cons_zero, List.set_cons_succ]
                  refine takeL (i := 19) rfl (v := ?v19c) (by kernel_rfl) (by kernel_rfl) (by kernel_rfl) (fun _ _ _ h => h) (Or.inl ⟨by rfl, fun _w _hSw => ?hy19c⟩) (by assumption) ?rest19c
                  case hy19c =>
                    (try dsimp only at _hSw)
                    go_simp
                    try with_reducible rfl
                  try simp only [Act.put, List.setIfInBounds_toArray, List.set_cons_zero, List.set_cons_succ]
                  refine takeL (i := 20) rfl (v := ?v20c) (by kernel_rfl) (by kernel_rfl) (by kernel_rfl) (fun _ _ _ h => h) (Or.inl ⟨by rfl, fun _w _hSw => ?hy20c⟩) (by assumption) ?rest20c
                  case hy20c =>
                    (try dsimp only at _hSw)
                    go_simp
                    rw [HML.out _ _hSw 3]
                    rfl
                  try simp only [Act.put, List.setIfInBounds_toArray, List.set_cons_zero, List.set_cons_succ]
                  refine takeL (i := 21) rfl (v := ?v21c) (by kernel_rfl) (by kernel_rfl) (by kernel_rfl) (fun _ _ _ h => h) (Or.inl ⟨by rfl, fun _w _hSw => ?hy21c⟩) (by assumption) ?rest21c
                  case hy21c =>
                    (try dsimp only at _hSw)
                    go_simp
                    try with_reducible rfl
                  try simp only [Act.put, List.setIfInBounds_toArray, List.set_cons_zero, List.set_cons_succ]
                  refine takeL (i := 22) rfl (v := ?v22c) (by kernel_rfl) (by kernel_rfl) (by kernel_rfl) (fun _ _ _ h => h) (Or.inl ⟨by rfl, fun _w _hSw => ?hy22c⟩) (by assumption) ?rest22c
                  case hy22c =>
                    (try dsimp only at _hSw)
                    go_simp
                    try with_reducible rfl
                  try simp only [Act.put, List.setIfInBounds_toArray, List.set_cons_zero, List.set_cons_succ]
                  refine takeL (i := 23) rfl (v := ?v23c) (by kernel_rfl) (by kernel_rfl) (by kernel_rfl) (fun _ _ _ h => h) (Or.inl ⟨by rfl, fun _w _hSw => ?hy23c⟩) (by assumption) ?rest23c
                  case hy23c =>
                    (try dsimp only at _hSw)
                    go_simp
                    try with_reducible rfl
                  try simp only [Act.put, List.setIfInBounds_toArray, List.set_cons_zero, List.set_cons_succ]
                  refine takeL (i := 24) rfl (v := ?v24c) (by kernel_rfl) (by kernel_rfl) (by kernel_rfl) (fun _ _ _ h => h) (Or.inl ⟨by rfl, fun _w _hSw => ?hy24c⟩) (by assumption) ?rest24c
                  case hy24c =>
                    (try dsimp only at _hSw)
                    go_simp
                    try with_reducible rfl
                  try simp only [Act.put, List.setIfInBounds_toArray, List.set_cons_zero, List.set_cons_succ]
                  refine takeL (i := 25) rfl (v := ?v25c) (by kernel_rfl) (by kernel_rfl) (by kernel_rfl) (fun _ _ _ h => h) (Or.inl ⟨by rfl, fun _w _hSw => ?hy25c⟩) (by assumption) ?rest25c
                  case hy25c =>
                    (try dsimp only at _hSw)
                    go_simp
                    try with_reducible rfl
                  try simp only [Act.put, List.setIfInBounds_toArray, List.set_cons_zero, List.set_cons_succ]
                  refine takeL (i := 26) rfl (v := ?v26c) (by kernel_rfl) (by kernel_rfl) (by kernel_rfl) (fun _ _ _ h => h) (Or.inl ⟨by rfl, fun _w _hSw => ?hy26c⟩) (by assumption) ?rest26c
                  case hy26c =>
                    (try dsimp only at _hSw)
                    go_simp
                    try with_reducible rfl
                  try simp only [Act.put, List.setIfInBounds_toArray, List.set_cons_zero, List.set_cons_succ]
                  refine takeL (i := 28) rfl (v := ?v28c) (by kernel_rfl) (by kernel_rfl) (by kernel_rfl) (fun _ _ _ h => h) (Or.inl ⟨by rfl, fun _w _hSw => ?hy28c⟩) (by assumption) ?rest28c
                  case hy28c =>
                    (try dsimp only at _hSw)
                    go_simp
                    try with_reducible rfl
                  try simp only [Act.put, List.setIfInBounds_toArray, List.set_cons_zero, List.set_cons_succ]
                  refine takeL (i := 29) rfl (v := ?v29c) (by kernel_rfl) (by kernel_rfl) (by kernel_rfl) (fun _ _ _ h => h) (Or.inl ⟨by rfl, fun _w _hSw => ?hy29c⟩) (by assumption) ?rest29c
                  case hy29c =>
                    (try dsimp only at _hSw)
                    go_simp
                    try with_reducible rfl
                  try simp only [Act.put, List.setIfInBounds_toArray, List.set_cons_zero, List.set_cons_succ]
                  refine takeL (i := 30) rfl (v := ?v30c) (by kernel_rfl) (by kernel_rfl) (by kernel_rfl) (fun _ _ _ h => h) (Or.inl ⟨by rfl, fun _w _hSw => ?hy30c⟩) (by assumption) ?rest30c
                  case hy30c =>
                    (try dsimp only at _hSw)
                    go_simp
                    try with_reducible rfl
                  try simp only [Act.put, List.setIfInBounds_toArray, List.set_cons_zero, List.set_cons_succ]
                  refine takeL (i := 31) rfl (v := ?v31c) (by kernel_rfl) (by kernel_rfl) (by kernel_rfl) (fun _ _ _ h => h) (Or.inl ⟨by rfl, fun _w _hSw => ?hy31c⟩) (by assumption) ?rest31c
                  case hy31c =>
                    (try dsimp only at _hSw)
                    go_simp
                    rw [HMK.out _ _hSw]
                    rfl
                  try simp only [Act.put, List.setIfInBounds_toArray, List.set_cons_zero, List.set_cons_succ]
                  refine wpAnyH_ready (rs := [27]) (by kernel_rfl) (by simp) (readyL rfl (fun K hK => ?_) AllReadyH.nil)
                  go_simp
                  with_reducible refine (K49.out _ ‹_›).mono ?_
                  rintro e w' ⟨rfl, hb⟩
                  try dsimp only
                  refine hK.out _ _ (stay ‹_› ‹_›) (fun hHeld => ?_)
                  clear hK K
                  try simp only [Act.put, List.setIfInBounds_toArray, List.set_cons_zero, List.set_cons_succ]
                  refine takeL (i := 32) rfl (v := ?v32c) (by kernel_rfl) (by kernel_rfl) (by kernel_rfl) (fun _ _ _ h => h) (Or.inl ⟨by rfl, fun _w _hSw => ?hy32c⟩) (by assumption) ?rest32c
                  case hy32c =>
                    (try dsimp only at _hSw)
                    go_simp
                    try with_reducible rfl
                  try simp only [Act.put, List.setIfInBounds_toArray, List.set_cons_zero, List.set_cons_succ]
                  refine takeL (i := 33) rfl (v := ?v33c) (by kernel_rfl) (by kernel_rfl) (by kernel_rfl) (fun _ _ _ h => h) (Or.inl ⟨by rfl, fun _w _hSw => ?hy33c⟩) (by assumption) ?rest33c
                  case hy33c =>
                    (try dsimp only at _hSw)
                    go_simp
                    try with_reducible rfl
                  try simp only [Act.put, List.setIfInBounds_toArray, List.set_cons_zero, List.set_cons_succ]
                  refine wpAnyH_done (by kernel_rfl) ?_ _
                  go_wp2_with fail
                  go_meet
                  case rel => exact ⟨by simp, HR.out.next (show _ ∧ Below _ _ _ from ‹_›).2⟩
            case rest =>
              obtain ⟨rfl, hr⟩ := hcut
              have HR := Lib.hid hr
              clear hr
              obtain ⟨⟨_, ⟨z5, f5, g5, _⟩, ⟨q5, q6⟩, _⟩, _, ⟨z11, f11, g11, _⟩, _, _⟩ := HR.out
              go_wp2
              go_roundw
              case rel =>
                exact ⟨k + 1, _, no1, ys, _, by omega, by go_num, rfl, HR.out.set, HNX.out⟩
              case measure => simp [intOf] <;> omega
      · obtain rfl : k = cs.length := by omega
        have HB := Lib.hid HV.out.1
        clear HV HINV
        go_wp2
        go_ret
        exact ⟨rfl, HB.out⟩
theorem fieldsC : Try.prog.underlying 77 = some (.struct (Try.prog.fieldsOf 77)) := by kernel_rfl
set_option maxRecDepth 100000 in
theorem cst_of {H : Type} {enc : TypeId × Value → H} {w : World} {base : Nat} {spare : Nat → Bool} {held : Bool} {n : Nat} {cs : List Value} {y : DataW H × List MemPlace} (h : DataW.trod enc Try.prog w base spare held n 77 cs = some y) : ∃ c : Cst, cs = encC c := by
  obtain ⟨hl, n', hf⟩ := structsAt fieldsC h
  have hC : Try.prog.cellsOf 77 = 2 := by kernel_rfl
  have h3 : Try.prog.cellsOf 3 = 1 := by kernel_rfl
  have h4 : Try.prog.cellsOf 4 = 1 := by kernel_rfl
  match cs, hl.trans hC with
  | [c0, c1], _ =>
    obtain ⟨y0, e0⟩ := hf 0 0 3 (by kernel_rfl)
    obtain ⟨y1, e1⟩ := hf 1 1 4 (by kernel_rfl)
    rw [h3] at e0
    rw [h4] at e1
    obtain ⟨a, rfl⟩ := i64_of e0
    obtain ⟨b, e2, _⟩ := DataW.trod_bool Try.underlying4 e1
    have e3 : c1 = .bool b := by simpa using e2
    exact ⟨(a, b), by rw [e3]; rfl⟩

set_option maxRecDepth 100000 in
theorem gateVotes_lifted (os : Os) (started : os.Started) (H : Type) (enc : TypeId × Value → H) :
    ReturnsInHanded {} Try.checked os 11 .any (Rows.gateVotesSpec.pre6 enc Try.prog Try.f11 Rows.gateVotesRow.domain false) (Rows.gateVotesSpec.post enc Try.prog Try.f11 false true false false) := by
  refine law_lift started Try.func11 (by kernel_rfl) (by kernel_rfl) rfl (by kernel_rfl) ?_
    (ChangeSpec.witness6 (enc := enc) (C := Try.checked) false ⟨#[], #[.slice none 0 0, .int .i64 0], []⟩ 8 (by kernel_rfl) (by kernel_rfl) (by kernel_rfl) (by kernel_rfl)) ?_
  · intro ds hd
    rw [Try.params11] at hd
    match ds, hd with
    | [d0, d1], _ => rfl
  · intro W base args ds ps hval hA
    rw [Try.params11] at hA hval
    obtain ⟨v0, vs0, d0, ds0, p0, q0, hargs, rfl, rfl, h0, r0⟩ := trodAll_cons hA
    obtain ⟨v1, vs1, d1, ds1, p1, q1, rfl, rfl, rfl, h1, r1⟩ := trodAll_cons r0
    obtain ⟨rfl, rfl, rfl⟩ := trodAll_nil r1
    obtain rfl : args = #[v0, v1] := by cases args; simp_all
    obtain ⟨s0, n0, k0, rfl⟩ := okWide_slice Try.underlying73 (hval 0 73 v0 rfl rfl)
    obtain ⟨xs, hL, _, hml⟩ := open_structs (encA := encC) (ok := fun _ : Cst => True) (k := 2) (by decide) (fun _ => rfl) Try.underlying73 (by kernel_rfl) (fun n cs y h => by
      obtain ⟨x, rfl⟩ := cst_of h
      exact ⟨x, trivial, rfl⟩) rfl h0
    obtain ⟨a1, rfl, _, _, w1⟩ := open_int Try.underlying3 (hval 1 3 v1 rfl rfl) h1
    exact gateVotes_walk _ xs _ _ hL hml

theorem gateVotes_holds : Rows.GateVotesSaid :=
  OpenClaim.holds_of_wide 11 Try.f11 rfl rfl rfl rfl rfl rfl rfl ⟨rfl, rfl, rfl, rfl, rfl⟩ rfl rfl rfl rfl rfl (by kernel_rfl) Try.func11 (by kernel_rfl)
    (of_decide_eq_true (by kernel_rfl)) (by unfold Func.isWrapper; first | (rw [if_pos (by decide +kernel)]; kernel_rfl) | (rw [if_neg (by decide +kernel)]; exact ⟨rfl, rfl⟩))
    (fun os started H enc _ => gateVotes_lifted os started H enc)
end Go.Proofs.Ytpkmgdpnimecfaa

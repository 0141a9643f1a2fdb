/- lexer.Lines. -/
import Derived.Test.YtefnkoofgpmmmaaGreatDoorSqJ
import Derived.Test.YtefnkoofgpmmmaaGreatDoorLxA
import Derived.Test.YtefnkoofgpmmmaaGreatDoorNam
import Derived.Test.YtefnkoofgpmmmaaGreatDoorAppI
namespace Go.Proofs.YtefnkoofgpmmmaaGreatDoor
set_option maxRecDepth 100000
open Go.RowKit Go.Shelf
attribute [local go_sem] Oper.semAt_some

theorem infoLn : (Tryz.prog.info? 32).map (fun i => (i.zero, i.size, i.bytes)) = some (some (.slice none 0 0), 1, 24) := by kernel_rfl
theorem bad_yes {c : UInt8} (h1 : ¬ ((c.toNat : Int) = 10)) (h2 : (c.toNat : Int) < 32 ∨ 126 < (c.toNat : Int)) : badC c = true := by
  have e : ¬ (c = 10) := fun e => h1 (by rw [e]; rfl)
  unfold badC
  rw [decide_eq_false e]
  simp
  omega
theorem bad_no1 {c : UInt8} (h : (c.toNat : Int) = 10) : badC c = false := by
  have e : c = 10 := UInt8.toNat_inj.1 (by have : (10 : UInt8).toNat = 10 := rfl; omega)
  unfold badC
  rw [decide_eq_true e]
  rfl
theorem bad_no2 {c : UInt8} (h1 : 32 ≤ (c.toNat : Int)) (h2 : (c.toNat : Int) ≤ 126) : badC c = false := by
  unfold badC
  rw [decide_eq_false (show ¬ (c.toNat < 32) by omega), decide_eq_false (show ¬ (126 < c.toNat) by omega)]
  simp
/-- what lexer.Lines has behind some lines: the box of the lines, that of the place -/
structure LnI (w : World) (b6 base : Nat) (pre : List ByteArray) (W : World) : Prop where
  ex : ∃ v svs, BlkIs W w.heap.size [v] 23 ∧ LnAt 32 base v svs (lnsL 0 pre) W
  at_ : BlkIs W b6 [.int .i64 (lenP pre : Nat)] 3
  blw : Below w.heap.size w W
theorem BlkIs.grown {w w' : World} {b : Nat} {cs : List Value} {T : TypeId} {row : Option Nat} (h : BlkIs w b cs T) (hg : w.grownBy w' row) (hr : ∀ r, row = some r → ∃ o : Obj, w.heap[r]? = some o ∧ o.isCells = false) : BlkIs w' b cs T :=
  h.of (hg.block b h.lt (fun e => by
    obtain ⟨o, ho, hc⟩ := hr b e.symm
    have h' : w.heap[b]? = some (.cells cs.toArray T (0, 0)) := h
    rw [h'] at ho
    cases ho
    cases hc))
theorem LnI.own {w : World} {b6 base B : Nat} (hB : w.heap.size ≤ B) : OwnFrom B (LnI w b6 base) := by
  rintro s A C row ⟨⟨v, svs, h1, h2⟩, h3, h4⟩ hg hr
  have hr' : ∀ r, row = some r → ∃ o : Obj, A.heap[r]? = some o ∧ o.isCells = false := fun r e => (hr r e).2
  exact ⟨⟨v, svs, h1.grown hg hr', h2.grown hg hr'⟩, h3.grown hg hr', h4.grown hg h4.size (fun k e => Nat.le_trans hB (hr k e).1)⟩
theorem LnI.abq {w : World} {b6 base q : Nat} (h1 : w.heap.size < b6) (h2 : b6 < q) (h3 : q < base) : AbQ q (LnI w b6 base) := by
  rintro s A u ⟨⟨v, svs, k1, k2⟩, k3, k4⟩
  exact ⟨⟨v, svs, k1.of (Below.heap_setCell _ _ _ _ (show w.heap.size ≠ q by omega)), k2.setCell h3 0 u⟩, k3.of (Below.heap_setCell _ _ _ _ (show b6 ≠ q by omega)), k4.setCell (p := ⟨q, 0, none⟩) (show w.heap.size ≤ q by omega) u⟩

theorem LnI.atx {b6 : Nat} {pre : List ByteArray} {x : ByteArray} {W : World} {P : Nat} (h : BlkIs W b6 [.int .i64 P] 3) (hP : P = lenP pre) : BlkIs (W.setCell ⟨b6, 0, none⟩ (.int .i64 ((P : Int) + ((x.size : Int) + 1)))) b6 [.int .i64 (lenP (pre ++ [x]) : Nat)] 3 := by
  have h1 := h.set (o := 0) (.int .i64 ((P : Int) + ((x.size : Int) + 1)))
  rw [List.set_cons_zero] at h1
  have e : ((lenP (pre ++ [x]) : Nat) : Int) = (P : Int) + ((x.size : Int) + 1) := by rw [lenP_snoc, ← hP]; omega
  rw [e]
  exact h1
theorem LnI.skip {w W W1 : World} {b6 base q P : Nat} {pre : List ByteArray} {x : ByteArray} {v : Value} {svs : List Value} (k1 : BlkIs W w.heap.size [v] 23) (k2 : LnAt 32 base v svs (lnsL 0 pre) W) (k3 : BlkIs W b6 [.int .i64 P] 3) (k4 : Below w.heap.size w W)
    (hb1 : Below W.heap.size W W1) (h1 : w.heap.size < b6) (h2 : b6 < q) (h3 : q + 3 ≤ base) (h4 : q + 3 ≤ W.heap.size) (hP : P = lenP pre) (hws : wordsL (P : Nat) x = []) :
    KeepsOthers W (W1.setCell ⟨b6, 0, none⟩ (.int .i64 ((P : Int) + ((x.size : Int) + 1)))) ∧ KeepQ q W (W1.setCell ⟨b6, 0, none⟩ (.int .i64 ((P : Int) + ((x.size : Int) + 1)))) ∧ LnI w b6 base (pre ++ [x]) (W1.setCell ⟨b6, 0, none⟩ (.int .i64 ((P : Int) + ((x.size : Int) + 1)))) := by
  refine ⟨(others_below hb1).trans (KeepsOthers.setCell _ _ _), (KeepQ.below hb1 h4).trans (KeepQ.setCell _ _ _ (.inl h2)), ⟨⟨v, svs, ?_, ?_⟩, LnI.atx (k3.below hb1) hP, (k4.trans (hb1.mono k4.size)).setCell (p := ⟨b6, 0, none⟩) (Nat.le_of_lt h1) _⟩⟩
  · exact (k1.below hb1).of (Below.heap_setCell _ _ _ _ (show w.heap.size ≠ b6 by omega))
  · have hn := lnsL_snoc x 0 pre
    rw [Int.zero_add, ← hP, if_pos hws, List.append_nil] at hn
    rw [hn]
    exact (k2.below hb1).setCell (by omega) _ _
theorem LnI.put {w W W1 W3 : World} {b6 base q P n : Nat} {pre : List ByteArray} {x : ByteArray} {v v' xv : Value} {svs : List Value} (k1 : BlkIs W w.heap.size [v] 23) (k2 : LnAt 32 base v svs (lnsL 0 pre) W) (k3 : BlkIs W b6 [.int .i64 P] 3) (k4 : Below w.heap.size w W)
    (hb1 : Below W.heap.size W W1) (h1 : w.heap.size < b6) (h2 : b6 < q) (h3 : q + 3 ≤ base) (h4 : base ≤ W.heap.size) (hP : P = lenP pre) (hws : wordsL (P : Nat) x ≠ [])
    (hx : W1.ownsRow W.heap.size 35 2 xv n (flat encW (wordsL (P : Nat) x))) (hn : n = (wordsL (P : Nat) x).length)
    (hg : (W1.alloc (.cells #[xv] 32)).grownBy W3 v.ownBlock) (ho : W3.ownsRow base 32 1 v' ((lnsL 0 pre).length + 1) (svs ++ [xv])) (hv : v'.ownBlock = v.ownBlock ∨ v'.ownBlock = some (W1.alloc (.cells #[xv] 32)).heap.size) :
    BlkIs W3 w.heap.size [v] 23 ∧ BlkIs W3 b6 [.int .i64 P] 3 ∧
    ∀ X, X = (W3.setCell ⟨w.heap.size, 0, none⟩ v').setCell ⟨b6, 0, none⟩ (.int .i64 ((P : Int) + ((x.size : Int) + 1))) → KeepsOthers W X ∧ KeepQ q W X ∧ LnI w b6 base (pre ++ [x]) X := by
  subst hn
  have hb2 := below1 W1 (.cells #[xv] 32)
  have hbW : Below W.heap.size W (W1.alloc (.cells #[xv] 32)) := hb1.trans (hb2.mono hb1.size)
  have hown : ∀ k, v.ownBlock = some k → base ≤ k := fun k hk => owns_block k2.own k hk
  have hnb : ∀ b, b < base → some b ≠ v.ownBlock := fun b hb e => by have := hown b e.symm; omega
  have hsz2 := hbW.size
  have j1 : BlkIs W3 w.heap.size [v] 23 := (k1.below hbW).of (hg.block _ (k1.below hbW).lt (hnb _ (by omega)))
  have j3 : BlkIs W3 b6 [.int .i64 P] 3 := (k3.below hbW).of (hg.block _ (k3.below hbW).lt (hnb _ (by omega)))
  refine ⟨j1, j3, ?_⟩
  rintro X rfl
  have hcells : ∀ (j : Nat) (o : Obj), v.ownBlock = some j → (W1.alloc (.cells #[xv] 32)).heap[j]? = some o → o.isCells = true := fun j o e hj => by
    rcases (owns_below k2.own hbW).2 with ⟨e', _⟩ | ⟨g, cap, cur, e', _, hgb, _⟩
    · rw [e'] at e; cases e
    · rw [e'] at e
      obtain rfl : g = j := by simpa [Value.ownBlock] using e
      rw [hgb] at hj; cases hj; rfl
  have hsz3 := hg.size
  refine ⟨(((others_below hbW).trans (KeepsOthers.of_grownBy hg hcells)).trans (KeepsOthers.setCell _ _ _)).trans (KeepsOthers.setCell _ _ _), ?_, ⟨⟨v', svs ++ [xv], ?_, ?_⟩, ?_, ?_⟩⟩
  · intro k e1 e2
    rw [Below.heap_setCell _ _ _ _ (show k ≠ b6 by omega), Below.heap_setCell _ _ _ _ (show k ≠ w.heap.size by omega)]
    exact (hg.block k (by omega) (hnb k (by omega))).trans (hbW.block k (by omega))
  · have := j1.set (o := 0) v'
    rw [List.set_cons_zero] at this
    exact this.of (Below.heap_setCell _ _ _ _ (show w.heap.size ≠ b6 by omega))
  · have hn := lnsL_snoc x 0 pre
    rw [Int.zero_add, ← hP, if_neg hws] at hn
    rw [hn]
    refine ((LnAt.put (k2.below hbW) xv _ ((SlAt.of_owns encW_len hx).below hb2) (fun k hk => ?_) hg ho hv).setCell (by omega) 0 v').setCell (by omega) 0 _
    have e1 := owns_block hx k hk
    have e2 := owns_lt hx hk
    refine ⟨by omega, Nat.lt_of_lt_of_le e2 hb2.size, fun e => ?_⟩
    have := owns_lt k2.own e
    omega
  · exact LnI.atx (j3.of (Below.heap_setCell _ _ _ _ (show b6 ≠ w.heap.size by omega))) hP
  · exact (((k4.trans (hbW.mono k4.size)).grown hg (by have := k4.size; omega) (fun k e => by have := hown k e; omega)).setCell (p := ⟨w.heap.size, 0, none⟩) (Nat.le_refl _) v').setCell (p := ⟨b6, 0, none⟩) (Nat.le_of_lt h1) _
def LinesPost (s : ByteArray) (w : World) (e : Ending) (w' : World) : Prop := Below w.heap.size w w' ∧ ∃ v err svs base, e = .returned (.tuple #[v, err]) ∧ ErrAt err (lexErr s) w' ∧ LnAt 32 base v svs (lexLn s) w'
set_option maxHeartbeats 1000000 in
theorem lexLines (s : ByteArray) (w : World) (hs : s.size ≤ maxLen) : Calls Tryz.prog 13 #[.string s] w (LinesPost s w) := by
  obtain ⟨i0, hi0, hz0, hz1, hz2⟩ := info_parts infoLn
  have HI := Lib.hid hi0
  have HZ := Lib.hid hz0
  clear hi0 hz0
  have HP := Lib.hid (fun (w' : World) (v err : Value) (svs : List Value) (base : Nat) (h1 : Below w.heap.size w w') (h2 : ErrAt err (lexErr s) w') (h3 : LnAt 32 base v svs (lexLn s) w') => show LinesPost s w (.returned (.tuple #[v, err])) w' from ⟨h1, v, err, svs, base, rfl, h2, h3⟩)
  generalize LinesPost s w = GP at *
  refine (callsIn_wide (n := 9)).1 ?_
  refine callsIn_of_wp_marks Tryz.func13 rfl trivial ?_ rfl
  simp only [Tryz.ntmps13, List.size_toArray, List.length_cons, List.length_nil, Nat.reduceAdd, Nat.reduceSub, Array.replicate_succ, Array.replicate_zero, List.push_toArray, List.append_toArray, List.nil_append, List.cons_append]
  have hs' := hs
  unfold maxLen at hs'
  by_cases hbig : 600 < s.size
  · have hbz : (600 : Int) < (s.size : Int) := by omega
    obtain ⟨hL1, hL2⟩ := lexErr_long hbig
    gi_wp2_with (refine ⟨trivial, ?_⟩; gi_at_call 43; refine (callsIn_wide.2 (lexFault _ _ _)).mono ?_; rintro e w1 ⟨rfl, rfl⟩)
    have b1 := below1 w (.cells #[.slice none 0 0] 23)
    have b2 := b1.alloc (by simp) (.cells #[.int .i64 600, .iface 48 (.int .i64 16)] 186)
    have hE := ErrAt.mk (w.alloc (.cells #[.slice none 0 0] 23)) 600 16
    rw [← hL1] at hE
    simp only [World.size_alloc] at hE
    have hR := HP.out _ (.slice none 0 0) _ [] w.heap.size b2 hE (by rw [hL2]; exact LnAt.start b2.size)
    refine ⟨_, by rw [results_cell_tmp rfl]; go_simp, hR⟩
  · have hbz : ¬ ((600 : Int) < (s.size : Int)) := by omega
    have hs6 : s.size ≤ 600 := by omega
    have HSM := Lib.hid hs
    clear hs hs' hbig
    gi_wp2_with fail
    have hB1 := below1 w (.cells #[.slice none 0 0] 23)
    have hK1 := BlkIs.alloc w [.slice none 0 0] 23
    have HB1 := Lib.hid hB1
    have HK1 := Lib.hid hK1
    clear hB1 hK1
    gi_loopw [15] (fun t wr => ∃ k : Nat, k ≤ s.size ∧ t = .int .i64 k ∧ Below w.heap.size w wr ∧ BlkIs wr w.heap.size [.slice none 0 0] 23 ∧ ∀ j (hj : j < s.size), j < k → badC s[j] = false) (fun t _ => s.size - (intOf t).toNat)
    case atStart => exact ⟨0, by omega, rfl, HB1.out, HK1.out, fun j _ hj => absurd hj (by omega)⟩
    case round =>
      clear HB1 HK1
      obtain ⟨k, hk, rfl, hb, hkb, hall⟩ := hrel
      have HB := Lib.hid hb
      have HK := Lib.hid hkb
      have HA := Lib.hid hall
      clear hb hkb hall
      by_cases hlt : k < s.size
      · have hltz : (k : Int) < (s.size : Int) := by omega
        have HX := Lib.hid (fun (h : badC s[k] = false) => show ∀ j (hj : j < s.size), j < k + 1 → badC s[j] = false from fun j hj hjk => by
          by_cases e : j = k
          · subst e; exact h
          · exact HA.out j hj (by omega))
        have HF := Lib.hid (fun (h : badC s[k] = true) => badIx_some hlt h HA.out)
        have c2 := HK.out.cell 0
        simp only [List.getElem?_cons_zero] at c2
        have f2 := HK.out.frozen 0
        have hwl : w.heap.size < wr.heap.size := HK.out.lt
        have HRT := Lib.hid (fun (h : badC s[k] = true) => by
          obtain ⟨hL1, hL2⟩ := lexErr_bad (by omega) (HF.out h)
          have hE := ErrAt.mk (wr.setCell ⟨w.heap.size, 0, none⟩ (.slice none 0 0)) k 3
          rw [← hL1, World.size_setCell] at hE
          have hb1 := HB.out.setCell (p := ⟨w.heap.size, 0, none⟩) (Nat.le_refl _) (.slice none 0 0)
          have hb2 := hb1.trans ((below1 _ (.cells #[.int .i64 k, .iface 48 (.int .i64 3)] 186)).mono hb1.size)
          exact HP.out _ (.slice none 0 0) _ [] w.heap.size hb2 hE (by rw [hL2]; exact LnAt.start hb2.size))
        gi_wp2_with (refine ⟨trivial, ?_⟩; gi_at_call 43; refine (callsIn_wide.2 (lexFault _ _ _)).mono ?_; rintro e w1 ⟨rfl, rfl⟩)
        all_goals (try simp only [bne_iff_ne, ne_eq, bne_eq_false_iff_eq] at *)
        all_goals first
          | exact ⟨⟨k + 1, by omega, by go_num, HB.out, HK.out, HX.out (by first | exact bad_no1 (by omega) | exact bad_no2 (by omega) (by omega))⟩, by simp [intOf]; omega⟩
          | (have hR := HRT.out (bad_yes (by omega) (by omega))
             exact ⟨_, by rw [results_cell_tmp rfl]; go_simp, hR⟩)
      · obtain rfl : k = s.size := by omega
        obtain ⟨hL1, hL2⟩ := lexErr_fine (s := s) (by omega) (badIx_none fun j hj => HA.out j hj hj)
        have HE := Lib.hid hL1
        have HL := Lib.hid hL2
        clear hL1 hL2 HA
        have hwl : w.heap.size < wr.heap.size := HK.out.lt
        gi_wp2_with (refine ⟨trivial, ?_⟩; gi_at_call 44; refine (callsIn_wide.2 (seq41 s 10 _)).mono ?_)
        rintro e w3 ⟨rfl, hb3, hz3, hq0, hq1, hq2⟩
        have hb3' := hb3
        rw [World.size_alloc] at hz3 hq0 hq1 hq2
        have g1 := below1 wr (.cells #[.int .i64 0] 3)
        have HB3 := Lib.hid (HB.out.trans ((g1.trans (hb3.mono g1.size)).mono HB.out.size))
        have HK3 := Lib.hid ((HK.out.below g1).below hb3)
        have HA3 := Lib.hid ((BlkIs.alloc wr [.int .i64 0] 3).below hb3)
        clear hb3 hb3' g1 HK HB
        gi_wp2
        have hab : w.heap.size < wr.heap.size := hwl
        have HI3 := Lib.hid (show LnI w wr.heap.size w3.heap.size [] w3 from ⟨⟨_, [], HK3.out, LnAt.start (Nat.le_refl _)⟩, HA3.out, HB3.out⟩)
        have hsz : pcsB 10 s = pcsB 10 s := rfl
        have HLP := Lib.hid (lenP_pcs 10 s)
        refine wpIn_rangeFunc_ownQ rfl (by omega) (gf := 149) (lb := #[.pointer (some ⟨wr.heap.size + 1 + 1, 0, none⟩), .pointer (some ⟨wr.heap.size + 1, 0, none⟩), .pointer (some ⟨wr.heap.size + 1 + 2, 0, none⟩)]) rfl trivial (enters_of Tryz.func149 (by kernel_rfl) rfl)
          (seq119 8 (by omega) (wr.heap.size + 1) 10 s w3 HSM.out hq0 hq1 hq2) (by omega) (Below.refl _ _)
          (LnI w wr.heap.size w3.heap.size) (fun _ _ _ => False) (LnI.own HB3.out.size) (fun _ _ _ _ _ h => h.elim) (LnI.abq hab (by omega) (by omega)) (fun _ _ _ _ h => h) HI3.out
          (fun x => { tmps := #[.string s, undef, .pointer (some ⟨w.heap.size, 0, none⟩), u3, u4, u5, .pointer (some ⟨wr.heap.size, 0, none⟩), .string x, undef, .string s, .int .i64 s.size, .bool false, undef, .string s, .int .i64 s.size,
            .int .i64 s.size, .bool false, u17, u18, u19, u20, u21, u22, u23, u24, u25, u26, u27, u28, u29, u30, u31, u32, u33, .string s,
            .func (.func 149) #[] #[.pointer (some ⟨wr.heap.size + 1 + 1, 0, none⟩), .pointer (some ⟨wr.heap.size + 1, 0, none⟩), .pointer (some ⟨wr.heap.size + 1 + 2, 0, none⟩)],
            .string x, undef, undef, undef, undef, undef, undef, undef, undef, undef, undef, undef, undef, undef, undef, undef, undef], defers := [] }) ?assign ?body ?done ?stop
        case assign =>
          intro l x W K hK
          gi_wp2
          exact hK
        case body =>
          rintro l pre x rest W hx hW ⟨⟨v, svs, k1, k2⟩, k3, k4⟩
          have hlp : lenP pre + x.size + 1 + lenP rest = s.size + 1 := by
            have := HLP.out
            rw [hx, lenP_app] at this
            have e : lenP (x :: rest) = x.size + 1 + lenP rest := by simp [lenP]
            omega
          have hll : (lnsL 0 pre).length ≤ lenP pre := Nat.le_trans (lnsL_len 0 pre) (lenP_le pre)
          have hn1 := lnsL_snoc x 0 pre
          rw [Int.zero_add] at hn1
          have hn2 := lenP_snoc pre x
          have HN1 := Lib.hid hn1
          have HN2 := Lib.hid hn2
          clear hn1 hn2 hx
          have c6 := k3.cell 0
          simp only [List.getElem?_cons_zero] at c6
          have HV := Lib.hid k1
          have HLN := Lib.hid k2
          have HAT := Lib.hid k3
          have HBW := Lib.hid k4
          have hbW := k4.size
          clear k1 k2 k3 k4
          obtain ⟨P, hP⟩ : ∃ P, P = lenP pre := ⟨_, rfl⟩
          rw [← hP] at c6 hlp hll HN1 HN2 HAT
          have HAB := Lib.hid hab
          have HZ3 := Lib.hid (show w3.heap.size = wr.heap.size + 1 + 3 from hz3)
          have HQW := Lib.hid (show wr.heap.size + 1 + 3 ≤ W.heap.size by omega)
          have HLC := Lib.hid (show (lnsL 0 pre).length + 1 ≤ 601 by omega)
          have HS := Lib.hid (lexSplit x P W (by omega) ⟨by omega, by omega⟩)
          obtain ⟨e1, e2⟩ : wrap64 ((P : Int) + ((x.size : Int) + 1)) = (P : Int) + ((x.size : Int) + 1) ∧ wrap64 ((x.size : Int) + 1) = (x.size : Int) + 1 := ⟨wrap_small ⟨by omega, by omega⟩, wrap_small ⟨by omega, by omega⟩⟩
          clear hsz hlp hll
          have HPE := Lib.hid hP
          clear hP
          gi_wp2_with (refine ⟨trivial, ?_⟩; gi_at_call 45; refine (CallsIn.inRound l (callsIn_wide.2 HS.out)).mono ?_)
          rintro e W1 ⟨hb1, v', rfl, ho1⟩
          have hsa := SlAt.of_owns encW_len ho1
          obtain ⟨pw, cw, rfl, _⟩ := hsa
          have HO1 := Lib.hid ho1
          have HB1 := Lib.hid hb1
          clear ho1
          have HAT1 := Lib.hid (HAT.out.below hb1)
          have HV1 := Lib.hid (HV.out.below hb1)
          have c6 := HAT1.out.cell 0
          simp only [List.getElem?_cons_zero] at c6
          have f6 := HAT1.out.frozen 0
          clear hb1 hbW
          by_cases hws : (wordsL P x).length = 0
          · have HSK := Lib.hid (LnI.skip (q := wr.heap.size + 1) HV.out HLN.out HAT.out HBW.out HB1.out HAB.out (Nat.lt_succ_self _) (Nat.le_of_eq HZ3.out.symm) HQW.out HPE.out (List.eq_nil_of_length_eq_zero hws))
            rw [hws]
            clear hws
            gi_wp2
            exact HSK.out
          · have hwp : 0 < (wordsL P x).length := Nat.pos_of_ne_zero hws
            have HWN := Lib.hid (show wordsL P x ≠ [] from fun e => hws (by rw [e]; rfl))
            obtain ⟨pv, nv, cv, rfl⟩ : ∃ p n c, v = Value.slice p n c := by
              rcases HLN.out.own.2 with ⟨e, _⟩ | ⟨g, cap, cur, e, _⟩
              · exact ⟨_, _, _, e⟩
              · exact ⟨_, _, _, e⟩
            have c2 := HV1.out.cell 0
            simp only [List.getElem?_cons_zero] at c2
            clear hws
            have HMA := Lib.hid (owns_below (owns_below HLN.out.own HB1.out) (below1 W1 (.cells #[.slice pw (wordsL P x).length cw] 32)))
            have HZA := Lib.hid (Nat.le_trans (Nat.le_trans HLN.out.z HB1.out.size) (below1 W1 (.cells #[.slice pw (wordsL P x).length cw] 32)).size)
            have HBX := Lib.hid (BlkIs.alloc W1 [.slice pw (wordsL P x).length cw] 32)
            gi_wp2_with (gi_at_builtin; refine wpListIn_append_own2 _ rfl _ _ 23 rfl w3.heap.size 32 i0 (.slice none 0 0) 1 24 Tryz.underlying23 HI.out HZ.out hz1 hz2 rfl (by decide) (.slice pv nv cv) (lnsL 0 pre).length svs rfl HMA.out ⟨W1.heap.size, 0, none⟩ 1 1 [.slice pw (wordsL P x).length cw] rfl rfl ?qc2 ?qc3 ?qc4 ?qc5 ?qc6 ?_)
            case qc2 =>
              intro jj u hj
              rw [Go.WideShapes.add_plain, Nat.zero_add, HBX.out.cell jj]
              exact hj
            case qc3 => intro u hu; rw [List.mem_singleton.1 hu]; rfl
            case qc4 => exact (le601 HLC.out).1
            case qc5 => exact (le601 HLC.out).2
            case qc6 => exact HZA.out
            intro v4 w4 hown4 hgrow4 hnb4
            obtain ⟨hq1, hq3, hX⟩ := LnI.put (q := wr.heap.size + 1) HV.out HLN.out HAT.out HBW.out HB1.out HAB.out (Nat.lt_succ_self _) (Nat.le_of_eq HZ3.out.symm) HLN.out.z HPE.out HWN.out HO1.out rfl hgrow4 (by rw [HZ3.out]; exact hown4) (by rw [World.size_alloc]; exact hnb4)
            have HX4 := Lib.hid hX
            obtain ⟨p4, n4, k4, rfl⟩ : ∃ p n c, v4 = Value.slice p n c := by
              rcases hown4.2 with ⟨e, _⟩ | ⟨g, cap, cur, e, _⟩
              · exact ⟨_, _, _, e⟩
              · exact ⟨_, _, _, e⟩
            clear c6 f6 c2 hX hown4 hgrow4 hnb4
            have c2 := hq1.cell 0
            simp only [List.getElem?_cons_zero] at c2
            have f2 := hq1.frozen 0
            have c6 := hq3.cell 0
            simp only [List.getElem?_cons_zero] at c6
            have f6 := hq3.frozen 0
            clear hq1 hq3
            have hne : ¬ (wr.heap.size = w.heap.size) := Nat.ne_of_gt HAB.out
            have hne' : ¬ (w.heap.size = wr.heap.size) := Nat.ne_of_lt HAB.out
            gi_wp2
            exact HX4.out _ rfl
        case done =>
          rintro D W hD ⟨⟨v, svs, k1, k2⟩, k3, k4⟩ hK
          have c2 := k1.cell 0
          simp only [List.getElem?_cons_zero] at c2
          have f2 := k1.frozen 0
          have HLN := Lib.hid k2
          have HV := Lib.hid k1
          have HBW := Lib.hid k4
          obtain ⟨pv, nv, cv, rfl⟩ : ∃ p n c, v = Value.slice p n c := by
            rcases k2.own.2 with ⟨e, _⟩ | ⟨g, cap, cur, e, _⟩
            · exact ⟨_, _, _, e⟩
            · exact ⟨_, _, _, e⟩
          clear k1 k2 k3 k4
          gi_wp2
          have hK2 := (KeepsOthers.setCell W ⟨w.heap.size, 0, none⟩ (.slice pv nv cv)).same D _ hK rfl
          have hrow : ∀ r, some D = some r → ∃ o : Obj, (W.setCell ⟨w.heap.size, 0, none⟩ (.slice pv nv cv)).heap[r]? = some o ∧ o.isCells = false := fun r e => by cases e; exact ⟨_, hK2, rfl⟩
          have hgr := grownBy_putObj' (W.setCell ⟨w.heap.size, 0, none⟩ (.slice pv nv cv)) D (.deferred none)
          have hbx := HBW.out.setCell (p := ⟨w.heap.size, 0, none⟩) (Nat.le_refl _) (.slice pv nv cv)
          have hby := hbx.grown hgr hbx.size (fun k e => by cases e; have := HB3.out.size; omega)
          have hln := (HLN.out.setCell (q := w.heap.size) (by have := HB3.out.size; omega) 0 (.slice pv nv cv)).grown hgr hrow
          have hv2 := ((HV.out.set (o := 0) (.slice pv nv cv)).grown hgr hrow).cell 0
          simp only [List.set_cons_zero, List.getElem?_cons_zero] at hv2
          have hR := HP.out _ (.slice pv nv cv) .nilIface svs w3.heap.size hby (by rw [HE.out]; rfl) (by rw [HL.out]; exact hln)
          refine ⟨by simp, .inl ⟨_, _, rfl, run_takeDeferred hK2, ?_⟩⟩
          refine ⟨_, ?_, hR⟩
          rw [results_cell_tmp rfl]
          go_simp
        case stop =>
          rintro D c pre W _ _ h _
          exact h.elim
end Go.Proofs.YtefnkoofgpmmmaaGreatDoor

/- RosterBelow: whom a label sees, one above it sees, too; a partition sees itself. Every input. -/
import Derived.Test.YtpkmgdpnimecfaaRosO
import Derived.Test.YtpkmgdpnimecfaaRos6
import Derived.Test.YtpkmgdpnimecfaaMapB
import Derived.Deep.DeepCutAuto
namespace Go.Proofs.Ytpkmgdpnimecfaa
open Go.ChangeShapes Go.WideShapes Go.ChangeAt Go.RowKit

theorem mOr_lt {x y : Nat} (hx : x < 65536) (hy : y < 65536) : mOr x y < 65536 := Nat.or_lt_two_pow (n := 16) hx hy
theorem leqB_bits {a b : Int} {x y : Nat} (hx : x < 65536) (hy : y < 65536) : leqB a x b y = true ↔ a ≤ b ∧ ∀ i, i < 16 → (x.testBit i && !y.testBit i) = false := by
  constructor
  · intro h
    refine ⟨?_, fun i _ => ?_⟩
    · simp only [leqB, Bool.and_eq_true, decide_eq_true_eq] at h; exact h.1
    · cases hq : (x.testBit i && !y.testBit i) with
      | false => rfl
      | true => rw [leqB_no hx hy hq] at h; cases h
  · intro ⟨h1, h2⟩
    rw [leqB_yes hx hy h2]
    simpa using h1
theorem leqB_refl (a : Int) {x : Nat} (hx : x < 65536) : leqB a x a x = true := (leqB_bits hx hx).2 ⟨Int.le_refl _, fun i _ => by cases x.testBit i <;> rfl⟩
theorem leqB_joinL {l a b : Int} {z x y : Nat} (hz : z < 65536) (hx : x < 65536) (hy : y < 65536) (h : leqB l z a x = true) : leqB l z (joinLv a b) (mOr x y) = true := by
  obtain ⟨h1, h2⟩ := (leqB_bits hz hx).1 h
  refine (leqB_bits hz (mOr_lt hx hy)).2 ⟨?_, fun i hi => ?_⟩
  · unfold joinLv; split <;> omega
  · rw [mOr_testBit]
    have := h2 i hi
    revert this
    cases z.testBit i <;> cases x.testBit i <;> cases y.testBit i <;> simp
theorem mem_belL {ls : List Lbl} {a : Int} {x : Nat} {i : Int} : ∀ {k : Nat}, i ∈ belL ls a x k ↔ ∃ j : Nat, j < k ∧ i = j ∧ leqB ls[j]!.1 ls[j]!.2 a x = true := by
  intro k
  induction k with
  | zero => simp [belL]
  | succ k ih =>
    simp only [belL, List.mem_append, ih]
    constructor
    · rintro (⟨j, h1, h2, h3⟩ | h)
      · exact ⟨j, by omega, h2, h3⟩
      · split at h
        · rename_i h3
          simp at h
          exact ⟨k, by omega, h, h3⟩
        · simp at h
    · rintro ⟨j, h1, h2, h3⟩
      by_cases e : j = k
      · subst e
        right
        rw [if_pos h3]
        simp [h2]
      · exact .inl ⟨j, by omega, h2, h3⟩
/-- the numbers of a list that were put in -/
def mIn (L : List Int) : Nat → List (Int × Bool)
  | 0 => []
  | k + 1 => mput (mIn L k) L[k]! true
theorem mIn_some (L : List Int) (k : Nat) : ∀ j, j < k → mlook (mIn L k) L[j]! = some true := by
  induction k with
  | zero => intro j h; omega
  | succ k ih =>
    intro j h
    unfold mIn
    by_cases e : L[j]! = L[k]!
    · rw [e]; exact mlook_put_same _ _ _
    · rw [mlook_put_other _ _ _ _ e]
      exact ih j (by rcases Nat.lt_or_ge j k with h1 | h1; exact h1; exact absurd (by rw [show j = k by omega]) e)
theorem mIn_all {L : List Int} {i : Int} (h : i ∈ L) : (mlook (mIn L L.length) i).getD false = true := by
  obtain ⟨j, hj, rfl⟩ := List.getElem_of_mem h
  have := mIn_some L L.length j hj
  rw [getElem!_pos L j hj] at this
  rw [this]; rfl
theorem belL_up {ls : List Lbl} (ho : okL ls) {a b : Int} {x y : Nat} (hx : x < 65536) (hy : y < 65536) {k : Nat} (hk : k < (belL ls a x ls.length).length) :
    (mlook (mIn (belL ls (joinLv a b) (mOr x y) ls.length) (belL ls (joinLv a b) (mOr x y) ls.length).length) (belL ls a x ls.length)[k]!).getD false = true := by
  have hm : (belL ls a x ls.length)[k]! ∈ belL ls a x ls.length := by rw [getElem!_pos _ k hk]; exact List.getElem_mem hk
  obtain ⟨j, h1, h2, h3⟩ := mem_belL.1 hm
  exact mIn_all (mem_belL.2 ⟨j, h1, h2, leqB_joinL (ho j h1) hx hy h3⟩)
/-- was the number among the first k? -/
def wasIn (L : List Int) (i : Int) : Nat → Bool
  | 0 => false
  | k + 1 => wasIn L i k || decide (L[k]! = i)
theorem wasIn_mem {L : List Int} {i : Int} (h : i ∈ L) : wasIn L i L.length = true := by
  have key : ∀ k j, j < k → L[j]! = i → wasIn L i k = true := by
    intro k
    induction k with
    | zero => intro j h; omega
    | succ k ih =>
      intro j h1 h2
      unfold wasIn
      by_cases e : j = k
      · subst e; simp [h2]
      · rw [ih j (by omega) h2]; rfl
  obtain ⟨j, hj, rfl⟩ := List.getElem_of_mem h
  exact key _ j hj (by rw [getElem!_pos L j hj])
theorem belL_self {ls : List Lbl} (ho : okL ls) {k : Nat} (hk : k < ls.length) : wasIn (belL ls ls[k]!.1 ls[k]!.2 ls.length) k (belL ls ls[k]!.1 ls[k]!.2 ls.length).length = true :=
  wasIn_mem (mem_belL.2 ⟨k, hk, rfl, leqB_refl _ (ho k hk)⟩)
theorem new_bounds {ls : List Lbl} {ps : List Psn} (h : newC ls ps = 0) : 1 ≤ ls.length ∧ ls.length ≤ 4 ∧ ps.length ≤ 12 := by
  unfold newC at h
  split at h
  · cases h
  · omega
theorem find_self {ls : List Lbl} {ps : List Psn} (h : newC ls ps = 0) {k : Nat} (hk : k < ls.length) : idxI (fun y : Int × Nat => ls[k]!.1 == y.1 && ls[k]!.2 == y.2) ls = k := by
  refine idxI_hit hk (by simp) fun j hj => ?_
  cases hq : (ls[k]!.1 == ls[j]!.1 && ls[k]!.2 == ls[j]!.2) with
  | false => rfl
  | true =>
    exfalso
    unfold newC at h
    split at h
    · cases h
    split at h
    · cases h
    split at h
    · cases h
    rename_i h3
    exact h3 ⟨k, hk, dup_hit hk hj hq⟩

abbrev eI (n : Int) : Value := .int .i64 n
abbrev eB (b : Bool) : Value := .bool b
/-- the map of the call's own -/
def MapAt (W0 wr : World) (bm : Nat) (m : List (Int × Bool)) : Prop := Below W0.heap.size W0 wr ∧ W0.heap.size ≤ bm ∧ MapIs wr bm eI eB m
theorem MapAt.mk (W0 : World) : MapAt W0 (W0.alloc (.map #[] 0)) W0.heap.size [] := ⟨below1 _ _, Nat.le_refl _, MapIs.made _ _ _⟩
theorem MapAt.next {W0 wr w2 : World} {bm : Nat} {m : List (Int × Bool)} (h : MapAt W0 wr bm m) (hb : Below wr.heap.size wr w2) : MapAt W0 w2 bm m :=
  ⟨h.1.trans (hb.mono h.1.size), h.2.1, h.2.2.below hb h.2.2.lt⟩
theorem MapAt.store {W0 wr w2 : World} {bm : Nat} {m m' : List (Int × Bool)} (h : MapAt W0 wr bm m) (hM : MapIs w2 bm eI eB m') (hg : wr.grownBy w2 (some bm)) : MapAt W0 w2 bm m' :=
  ⟨h.1.grown hg h.1.size (fun j hj => by cases hj; exact h.2.1), h.2.1, hM⟩
theorem not_map {w : World} {b o : Nat} {v : Value} {es : Array MapEntry} {c : Nat} (h : w.cell? ⟨b, o, none⟩ = some v) (hm : w.heap[b]? = some (.map es c)) : False := by
  unfold World.cell? at h
  simp [hm] at h
theorem SlAt.grown {α : Type} [Inhabited α] {k : Nat} (hk0 : 0 < k) {enc : α → List Value} (hk : ∀ x, (enc x).length = k) {w w' : World} {v : Value} {xs : List α} {bm : Nat} {m : List (Int × Bool)} (h : SlAt k enc w v xs) (hm : MapIs w bm eI eB m) (hg : w.grownBy w' (some bm)) :
    SlAt k enc w' v xs := by
  obtain ⟨p, c, hv, hn, hc⟩ := h
  obtain ⟨es, ck, hmm, _⟩ := hm
  refine ⟨p, c, hv, hn, fun hl => ?_⟩
  obtain ⟨b, off, hp, hlt, hcell⟩ := hc hl
  have hne : b ≠ bm := by
    rintro rfl
    have h0 := hcell 0 hl 0 _ (List.getElem?_eq_getElem (by rw [hk]; exact hk0))
    exact not_map h0 hmm
  exact ⟨b, off, hp, Nat.lt_of_lt_of_le hlt hg.size, fun j hj i u hu => (World.cell?_of_block (w := w) (hg.block _ hlt (by simpa using hne))).trans (hcell j hj i u hu)⟩

theorem zeroBB (w : World) : (zeroValue 4).run Try.prog w = .ok (.bool false) w := by kernel_rfl
theorem keyIB : KeyOf Try.prog 3 eI := keyOf_i64 Try.underlying3
set_option maxRecDepth 100000 in
set_option maxHeartbeats 8000000 in
theorem rosterBelow_walk (vl vp : Value) (ls : List Lbl) (ps : List Psn) (a b : Int) (x y : Nat) (w : World) (hL : SlAt 2 encL w vl ls) (hP : SlAt 3 encP w vp ps) (hml : ls.length ≤ maxLen) (hmp : ps.length ≤ maxLen)
    (ho : okL ls) (hop : okP ps) (hx : x < 65536) (hy : y < 65536) :
    Calls Try.prog 10 #[vl, vp, (.agg #[.int .i64 (a), .int .u16 ((x : Nat) : Int)]), (.agg #[.int .i64 (b), .int .u16 ((y : Nat) : Int)])] w fun e w' => e = .returned (.bool true) ∧ Below w.heap.size w w' := by
  have HL := Lib.hid hL
  have HP := Lib.hid hP
  have HA := Lib.hid (BoxAt.mk w a x)
  have HO := Lib.hid ho
  have HX := Lib.hid hx
  have HY := Lib.hid hy
  have HML := Lib.hid hml
  have HMP := Lib.hid hmp
  obtain ⟨pl, cl, rfl, _, _⟩ := id hL
  obtain ⟨pp, cp, rfl, _, _⟩ := id hP
  have hmm := @run_makeMap Try.prog
  clear hL hP ho hop hx hy hml hmp
  go_enter Try.func10, Try.ntmps10
  have HB := Lib.hid (BoxAt.mk (w.alloc (.cells #[.int .i64 a, .int .u16 (x : Int)] 48)) b y)
  have HA := Lib.hid (HA.out.next (below1 _ (.cells #[.int .i64 b, .int .u16 (y : Int)] 48)))
  go_wp2_with fail
  refine (awake02 _).mono ?_
  rintro e w1 ⟨rfl, hb⟩
  have HA := Lib.hid (HA.out.next hb)
  have HB := Lib.hid (HB.out.next hb)
  clear hb
  go_wp2_with fail
  refine (refNew _ _ ls ps _ (HL.out.below HA.out.1) (HP.out.below HA.out.1) HML.out HMP.out).mono ?_
  rintro e w2 ⟨rfl, hb⟩
  have HA := Lib.hid (HA.out.next hb)
  have HB := Lib.hid (HB.out.next hb)
  clear hb
  by_cases hc0 : newC ls ps = 0
  · have HC0 := Lib.hid hc0
    rw [hc0]
    clear hc0
    have hbd := new_bounds HC0.out
    go_wp2_with fail
    refine (rosterNew _ _ ls ps _ (HL.out.below HA.out.1) (HP.out.below HA.out.1) (by omega) (by omega)).mono ?_
    rintro e w3 ⟨pv, rfl, hb, _, hr0⟩
    obtain ⟨r, rfl, hr⟩ := hr0 HC0.out
    clear hr0
    rw [HC0.out]
    have HA := Lib.hid (HA.out.next hb)
    have HB := Lib.hid (HB.out.next hb)
    have HR := Lib.hid (show Ros w3 (.pointer (some ⟨r, 0, none⟩)) ls ps from .inr ⟨r, rfl, hr⟩)
    clear hb hr
    go_upto_region 5 with fail
    have HM := Lib.hid (MapAt.mk w3)
    have HW := Lib.hid (HL.out.below HA.out.1)
    have HR0 := Lib.hid (HR.out.below (below1 _ (.map #[] 0)))
    have ez : (w.alloc (.cells #[.int .i64 a, .int .u16 (x : Int)] 48)).heap.size = w.heap.size + 1 := by simp
    have f0 := HA.out.2.2.1
    have f1 := HA.out.2.2.2
    have f5 := HA.out.2.1
    have e0 := (HA.out.next (below1 _ (.map #[] 0))).2.2.1
    have e1 := (HA.out.next (below1 _ (.map #[] 0))).2.2.2
    have e2 := (HB.out.next (below1 _ (.map #[] 0))).2.2.1
    have e3 := (HB.out.next (below1 _ (.map #[] 0))).2.2.2
    have e5 := (HA.out.next (below1 _ (.map #[] 0))).2.1
    have e4 := (HB.out.next (below1 _ (.map #[] 0))).2.1
    rw [ez] at e2 e3 e4
    generalize w3.alloc (.map #[] 0) = W0 at HM HR0 e0 e1 e2 e3 e4 e5 ⊢
    generalize w3.heap.size = bm at HM ⊢
    have F0 := Lib.hid f0
    have F1 := Lib.hid f1
    have F5 := Lib.hid f5
    clear f0 f1 f5 ez
    go_wp2_with fail
    refine (ref01Join a b x y HX.out HY.out _).mono ?_
    rintro e w4 ⟨rfl, hb4⟩
    go_wp2_with fail
    refine (rosBelow _ ls ps _ _ _ (HR0.out.below hb4) (by omega) HO.out (mOr_lt HX.out HY.out)).mono ?_
    rintro e w5 ⟨v1, rfl, hS1, hb5⟩
    have HUP := Lib.hid (fun k hk => belL_up (ls := ls) HO.out (a := a) (b := b) (x := x) (y := y) HX.out HY.out (k := k) hk)
    have hl1 := belL_len ls (joinLv a b) (mOr x y) ls.length
    generalize belL ls (joinLv a b) (mOr x y) ls.length = L1 at hS1 HUP hl1
    have HM := Lib.hid ((HM.out.next hb4).next hb5)
    clear hb4 hb5 e0 e1 e2 e3 e4 e5 HR0
    obtain ⟨p1, c1, rfl, _, _⟩ := id hS1
    go_wp2
    go_loopw [43] (fun i wr => ∃ k : Nat, k ≤ L1.length ∧ i = .int .i64 k ∧ MapAt w3 wr bm (mIn L1 k) ∧ SlAt 1 encI wr (.slice p1 L1.length c1) L1) (fun i _ => L1.length - (intOf i).toNat)
    case atStart => exact ⟨0, by omega, rfl, HM.out, hS1⟩
    case round =>
      clear HM hS1
      obtain ⟨k, hk, rfl, hM, hS⟩ := hrel
      have HM := Lib.hid hM
      have HS := Lib.hid hS
      clear hM hS
      by_cases hlt : k < L1.length
      · have hltz : (k : Int) < (L1.length : Int) := by omega
        obtain ⟨p', c', hv, _, hc⟩ := id HS.out
        simp only [Value.slice.injEq] at hv
        obtain ⟨rfl, _, rfl⟩ := hv
        obtain ⟨bk, off, rfl, hb, hcell⟩ := hc (by omega)
        have d1 : wr.cell? ⟨bk, off + k, none⟩ = some (.int .i64 L1[k]!) := by have := hcell k hlt 0 _ rfl; simpa using this
        have HE := Lib.hid (show mIn L1 (k + 1) = mput (mIn L1 k) L1[k]! true from rfl)
        clear hcell hc
        generalize L1[k]! = q at d1 HE
        go_wp2_with (at_mapUpdate; refine wpList_store rfl _ _ _ 28 rfl 3 4 keyIB Try.underlying28 bm (mIn L1 k) rfl HM.out.2.2 q rfl true rfl ?_; intro w6 hM6 hg)
        go_roundw
        case rel =>
          have h1 : MapAt w3 w6 bm (mIn L1 (k + 1)) := by rw [HE.out]; exact HM.out.store hM6 hg
          have h2 := SlAt.grown (k := 1) (enc := encI) (by decide) (fun _ => rfl) HS.out HM.out.2.2 hg
          first | exact ⟨k + 1, by omega, by go_num, h1, h2⟩ | ((repeat apply Exists.intro); exact ⟨⟨k + 1, by omega, by go_num, h1, h2⟩, rfl⟩)
        case measure => simp [intOf] <;> omega
      · obtain rfl : L1.length = k := by omega
        clear hk hlt
        generalize mIn L1 L1.length = M1 at HM HUP
        clear HS
        have hbw := HM.out.1
        have g0 := (hbw.cell (p := ⟨w.heap.size, 0, none⟩) F5.out).trans F0.out
        have g1 := (hbw.cell (p := ⟨w.heap.size, 1, none⟩) F5.out).trans F1.out
        have g5 := Nat.lt_of_lt_of_le F5.out hbw.size
        go_wp2_with fail
        refine (rosBelow _ ls ps _ _ _ (HR.out.below hbw) (by omega) HO.out HX.out).mono ?_
        rintro e w5 ⟨v2, rfl, hS2, hb5⟩
        have hl2 := belL_len ls a x ls.length
        generalize belL ls a x ls.length = L2 at hS2 HUP hl2
        obtain ⟨p2, c2, rfl, _, _⟩ := id hS2
        have HM := Lib.hid (HM.out.next hb5)
        clear hb5 g0 g1 g5 hbw
        go_wp2
        go_loopw [54] (fun i wr => ∃ k : Nat, k ≤ L2.length ∧ i = .int .i64 k ∧ MapAt w3 wr bm M1 ∧ SlAt 1 encI wr (.slice p2 L2.length c2) L2) (fun i _ => L2.length - (intOf i).toNat)
        case atStart => exact ⟨0, by omega, rfl, HM.out, hS2⟩
        case round =>
          clear HM hS2
          obtain ⟨k, hk, rfl, hM, hS⟩ := hrel
          have HM := Lib.hid hM
          have HS := Lib.hid hS
          clear hM hS
          by_cases hlt : k < L2.length
          · have hltz : (k : Int) < (L2.length : Int) := by omega
            obtain ⟨p', c', hv, _, hc⟩ := id HS.out
            simp only [Value.slice.injEq] at hv
            obtain ⟨rfl, _, rfl⟩ := hv
            obtain ⟨bk, off, rfl, hb, hcell⟩ := hc (by omega)
            have d1 : wr.cell? ⟨bk, off + k, none⟩ = some (.int .i64 L2[k]!) := by have := hcell k hlt 0 _ rfl; simpa using this
            have HQ := Lib.hid (HUP.out k hlt)
            clear hcell hc
            generalize L2[k]! = q at d1 HQ
            go_wp2_with (at_lookup; refine wpList_look rfl _ _ 28 rfl 3 4 keyIB Try.underlying28 false (zeroBB _) bm M1 rfl HM.out.2.2 q rfl ?_; rw [HQ.out])
            go_roundw
            case rel => first | exact ⟨k + 1, by omega, by go_num, HM.out, HS.out⟩ | ((repeat apply Exists.intro); exact ⟨⟨k + 1, by omega, by go_num, HM.out, HS.out⟩, rfl⟩)
            case measure => simp [intOf] <;> omega
          · obtain rfl : L2.length = k := by omega
            clear hk hlt HS
            have HN := Lib.hid HM.out.1
            clear HM HUP
            go_wp2
            go_loopw [65] (fun i wr => ∃ k : Nat, k ≤ ls.length ∧ i = .int .i64 k ∧ Below w3.heap.size w3 wr) (fun i _ => ls.length - (intOf i).toNat)
            case atStart => exact ⟨0, by omega, rfl, HN.out⟩
            case round =>
              clear HN
              obtain ⟨k, hk, rfl, hB⟩ := hrel
              have HN := Lib.hid hB
              clear hB
              by_cases hlt : k < ls.length
              · have hltz : (k : Int) < (ls.length : Int) := by omega
                obtain ⟨p', c', hv, _, hc⟩ := HW.out.below HN.out
                simp only [Value.slice.injEq] at hv
                obtain ⟨rfl, _, rfl⟩ := hv
                obtain ⟨bk, off, rfl, hb, hcell⟩ := hc (by omega)
                have d0 : wr.cell? ⟨bk, off + k * 2, none⟩ = some (.int .i64 ls[k]!.1) := hcell k hlt 0 _ rfl
                have d1 : wr.cell? ⟨bk, off + k * 2 + 1, none⟩ = some (.int .u16 (ls[k]!.2 : Int)) := hcell k hlt 1 _ rfl
                have HS := Lib.hid (belL_self HO.out hlt)
                have HF := Lib.hid (find_self HC0.out hlt)
                have hx' := HO.out k hlt
                clear hcell hc
                generalize ls[k]!.1 = a1 at d0 HS HF
                generalize ls[k]!.2 = x1 at d1 HS HF hx'
                have HX1 := Lib.hid hx'
                clear hx'
                go_upto_region 20 with fail
                have HN2 := Lib.hid (HN.out.alloc HN.out.size (.cells #[.int .i64 a1, .int .u16 (x1 : Int)] 48))
                have k0 : (wr.alloc (.cells #[.int .i64 a1, .int .u16 (x1 : Int)] 48)).cell? ⟨wr.heap.size, 0, none⟩ = some (.int .i64 a1) := by go_simp
                have k1 : (wr.alloc (.cells #[.int .i64 a1, .int .u16 (x1 : Int)] 48)).cell? ⟨wr.heap.size, 1, none⟩ = some (.int .u16 (x1 : Int)) := by go_simp
                have kz : wr.heap.size < (wr.alloc (.cells #[.int .i64 a1, .int .u16 (x1 : Int)] 48)).heap.size := by simp
                generalize wr.alloc (.cells #[.int .i64 a1, .int .u16 (x1 : Int)] 48) = W1 at HN2 k0 k1 kz ⊢
                generalize wr.heap.size = B1 at k0 k1 kz ⊢
                go_wp2_with fail
                refine (rosBelow _ ls ps _ _ _ (HR.out.below HN2.out) (by omega) HO.out HX1.out).mono ?_
                rintro e w5 ⟨v3, rfl, hS3, hb5⟩
                have hl3 := belL_len ls a1 x1 ls.length
                generalize belL ls a1 x1 ls.length = L3 at hS3 HS hl3
                obtain ⟨p3, c3, rfl, _, _⟩ := id hS3
                have HN3 := Lib.hid (HN2.out.trans (hb5.mono HN2.out.size))
                have k0' := (hb5.cell (p := ⟨B1, 0, none⟩) kz).trans k0
                have k1' := (hb5.cell (p := ⟨B1, 1, none⟩) kz).trans k1
                have kz' := Nat.lt_of_lt_of_le kz hb5.size
                clear hb5 k0 k1 kz HN2 d0 d1
                go_wp2
                go_loopw [18, 74] (fun o i wq => ∃ q : Nat, q ≤ L3.length ∧ i = .int .i64 q ∧ o = .bool (wasIn L3 k q) ∧ Below w5.heap.size w5 wq) (fun _ i _ => L3.length - (intOf i).toNat)
                case atStart => exact ⟨0, by omega, rfl, rfl, Below.refl _ _⟩
                case round =>
                  obtain ⟨q, hq, rfl, rfl, hB⟩ := hrel
                  have HB5 := Lib.hid hB
                  clear hB
                  by_cases hlt2 : q < L3.length
                  · have hltz2 : (q : Int) < (L3.length : Int) := by omega
                    obtain ⟨p', c', hv, _, hc⟩ := hS3.below HB5.out
                    simp only [Value.slice.injEq] at hv
                    obtain ⟨rfl, _, rfl⟩ := hv
                    obtain ⟨bk3, off3, rfl, hb3, hcell⟩ := hc (by omega)
                    have d3 : wr.cell? ⟨bk3, off3 + q, none⟩ = some (.int .i64 L3[q]!) := by have := hcell q hlt2 0 _ rfl; simpa using this
                    have HE := Lib.hid (show wasIn L3 k (q + 1) = (wasIn L3 k q || (L3[q]! == (k : Int))) from rfl)
                    clear hcell hc
                    generalize L3[q]! = v at d3 HE
                    cases t0 : wasIn L3 k q with
                    | true =>
                      rw [t0] at HE
                      clear t0
                      go_wp2
                      go_roundw
                      case rel =>
                        have he : wasIn L3 k (q + 1) = true := by rw [HE.out]; rfl
                        first | exact ⟨q + 1, by omega, by go_num, by rw [he], HB5.out⟩ | ((repeat apply Exists.intro); exact ⟨⟨q + 1, by omega, by go_num, by rw [he], HB5.out⟩, rfl⟩)
                      case measure => simp [intOf] <;> omega
                    | false =>
                      rw [t0] at HE
                      clear t0
                      cases t1 : (v == (k : Int)) with
                      | true =>
                        rw [t1] at HE
                        go_wp2
                        go_roundw
                        case rel =>
                          have he : wasIn L3 k (q + 1) = true := by rw [HE.out]; rfl
                          first | exact ⟨q + 1, by omega, by go_num, by rw [he], HB5.out⟩ | ((repeat apply Exists.intro); exact ⟨⟨q + 1, by omega, by go_num, by rw [he], HB5.out⟩, rfl⟩)
                        case measure => simp [intOf] <;> omega
                      | false =>
                        rw [t1] at HE
                        go_wp2
                        go_roundw
                        case rel =>
                          have he : wasIn L3 k (q + 1) = false := by rw [HE.out]; rfl
                          first | exact ⟨q + 1, by omega, by go_num, by rw [he], HB5.out⟩ | ((repeat apply Exists.intro); exact ⟨⟨q + 1, by omega, by go_num, by rw [he], HB5.out⟩, rfl⟩)
                        case measure => simp [intOf] <;> omega
                  · obtain rfl : L3.length = q := by omega
                    rw [HS.out]
                    have k0 := (HB5.out.cell (p := ⟨B1, 0, none⟩) kz').trans k0'
                    have k1 := (HB5.out.cell (p := ⟨B1, 1, none⟩) kz').trans k1'
                    have kz := Nat.lt_of_lt_of_le kz' HB5.out.size
                    have hf := rosFind _ ls ps a1 x1 wr (HR.out.below (HN3.out.trans (HB5.out.mono HN3.out.size))) (by omega)
                    rw [HF.out] at hf
                    have HN4 := Lib.hid (HN3.out.trans (HB5.out.mono HN3.out.size))
                    go_wp2_with fail
                    refine hf.mono ?_
                    rintro e w7 ⟨rfl, hb7⟩
                    clear hf
                    go_wp2
                    go_roundw
                    case rel =>
                      have h1 := HN4.out.trans (hb7.mono HN4.out.size)
                      first | exact ⟨k + 1, by omega, by go_num, h1⟩ | ((repeat apply Exists.intro); exact ⟨⟨k + 1, by omega, by go_num, h1⟩, rfl⟩)
                    case measure => simp [intOf] <;> omega
              · obtain rfl : ls.length = k := by omega
                go_wp2
                go_ret
                exact ⟨rfl, (HA.out.1.trans (HN.out.mono HA.out.1.size))⟩
  · have hcb : (newC ls ps == 0) = false := by simpa using hc0
    generalize newC ls ps = c at hc0 hcb ⊢
    go_wp2_with fail
    refine (awake02 _).mono ?_
    rintro e w3 ⟨rfl, hb⟩
    have HA := Lib.hid (HA.out.next hb)
    clear hb
    go_wp2
    go_ret
    exact ⟨by simp, HA.out.1⟩

set_option maxRecDepth 100000 in
theorem rosterBelow_lifted (os : Os) (started : os.Started) (H : Type) (enc : TypeId × Value → H) :
    ReturnsInHanded {} Try.checked os 10 .any (Rows.rosterBelowSpec.pre6 enc Try.prog Try.f10 Rows.rosterBelowRow.domain false) (Rows.rosterBelowSpec.post enc Try.prog Try.f10 false true false false) := by
  refine law_lift started Try.func10 (by kernel_rfl) (by kernel_rfl) rfl (by kernel_rfl) ?_
    (ChangeSpec.witness6 (enc := enc) (C := Try.checked) false ⟨#[], #[.slice none 0 0, .slice none 0 0, (.agg #[.int .i64 (0), .int .u16 ((0 : Nat) : Int)]), (.agg #[.int .i64 (0), .int .u16 ((0 : Nat) : Int)])], []⟩ 8 (by kernel_rfl) (by kernel_rfl) (by kernel_rfl) (by kernel_rfl)) ?_
  · intro ds hd
    rw [Try.params10] at hd
    match ds, hd with
    | [d0, d1, d2, d3], _ => rfl
  · intro W base args ds ps hval hA
    rw [Try.params10] at hA hval
    obtain ⟨v0, vs0, d0, ds0, p0, q0, hargs, rfl, rfl, h0, r0⟩ := trodAll_cons hA
    obtain ⟨v1, vs1, d1, ds1, p1, q1, rfl, rfl, rfl, h1, r1⟩ := trodAll_cons r0
    obtain ⟨v2, vs2, d2, ds2, p2, q2, rfl, rfl, rfl, h2, r2⟩ := trodAll_cons r1
    obtain ⟨v3, vs3, d3, ds3, p3, q3, rfl, rfl, rfl, h3, r3⟩ := trodAll_cons r2
    obtain ⟨rfl, rfl, rfl⟩ := trodAll_nil r3
    obtain rfl : args = #[v0, v1, v2, v3] := by cases args; simp_all
    obtain ⟨s0, n0, k0, rfl⟩ := okWide_slice Try.underlying44 (hval 0 44 v0 rfl rfl)
    obtain ⟨s1, n1, k1, rfl⟩ := okWide_slice Try.underlying45 (hval 1 45 v1 rfl rfl)
    obtain ⟨ls, hL, ho, hml⟩ := open_structs (encA := encL) (ok := fun l : Lbl => l.2 < 65536) (k := 2) (by decide) (fun _ => rfl) Try.underlying44 (by kernel_rfl) (fun n cs y h => lbl_of h) rfl h0
    obtain ⟨ps, hP, hop, hmp⟩ := open_structs (encA := encP) (ok := fun p : Psn => p.2.2 < 65536) (k := 3) (by decide) (fun _ => rfl) Try.underlying45 (by kernel_rfl) (fun n cs y h => psn_of h) rfl h1
    obtain ⟨a, x, hx, rfl⟩ := open_L (hval 2 48 v2 rfl rfl) h2
    obtain ⟨b, y, hy, rfl⟩ := open_L (hval 3 48 v3 rfl rfl) h3
    exact rosterBelow_walk _ _ ls ps _ _ _ _ _ hL hP hml hmp ho hop hx hy

theorem rosterBelow_holds : Rows.RosterBelowSaid :=
  OpenClaim.holds_of_wide 10 Try.f10 rfl rfl rfl rfl rfl rfl rfl ⟨rfl, rfl, rfl, rfl, rfl⟩ rfl rfl rfl rfl rfl (by kernel_rfl) Try.func10 (by kernel_rfl)
    (of_decide_eq_true (by kernel_rfl)) (by unfold Func.isWrapper; first | (rw [if_pos (by decide +kernel)]; kernel_rfl) | (rw [if_neg (by decide +kernel)]; exact ⟨rfl, rfl⟩))
    (fun os started H enc _ => rosterBelow_lifted os started H enc)
end Go.Proofs.Ytpkmgdpnimecfaa

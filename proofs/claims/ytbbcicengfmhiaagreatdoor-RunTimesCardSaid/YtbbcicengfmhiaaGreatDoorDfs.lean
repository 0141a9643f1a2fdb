/- order.all: who must be done ahead of a task: the closure that calls itself, by its fuel. Conditions: a pipeline that may be. -/
import Derived.Test.YtbbcicengfmhiaaGreatDoorMan2
import Derived.Test.YtbbcicengfmhiaaGreatDoorOrd0
import Derived.Laws.EntriesVeiled
import Derived.OwnWalk
import Derived.Shelf.Abstract
import Derived.Lib.SmallJoins
namespace Go.Proofs.YtbbcicengfmhiaaGreatDoor
open Go.RowKit

theorem SlAt.cellI {w : World} {xs : List Int} {p : Option Addr} {m c : Nat} (h : SlAt 1 encI w (.slice p m c) xs) {k : Nat} (hk : k < xs.length) : ∃ b o, p = some ⟨b, o, none⟩ ∧ w.cell? ⟨b, o + k, none⟩ = some (.int .i64 xs[k]!) := by
  obtain ⟨p', c', hv, _, hc⟩ := h
  simp only [Value.slice.injEq] at hv
  obtain ⟨rfl, _, rfl⟩ := hv
  obtain ⟨b, o, rfl, _, hcell⟩ := hc (by omega)
  exact ⟨b, o, rfl, by simpa using hcell k hk 0 _ rfl⟩
def afters (ts : List TaskV) : List (List Int) := ts.map (·.after)
theorem afters_len (ts : List TaskV) : (afters ts).length = ts.length := by simp [afters]
theorem afters_at {ts : List TaskV} {j : Nat} (hj : j < ts.length) : (afters ts)[j]! = ts[j]!.after := by
  rw [getElem!_pos _ _ (by rw [afters_len]; exact hj), getElem!_pos ts j hj]
  simp [afters]
/-- all that a pipeline's tasks come behind are tasks -/
def AftIn (ts : List TaskV) : Prop := ∀ j, j < ts.length → ∀ k, k < ts[j]!.after.length → 0 ≤ ts[j]!.after[k]! ∧ ts[j]!.after[k]! < ts.length

/-- the closure's boxes, and who is met -/
def DAt (w0 : World) (Bp B1 B2 B3 bm n : Nat) (met : List Bool) (w : World) : Prop :=
  Below w0.heap.size w0 w ∧ (w0.heap.size ≤ B1 ∧ w0.heap.size ≤ B2 ∧ w0.heap.size ≤ B3 ∧ w0.heap.size ≤ bm) ∧ (bm ≠ B1 ∧ bm ≠ B2 ∧ bm ≠ B3) ∧
  w.heap[B1]? = some (.cells #[.pointer (some ⟨Bp, 0, none⟩)] 111 (0, 0)) ∧ w.heap[B2]? = some (.cells #[.slice (some ⟨bm, 0, none⟩) n n] 168 (0, 0)) ∧
  w.heap[B3]? = some (.cells #[.func (.func 147) #[] #[.pointer (some ⟨B1, 0, none⟩), .pointer (some ⟨B2, 0, none⟩), .pointer (some ⟨B3, 0, none⟩)]] 54 (0, 0)) ∧
  w.heap[bm]? = some (.cells (met.map Value.bool).toArray 4 (0, 0)) ∧ met.length = n
theorem DAt.met {w0 w : World} {Bp B1 B2 B3 bm n : Nat} {met : List Bool} (h : DAt w0 Bp B1 B2 B3 bm n met w) {a : Nat} (ha : a < n) : w.cell? ⟨bm, a, none⟩ = some (.bool met[a]!) ∧ w.frozen? ⟨bm, a, none⟩ = false := by
  obtain ⟨_, _, _, _, _, _, h7, h8⟩ := h
  refine ⟨?_, Lib.frozen_of_heap h7 a⟩
  rw [Lib.cell_of_heap h7, getElem!_pos met a (by omega)]
  simp [show a < met.length by omega]
theorem DAt.cells {w0 w : World} {Bp B1 B2 B3 bm n : Nat} {met : List Bool} (h : DAt w0 Bp B1 B2 B3 bm n met w) : w.cell? ⟨B1, 0, none⟩ = some (.pointer (some ⟨Bp, 0, none⟩)) ∧ w.cell? ⟨B2, 0, none⟩ = some (.slice (some ⟨bm, 0, none⟩) n n) ∧
    w.cell? ⟨B3, 0, none⟩ = some (.func (.func 147) #[] #[.pointer (some ⟨B1, 0, none⟩), .pointer (some ⟨B2, 0, none⟩), .pointer (some ⟨B3, 0, none⟩)]) := by
  obtain ⟨_, _, _, h4, h5, h6, _, _⟩ := h
  exact ⟨by rw [Lib.cell_of_heap h4]; rfl, by rw [Lib.cell_of_heap h5]; rfl, by rw [Lib.cell_of_heap h6]; rfl⟩
theorem DAt.set {w0 w : World} {Bp B1 B2 B3 bm n : Nat} {met : List Bool} (h : DAt w0 Bp B1 B2 B3 bm n met w) (a : Nat) : DAt w0 Bp B1 B2 B3 bm n (met.set a true) (w.setCell ⟨bm, a, none⟩ (.bool true)) := by
  obtain ⟨h1, ⟨z1, z2, z3, z4⟩, ⟨n1, n2, n3⟩, h4, h5, h6, h7, h8⟩ := h
  refine ⟨h1.setCell (p := ⟨bm, a, none⟩) z4 _, ⟨z1, z2, z3, z4⟩, ⟨n1, n2, n3⟩, ?_, ?_, ?_, ?_, by rw [List.length_set, h8]⟩
  · rw [Below.heap_setCell _ _ _ _ n1.symm]; exact h4
  · rw [Below.heap_setCell _ _ _ _ n2.symm]; exact h5
  · rw [Below.heap_setCell _ _ _ _ n3.symm]; exact h6
  · rw [Joins.block_setCell h7]
    simp [List.map_set]
theorem DAt.below {w0 w w' : World} {Bp B1 B2 B3 bm n : Nat} {met : List Bool} (h : DAt w0 Bp B1 B2 B3 bm n met w) (hb : Below w.heap.size w w') : DAt w0 Bp B1 B2 B3 bm n met w' := by
  obtain ⟨h1, h2, h3, h4, h5, h6, h7, h8⟩ := h
  have lt : ∀ {q o}, w.heap[q]? = some o → q < w.heap.size := fun h => (Array.getElem?_eq_some_iff.1 h).1
  exact ⟨h1.trans (hb.mono h1.size), h2, h3, (hb.block _ (lt h4)).trans h4, (hb.block _ (lt h5)).trans h5, (hb.block _ (lt h6)).trans h6, (hb.block _ (lt h7)).trans h7, h8⟩

theorem eg146 : ∀ args w, (callFunc 147 args).run Tryz.prog w = .ok (.enter 147 args) w := enters_of Tryz.func147 (by kernel_rfl) rfl
set_option maxRecDepth 100000 in
set_option maxHeartbeats 4000000 in
theorem dfsC (nm : ByteArray) (v : Value) (ts : List TaskV) (w0 : World) (Bp B1 B2 B3 bm : Nat) (hP : PipeAt w0 Bp nm v ts) (haf : AftIn ts) (hlen : ts.length ≤ 1000) (hla : ∀ j, j < ts.length → ts[j]!.after.length ≤ maxLen) :
    ∀ (f : Nat) (met : List Bool) (i : Nat) (w : World), DAt w0 Bp B1 B2 B3 bm ts.length met w → openN met < f → i < ts.length →
      Calls Tryz.prog 147 #[.int .i64 (i : Int), .pointer (some ⟨B1, 0, none⟩), .pointer (some ⟨B2, 0, none⟩), .pointer (some ⟨B3, 0, none⟩)] w fun e w' => e = .returned (.tuple #[]) ∧ DAt w0 Bp B1 B2 B3 bm ts.length (dfsF (afters ts) f met i) w' := by
  have HP := Lib.hid hP
  have HAF := Lib.hid haf
  have HLA := Lib.hid hla
  obtain ⟨p, c, rfl, hp⟩ := hP.2.2.2.val
  have HPP := Lib.hid hp
  clear hP haf hla hp
  intro f
  induction f with
  | zero => intro met i w _ h; omega
  | succ f ih =>
    intro met i w hD hop hi
    have HIH := Lib.hid ih
    have HD := Lib.hid hD
    have HOP := Lib.hid hop
    obtain ⟨b, off, rfl⟩ := HPP.out (by omega)
    have HPw := Lib.hid (HP.out.below hD.1)
    obtain ⟨_, c0, c1, hts⟩ := HPw.out
    obtain ⟨_, d1, _⟩ := (hts.at hi).cells
    have HS := Lib.hid (hts.at hi).2.2
    obtain ⟨e1, e2, e3⟩ := hD.cells
    have HE := Lib.hid (show dfsF (afters ts) (f + 1) met (i : Int) = dfsK (afters ts) f ts[i]!.after met ts[i]!.after.length by
      rw [dfsF_eq]
      simp only [Int.toNat_natCast]
      rw [afters_at hi])
    have HK := Lib.hid (fun k (hk : k < ts[i]!.after.length) => dfsK_succ (afters ts) f ts[i]!.after met hk)
    have HL := Lib.hid (fun k => dfsK_len (afters ts) f ts[i]!.after met k)
    have HO := Lib.hid (fun k => dfsK_open (afters ts) f ts[i]!.after met k)
    have HI := Lib.hid (HAF.out i hi)
    have hm := HLA.out i hi
    unfold maxLen at hm
    obtain ⟨pp, cc, hv, ⟨hcap, _⟩, _⟩ := id HS.out
    rw [hv] at d1
    have HV := Lib.hid hv
    have hiz : (i : Int) < (ts.length : Int) := by omega
    clear ih hD hop hts hv
    generalize dfsF (afters ts) (f + 1) met (i : Int) = RES at HE ⊢
    generalize hml : ts[i]!.after.length = m at d1 HE HK HI hm hcap HV
    have HML := Lib.hid hml
    clear hml
    generalize hnl : ts.length = n at *
    go_enter Tryz.func147, Tryz.ntmps147
    go_wp2_with fail
    clear c0 c1 d1 e1 e2 e3
    go_loopw [16] (fun t wr => ∃ k : Nat, k ≤ m ∧ t = .int .i64 k ∧ DAt w0 Bp B1 B2 B3 bm n (dfsK (afters ts) f ts[i]!.after met k) wr) (fun t _ => m - (intOf t).toNat)
    case atStart => exact ⟨0, by omega, rfl, HD.out⟩
    case round =>
      obtain ⟨k, hk, rfl, hDk⟩ := hrel
      have HDk := Lib.hid hDk
      obtain ⟨e1, e2, e3⟩ := hDk.cells
      clear hDk
      by_cases hlt : k < m
      · have hltz : (k : Int) < (m : Int) := by omega
        have hS2 := (HP.out.below HDk.out.1).2.2.2.2 i (by omega)
        rw [HV.out] at hS2
        obtain ⟨b2, o2, rfl, hak⟩ := hS2.cellI (k := k) (by have := HML.out; omega)
        obtain ⟨a0, a1⟩ := HI.out k (by omega)
        have HKS := Lib.hid (HK.out k hlt)
        have hol := HO.out k
        have hlk := HL.out k
        have HOL := Lib.hid hol
        have HLK := Lib.hid hlk
        clear hS2 hol hlk
        generalize hcur : dfsK (afters ts) f ts[i]!.after met k = cur at HDk HKS HOL HLK
        clear hcur
        generalize ts[i]!.after[k]! = a at hak a0 a1 HKS
        obtain ⟨q, rfl⟩ := Int.eq_ofNat_of_zero_le a0
        have hqn : q < n := by omega
        obtain ⟨g0, g1⟩ := HDk.out.met hqn
        unfold dfsStep at HKS
        simp only [Int.toNat_natCast] at HKS
        cases hcq : cur[q]! with
        | true =>
          have HN := Lib.hid (show dfsK (afters ts) f ts[i]!.after met (k + 1) = cur by rw [HKS.out, if_pos hcq])
          rw [hcq] at g0
          clear hcq
          go_wp2_with fail
          go_roundw
          case rel =>
            have hd' : DAt w0 Bp B1 B2 B3 bm n (dfsK (afters ts) f ts[i]!.after met (k + 1)) wr := by rw [HN.out]; exact HDk.out
            first | exact ⟨k + 1, by omega, by go_num, hd'⟩ | ((repeat apply Exists.intro); exact ⟨⟨k + 1, by omega, by go_num, hd'⟩, rfl⟩)
          case measure => simp [intOf] <;> omega
        | false =>
          have HN := Lib.hid (show dfsK (afters ts) f ts[i]!.after met (k + 1) = dfsF (afters ts) f (cur.set q true) q by rw [HKS.out, if_neg (by rw [hcq]; decide)])
          rw [hcq] at g0
          have HD2 := Lib.hid (HDk.out.set q)
          have HO2 := Lib.hid (show openN (cur.set q true) < f by
            have h1 := openN_set (m := cur) (a := q) (by rw [HLK.out]; have := HDk.out.2.2.2.2.2.2.2; have := HD.out.2.2.2.2.2.2.2; omega) hcq
            have := HOL.out
            have := HOP.out
            omega)
          have HC := Lib.hid (HIH.out (cur.set q true) q _ HD2.out HO2.out hqn)
          obtain ⟨x1, x2, x3⟩ := HD2.out.cells
          clear hcq
          go_wp2_with fail
          refine HC.out.mono ?_
          rintro e w5 ⟨rfl, h5⟩
          have H5 := Lib.hid h5
          clear h5
          go_wp2
          go_roundw
          case rel =>
            have hd' : DAt w0 Bp B1 B2 B3 bm n (dfsK (afters ts) f ts[i]!.after met (k + 1)) w5 := by rw [HN.out]; exact H5.out
            first | exact ⟨k + 1, by omega, by go_num, hd'⟩ | ((repeat apply Exists.intro); exact ⟨⟨k + 1, by omega, by go_num, hd'⟩, rfl⟩)
          case measure => simp [intOf] <;> omega
      · obtain rfl : k = m := by omega
        go_wp2
        go_end0
        exact ⟨rfl, by rw [HE.out]; exact HDk.out⟩

def encB (b : Bool) : List Value := [.bool b]
theorem bool_infoR : (Tryz.prog.info? 4).map (fun i => (i.zero, i.size, i.bytes)) = some (some (.bool false), 1, 1) := by kernel_rfl
theorem made_bools (n : Nat) : (madeCells #[Value.bool false] n).toList = (List.replicate n false).map Value.bool := by
  apply List.ext_getElem
  · simp [madeCells]
  · intro j h1 h2
    simp [madeCells, Nat.mod_one]
/-- a row of the call's own whose capacity is its length: its block -/
theorem owns_full {w : World} {base e bm n : Nat} {xs : List Value} (h : w.ownsRow base e 1 (.slice (some ⟨bm, 0, none⟩) n n) n xs) : w.heap[bm]? = some (.cells xs.toArray e (0, 0)) := by
  obtain ⟨h1, h2⟩ := h
  rcases h2 with ⟨hv, _⟩ | ⟨g, cap, cur, hv, hg, hh, hcap, hm, hs, ht⟩
  · simp at hv
  · simp only [Value.slice.injEq, Option.some.injEq, Addr.mk.injEq, and_true] at hv
    obtain ⟨rfl, _, rfl⟩ := hv
    rw [hh]
    have : cur.toList = xs := by
      rw [← ht, List.take_of_length_le (by simp; omega)]
    rw [← this]
theorem DAt.sl {w0 w : World} {Bp B1 B2 B3 bm n : Nat} {met : List Bool} (h : DAt w0 Bp B1 B2 B3 bm n met w) : SlAt 1 encB w (.slice (some ⟨bm, 0, none⟩) n n) met := by
  have hm := fun j (hj : j < n) => (h.met hj).1
  obtain ⟨_, _, _, _, _, _, h7, h8⟩ := h
  refine ⟨some ⟨bm, 0, none⟩, n, by rw [h8], ⟨by omega, fun e => nomatch e⟩, fun _ => ⟨bm, 0, rfl, (Array.getElem?_eq_some_iff.1 h7).1, fun j hj i u hu => ?_⟩⟩
  have hi : i = 0 := by
    have := (List.getElem?_eq_some_iff.1 hu).1
    simp [encB] at this
    exact this
  subst hi
  simp [encB] at hu
  subst hu
  simpa using hm j (by omega)
set_option maxRecDepth 100000 in
set_option maxHeartbeats 4000000 in
theorem orderAll (nm : ByteArray) (v : Value) (ts : List TaskV) (Bp i : Nat) (w : World) (hP : PipeAt w Bp nm v ts) (haf : AftIn ts) (hlen : ts.length ≤ 1000) (hla : ∀ j, j < ts.length → ts[j]!.after.length ≤ maxLen) (hi : i < ts.length) :
    Calls Tryz.prog 127 #[.pointer (some ⟨Bp, 0, none⟩), .int .i64 (i : Int)] w fun e w' => ∃ v', e = .returned v' ∧ SlAt 1 encB w' v' (allF (afters ts) i) ∧ Below w.heap.size w w' := by
  obtain ⟨i0, hi0, hz0, hz1, hz2⟩ := info_parts bool_infoR
  have HP := Lib.hid hP
  have KD := Lib.hid (fun B1 B2 B3 bm met W h1 h2 => dfsC nm v ts w Bp B1 B2 B3 bm hP haf hlen hla (ts.length + 1) met i W h1 h2 hi)
  obtain ⟨p, c, rfl, hp⟩ := hP.2.2.2.val
  clear hp haf hla
  have hb1 := below1 w (.cells #[.pointer (some ⟨Bp, 0, none⟩)] 111)
  obtain ⟨_, c0, c1, _⟩ := hP.below hb1
  clear hP
  generalize hn : ts.length = n at *
  have HN := Lib.hid hn
  clear hn
  have hx : (w.alloc (.cells #[.pointer (some ⟨Bp, 0, none⟩)] 111)).cell? ⟨w.heap.size, 0, none⟩ = some (.pointer (some ⟨Bp, 0, none⟩)) := by go_simp
  have HX := Lib.hid (MapKept.heap_alloc w (.cells #[.pointer (some ⟨Bp, 0, none⟩)] 111)).1
  have hz : (w.alloc (.cells #[.pointer (some ⟨Bp, 0, none⟩)] 111)).heap.size = w.heap.size + 1 := by simp
  have HZ := Lib.hid hz
  have HB1 := Lib.hid hb1
  clear hz hb1
  go_enter Tryz.func127, Tryz.ntmps127
  go_wp2_with (refine wpList_make_full _ rfl _ _ 168 rfl w.heap.size 4 i0 (.bool false) 1 Tryz.underlying168 hi0 hz0 hz1 _ _ (n : Int) (n : Int) n rfl rfl rfl rfl ?q1 ?q2 ?q3 ?_)
  case q1 => rw [hz2]; omega
  case q2 => unfold maxLen; omega
  case q3 => have := HB1.out.size; omega
  intro w2 hown hg
  go_wp2_with fail
  rw [made_bools] at hown
  have hs2 := hg.size
  have hbm := owns_full hown
  have hB1 : w2.heap[w.heap.size]? = some (.cells #[.pointer (some ⟨Bp, 0, none⟩)] 111 (0, 0)) := (hg.block w.heap.size (by rw [HZ.out]; omega) (by simp)).trans HX.out
  have hbl : Below w.heap.size w w2 := HB1.out.grown hg HB1.out.size (fun k hk => by cases hk)
  have hmz : w.heap.size + 1 < w2.heap.size := (Array.getElem?_eq_some_iff.1 hbm).1
  have hD : DAt w Bp w.heap.size w2.heap.size (w2.heap.size + 1) (w.heap.size + 1) n (List.replicate n false)
      ((w2.alloc (.cells #[.slice (some ⟨w.heap.size + 1, 0, none⟩) n n] 168)).alloc (.cells #[.func (.func 147) #[] #[.pointer (some ⟨w.heap.size, 0, none⟩), .pointer (some ⟨w2.heap.size, 0, none⟩), .pointer (some ⟨w2.heap.size + 1, 0, none⟩)]] 54)) := by
    generalize hA : Obj.cells #[.slice (some ⟨w.heap.size + 1, 0, none⟩) n n] 168 = oA
    generalize hC : Obj.cells #[.func (.func 147) #[] #[.pointer (some ⟨w.heap.size, 0, none⟩), .pointer (some ⟨w2.heap.size, 0, none⟩), .pointer (some ⟨w2.heap.size + 1, 0, none⟩)]] 54 = oC
    have ez : (w2.alloc oA).heap.size = w2.heap.size + 1 := by simp
    obtain ⟨a1, a2⟩ := MapKept.heap_alloc w2 oA
    obtain ⟨b1, b2⟩ := MapKept.heap_alloc (w2.alloc oA) oC
    rw [ez] at b1 b2
    refine ⟨(hbl.alloc (by omega) _).alloc (by simp; omega) _, ⟨by omega, by omega, by omega, by omega⟩, ⟨by omega, by omega, by omega⟩, ?_, ?_, ?_, ?_, by simp⟩
    · rw [b2 _ (by omega), a2 _ (by omega)]; exact hB1
    · rw [b2 _ (by omega), a1, ← hA]
    · rw [b1, ← hC]
    · rw [b2 _ (by omega), a2 _ hmz]; exact hbm
  refine (KD.out _ _ _ _ _ _ hD (by rw [openN_rep]; omega)).mono ?_
  rintro e w3 ⟨rfl, h3⟩
  have HR := Lib.hid (show SlAt 1 encB w3 (.slice (some ⟨w.heap.size + 1, 0, none⟩) n n) (allF (afters ts) i) by
    unfold allF
    rw [afters_len, HN.out]
    exact h3.sl)
  obtain ⟨e1, e2, e3⟩ := h3.cells
  have HB3 := Lib.hid h3.1
  clear h3 hD hB1 hbm hown hg hbl KD
  go_wp2
  go_ret
  exact ⟨_, rfl, HR.out, HB3.out⟩
end Go.Proofs.YtbbcicengfmhiaaGreatDoor

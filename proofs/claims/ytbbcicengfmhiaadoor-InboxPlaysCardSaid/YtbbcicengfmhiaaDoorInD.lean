/- The library's delete at releases. Conditions: sizes; the predicate is called over what keeps the old blocks. -/
import Derived.Test.YtbbcicengfmhiaaDoorIn2
import Derived.Test.YtbbcicengfmhiaaDoorInR
import Derived.Lib.SlKept
namespace Go.Proofs.YtbbcicengfmhiaaDoor
set_option maxRecDepth 100000
open Go.RowKit

theorem zero75 : ∀ w, (zeroValue 75).run Tryd.prog w = .ok (.agg #[.int .i64 0, .int .i64 0, .int .i64 0, .int .i64 0, .string ⟨#[]⟩]) w := fun w => by kernel_rfl
theorem set_list {α : Type} (d : Array α) (i : Nat) (x : α) : (d.setIfInBounds i x).toList = d.toList.set i x := by simp
theorem get_list {α : Type} [Inhabited α] (d : Array α) (i : Nat) : d.toList[i]! = d[i]! := by simp [List.getElem!_eq_getElem?_getD, Array.getElem!_eq_getD, Array.getD_eq_getD_getElem?]
theorem get_opt {α : Type} [Inhabited α] {l : List α} {k : Nat} {v : α} (h : l[k]? = some v) : l[k]! = v := by
  obtain ⟨h1, h2⟩ := List.getElem?_eq_some_iff.1 h
  rw [getElem!_pos l k h1, h2]
def DelPost (p : Rel → Bool) (B : Nat) (xs : List Rel) (w : World) (e : Ending) (w' : World) : Prop := ∃ v', e = .returned v' ∧ w'.ownsRow B 75 5 v' (xs.filter fun x => !p x).length ((xs.filter fun x => !p x).flatMap encR) ∧ Below B w w'
theorem delNil (p : Rel → Bool) (g : Nat) (lb : Array Value) (eg : ∀ args w, (callFunc g args).run Tryd.prog w = .ok (.enter g args) w) (B : Nat) (w0 : World) (w : World) (hp : PredU Tryd.prog g lb p B w0) (hb : Below B w0 w) (hB : B ≤ w.heap.size) :
    Calls Tryd.prog 93 #[.slice none 0 0, .func (.func g) #[] lb] w (DelPost p B [] w) := by
  have hI := idxFuncR p g lb eg (.slice none 0 0) [] w (SlAt.nil 5 encR w) (by simp) (hp.at hb hB)
  have HBW := Lib.hid hB
  rw [show idxI p [] = -1 from rfl] at hI
  have KI := Lib.hid hI
  have HQ := Lib.hid (fun (w1 : World) (hb1 : Below w.heap.size w w1) => (show DelPost p B [] w (.returned (.slice none 0 0)) w1 from ⟨_, rfl, ⟨rfl, .inl ⟨rfl, rfl⟩⟩, hb1.mono hB⟩))
  clear hI hB hb hp
  go_enter Tryd.func93, Tryd.ntmps93
  go_wp2_with fail
  refine KI.out.mono ?_
  rintro e w1 ⟨rfl, hb1⟩
  have HB1 := Lib.hid hb1
  clear hb1
  go_wp2
  go_ret
  exact HQ.out _ HB1.out
theorem idx_or (p : Rel → Bool) (xs : List Rel) : (idxI p xs = -1 ∧ ∀ j, j < xs.length → p xs[j]! = false) ∨ ∃ k, k < xs.length ∧ idxI p xs = (k : Int) ∧ p xs[k]! = true ∧ ∀ j, j < k → p xs[j]! = false := by
  cases h : xs.findIdx? p with
  | none =>
    have h2 := List.findIdx?_eq_none_iff.1 h
    have ha : ∀ j, j < xs.length → p xs[j]! = false := fun j hj => by rw [getElem!_pos xs j hj]; exact h2 _ (List.getElem_mem hj)
    exact .inl ⟨idxI_miss ha, ha⟩
  | some k =>
    obtain ⟨hk, hp, hn⟩ := List.findIdx?_eq_some_iff_getElem.1 h
    have hp' : p xs[k]! = true := by rw [getElem!_pos xs k hk]; exact hp
    have hn' : ∀ j, j < k → p xs[j]! = false := fun j hj => by rw [getElem!_pos xs j (by omega)]; simpa using hn j hj
    exact .inr ⟨k, hk, idxI_hit hk hp' hn', hp', hn'⟩
set_option maxHeartbeats 4000000 in
theorem delRow (p : Rel → Bool) (g : Nat) (lb : Array Value) (eg : ∀ args w, (callFunc g args).run Tryd.prog w = .ok (.enter g args) w) (B : Nat) (w0 : World) (q cap : Nat) (xs : List Rel) (J : List Value) (w : World) (hp : PredU Tryd.prog g lb p B w0) (hb : Below B w0 w) (hB : B ≤ w.heap.size)
    (hBq : B ≤ q) (hrow : RowR q xs J w) (hcap : xs.length ≤ cap) (hmax : cap ≤ maxLen) (hlen : (xs.flatMap encR ++ J).length = cap * 5) (hbig : xs.length ≤ 1000) :
    Calls Tryd.prog 93 #[.slice (some ⟨q, 0, none⟩) xs.length cap, .func (.func g) #[] lb] w (DelPost p B xs w) := by
  have hS : SlAt 5 encR w (.slice (some ⟨q, 0, none⟩) xs.length cap) xs := ⟨_, _, rfl, ⟨hcap, fun h => by cases h⟩, fun _ => ⟨q, 0, rfl, hrow.lt, fun j hj i u hu => by
    have hi : i < 5 := (List.getElem?_eq_some_iff.1 hu).1
    rw [Nat.zero_add]; exact hrow.cell hj hi hu⟩⟩
  have hI := idxFuncR p g lb eg _ xs w hS (by omega) (hp.at hb hB)
  obtain ⟨kp, HK⟩ : ∃ kp : Nat → Bool, Hid (kp = fun j => !p xs.toArray[j]!) := ⟨_, Lib.hid rfl⟩
  have hfil : (xs.filter fun x => !p x) = Lib.keptUpTo kp xs.toArray xs.toArray.size := by
    rw [HK.out]
    have := Lib.keptUpTo_filter (fun x => !p x) xs.toArray
    rw [this]
  have HFIL := Lib.hid hfil
  have HROW := Lib.hid hrow
  have HP := Lib.hid hp
  have HB0 := Lib.hid hb
  have HBB := Lib.hid hB
  have HLEN := Lib.hid hlen
  have HMAX := Lib.hid hmax
  clear hfil hS hp hb hB hlen hmax hrow
  rcases idx_or p xs with ⟨e1, hall⟩ | ⟨k0, hk0, e1, ht, hall⟩
  · rw [e1] at hI
    have KI := Lib.hid hI
    have HQ := Lib.hid (fun (w1 : World) (hb1 : Below w.heap.size w w1) => (show DelPost p B xs w (.returned (.slice (some ⟨q, 0, none⟩) xs.length cap)) w1 from by
      have hf : (xs.filter fun x => !p x) = xs := List.filter_eq_self.2 (fun x hx => by
        obtain ⟨j, hj, rfl⟩ := List.getElem_of_mem hx
        have := hall j hj
        rw [getElem!_pos xs j hj] at this
        simp [this])
      unfold DelPost
      rw [hf]
      exact ⟨_, rfl, (HROW.out.below hb1).owns hBq rfl (by simp) (Nat.le_refl _) hcap HMAX.out HLEN.out, hb1.mono HBB.out⟩))
    clear hI e1 hall
    generalize xs.length = n at *
    go_enter Tryd.func93, Tryd.ntmps93
    go_wp2_with fail
    refine KI.out.mono ?_
    rintro e w1 ⟨rfl, hb1⟩
    have HB1 := Lib.hid hb1
    clear hb1
    go_wp2
    go_ret
    exact HQ.out _ HB1.out
  · have hxsz : xs.toArray.size = xs.length := by simp
    rw [e1] at hI
    have KI := Lib.hid hI
    have HST := Lib.hid (Lib.KeptInv.start (kp := kp) (d := xs.toArray) (k0 := k0) (fun j hj => by rw [HK.out]; show (!p xs.toArray[j]!) = true; rw [← get_list, hall j hj]; rfl) (by rw [HK.out]; show (!p xs.toArray[k0]!) = false; rw [← get_list, ht]; rfl))
    generalize hd : xs.toArray = d at *
    generalize xs.length = n at *
    have HD := Lib.hid hd
    have HSZ := Lib.hid hxsz
    have hnz : ((k0 : Int) == -1) = false := beq_eq_false_iff_ne.2 (by omega)
    clear hI e1 hall ht hd hxsz
    go_enter Tryd.func93, Tryd.ntmps93
    go_wp2_with fail
    refine KI.out.mono ?_
    rintro e w1 ⟨rfl, hb1⟩
    have HB1 := Lib.hid hb1
    have HR1 := Lib.hid (HROW.out.below hb1)
    clear hb1 KI
    go_wp2
    go_loopw [5, 6, 7] (fun s5 s6 _ wr => ∃ (i j : Nat) (dk : Array Rel), s5 = .int .i64 i ∧ s6 = .int .i64 j ∧ j ≤ n ∧ RowR q dk.toList J wr ∧ Below B w wr ∧ Hid (Lib.KeptInv kp d j i dk)) (fun _ s6 _ _ => n - (intOf s6).toNat)
    case atStart => exact ⟨k0, k0 + 1, d, rfl, by go_num, by omega, by rw [← HD.out]; exact HR1.out, HB1.out.mono HBB.out, HST⟩
    case round =>
      obtain ⟨i, j, dk, rfl, rfl, hjn, hR, hBw, HI⟩ := hrel
      have HR := Lib.hid hR
      have HBW := Lib.hid hBw
      clear hR hBw
      have hij := HI.out.lt
      have hds := HI.out.size
      have hdsz : dk.toList.length = n := by rw [Array.length_toList, hds, HSZ.out]
      have HDS := Lib.hid hdsz
      clear hds hdsz
      by_cases hlt : j < n
      · have hltz : (j : Int) < (n : Int) := by omega
        have e0 : dk.toList[j]! = d[j]! := by rw [get_list, HI.out.high j (by omega)]
        obtain ⟨⟨a, b, c, dd, s⟩, hx⟩ : ∃ x : Rel, x = d[j]! := ⟨_, rfl⟩
        rw [← hx] at e0
        have HX := Lib.hid hx
        have c0 := HR.out.cell (i := j) (j := 0) (by have := HDS.out; omega) (by omega) (u := .int .i64 a) (by rw [e0]; rfl)
        have c1 := HR.out.cell (i := j) (j := 1) (by have := HDS.out; omega) (by omega) (u := .int .i64 b) (by rw [e0]; rfl)
        have c2 := HR.out.cell (i := j) (j := 2) (by have := HDS.out; omega) (by omega) (u := .int .i64 c) (by rw [e0]; rfl)
        have c3 := HR.out.cell (i := j) (j := 3) (by have := HDS.out; omega) (by omega) (u := .int .i64 dd) (by rw [e0]; rfl)
        have c4 := HR.out.cell (i := j) (j := 4) (by have := HDS.out; omega) (by omega) (u := .string s) (by rw [e0]; rfl)
        rw [Nat.add_zero] at c0
        clear e0 hx
        go_wp2_with fail
        have hbx := below1 wr (.cells #[.int .i64 a, .int .i64 b, .int .i64 c, .int .i64 dd, .string s] 75)
        have hN := BlkIs.alloc wr [.int .i64 a, .int .i64 b, .int .i64 c, .int .i64 dd, .string s] 75
        have hBr : B ≤ wr.heap.size := Nat.le_trans HBB.out HBW.out.size
        have HBX := Lib.hid (HBW.out.trans (hbx.mono hBr))
        refine (HP.out _ (a, b, c, dd, s) (HB0.out.trans HBX.out)).mono ?_
        rintro e w2 ⟨rfl, hb2⟩
        have HB2 := Lib.hid (HBX.out.trans (hb2.mono (Nat.le_trans hBr hbx.size)))
        have HR2 := Lib.hid ((HR.out.below hbx).below hb2)
        have hN2 := hN.below hb2
        have n0 := hN2.cell 0
        have n1 := hN2.cell 1
        have n2 := hN2.cell 2
        have n3 := hN2.cell 3
        have n4 := hN2.cell 4
        simp only [List.getElem?_cons_zero, List.getElem?_cons_succ] at n0 n1 n2 n3 n4
        clear hbx hN hBr hb2 hN2 c0 c1 c2 c3 c4
        cases hq : p (a, b, c, dd, s) with
        | false =>
          have HKP := Lib.hid (show kp j = true by rw [HK.out]; show (!p d[j]!) = true; rw [← HX.out, hq]; rfl)
          have HKEEP := Lib.hid (HI.out.keep (by rw [HSZ.out]; exact hlt) HKP.out)
          have HROW2 := Lib.hid (HR2.out.set (i := i) (by have := HDS.out; omega) (a, b, c, dd, s))
          have hfr : ∀ m, w2.frozen? ⟨q, m, none⟩ = false := fun m => BlkIs.frozen HR2.out m
          obtain ⟨f0, f1, f2, f3, f4⟩ : w2.frozen? ⟨q, i * 5, none⟩ = false ∧ w2.frozen? ⟨q, i * 5 + 1, none⟩ = false ∧ w2.frozen? ⟨q, i * 5 + 1 + 1, none⟩ = false ∧ w2.frozen? ⟨q, i * 5 + 1 + 1 + 1, none⟩ = false ∧ w2.frozen? ⟨q, i * 5 + 1 + 1 + 1 + 1, none⟩ = false := ⟨hfr _, hfr _, hfr _, hfr _, hfr _⟩
          obtain ⟨⟨o0, o1, o2, o3, o4⟩, ho⟩ : ∃ x : Rel, x = dk.toList[i]! := ⟨_, rfl⟩
          have d0 := HR2.out.cell (i := i) (j := 0) (by have := HDS.out; omega) (by omega) (u := .int .i64 o0) (by rw [← ho]; rfl)
          have d1 := HR2.out.cell (i := i) (j := 1) (by have := HDS.out; omega) (by omega) (u := .int .i64 o1) (by rw [← ho]; rfl)
          have d2 := HR2.out.cell (i := i) (j := 2) (by have := HDS.out; omega) (by omega) (u := .int .i64 o2) (by rw [← ho]; rfl)
          have d3 := HR2.out.cell (i := i) (j := 3) (by have := HDS.out; omega) (by omega) (u := .int .i64 o3) (by rw [← ho]; rfl)
          have d4 := HR2.out.cell (i := i) (j := 4) (by have := HDS.out; omega) (by omega) (u := .string o4) (by rw [← ho]; rfl)
          rw [Nat.add_zero] at d0
          have HBS := Lib.hid (below_set5 (o := i * 5) HB2.out hBq (.int .i64 a) (.int .i64 b) (.int .i64 c) (.int .i64 dd) (.string s))
          clear hfr ho hq
          go_wp2
          go_roundw
          case rel =>
            refine ⟨i + 1, j + 1, dk.setIfInBounds i (a, b, c, dd, s), by go_num, by go_num, by omega, ?_, ?_, ?_⟩
            · rw [set_list]; exact HROW2.out
            · exact HBS.out
            · have := HKEEP.out; rw [← HX.out] at this; exact Lib.hid this
          case measure => simp [intOf] <;> omega
        | true =>
          have HKP := Lib.hid (HI.out.skip (show kp j = false by rw [HK.out]; show (!p d[j]!) = false; rw [← HX.out, hq]; rfl))
          clear hq
          go_wp2
          go_roundw
          case rel => exact ⟨i, j + 1, dk, rfl, by go_num, by omega, HR2.out, HB2.out, HKP⟩
          case measure => simp [intOf] <;> omega
      · obtain rfl : j = n := by omega
        have hltz : ¬ ((j : Int) < (j : Int)) := by omega
        have hlenk : dk.toList.length = j := HDS.out
        have hcs : (dk.toList.flatMap encR ++ J).length = cap * 5 := by
          have h1 := HLEN.out
          have h2 := flat_length (enc := encR) encR_len dk.toList
          have h3 := flat_length (enc := encR) encR_len xs
          have h4 : xs.length = j := by rw [← HSZ.out, ← HD.out]; simp
          unfold flat at h2 h3
          rw [List.length_append] at h1 ⊢
          rw [h2, hlenk]
          rw [h3, h4] at h1
          exact h1
        have HCL := Lib.hid (fun ty c' => run_clear_row (P := Tryd.prog) (n := j - i) wr 71 75 ty _ Tryd.underlying71 zero75 (zero_one _ (by simp [Value.cells, Value.oneCell']) (by simp [Value.cells]) _) q (i * 5) c' _ 75 HR.out (by rw [hcs]; show i * 5 + (j - i) * 5 ≤ _; omega))
        have hcl := HCL.out
        go_wp2
        go_ret
        generalize hzs : (Builtin.zeroCells _ (j - i)).toList = zs
        have hzl : zs.length = (j - i) * 5 := by rw [← hzs, Array.length_toList, size_zeroCells]; rfl
        have hB' := BlkIs.sets zs (i * 5) wr _ HR.out (by rw [hcs, hzl]; omega)
        have hky : Lib.keptUpTo kp d d.size = dk.toList.take i := by
          rw [HSZ.out]
          refine get_ext (by rw [HI.out.len, List.length_take, hlenk]; omega) fun k hk => ?_
          rw [HI.out.len] at hk
          have h1 := HI.out.low k hk
          rw [getElem!_pos (dk.toList.take i) k (by rw [List.length_take]; omega), List.getElem_take, ← getElem!_pos dk.toList k (by omega)]
          rw [show dk.toList[k]! = dk[k]! from get_list dk k]
          show (Lib.keptUpTo kp d j)[k]! = dk[k]!
          exact get_opt h1
        have hsp : splice (dk.toList.flatMap encR ++ J) (i * 5) zs = (dk.toList.take i).flatMap encR ++ (splice (dk.toList.flatMap encR ++ J) (i * 5) zs).drop (i * 5) := by
          conv => lhs; rw [← List.take_append_drop (i * 5) (splice (dk.toList.flatMap encR ++ J) (i * 5) zs)]
          congr 1
          have h2 := flat_length (enc := encR) encR_len (dk.toList.take i)
          unfold flat at h2
          rw [List.length_take, Nat.min_eq_left (by omega)] at h2
          unfold splice
          rw [List.take_append_of_le_length (by rw [List.length_take, hcs]; omega), List.take_take, Nat.min_self]
          conv => lhs; rw [← List.take_append_drop i dk.toList]
          rw [List.flatMap_append, List.append_assoc, ← h2, List.take_left]
        have hrow' : RowR q (dk.toList.take i) ((splice (dk.toList.flatMap encR ++ J) (i * 5) zs).drop (i * 5)) (wr.setCells q (i * 5) zs) := by
          unfold RowR
          rw [← hsp]
          exact hB'
        unfold DelPost
        rw [HFIL.out, hky]
        refine ⟨_, rfl, hrow'.owns hBq (by rw [List.length_take]; omega) (by rw [List.take_take, Nat.min_self]) (by rw [List.length_take]; omega) (by rw [List.length_take]; omega) HMAX.out ?_, below_sets hBq zs _ _ HBW.out⟩
        rw [← hsp, splice_len (by rw [hzl, hcs]; omega)]
        exact hcs
/-- behind it lies what does not answer -/
theorem delFuncR (p : Rel → Bool) (g : Nat) (lb : Array Value) (eg : ∀ args w, (callFunc g args).run Tryd.prog w = .ok (.enter g args) w) (B : Nat) (w0 : World) (v : Value) (xs : List Rel) (w : World) (hp : PredU Tryd.prog g lb p B w0) (hb : Below B w0 w) (hB : B ≤ w.heap.size)
    (hown : w.ownsRow B 75 5 v xs.length (xs.flatMap encR)) (hbig : xs.length ≤ 1000) :
    Calls Tryd.prog 93 #[v, .func (.func g) #[] lb] w (DelPost p B xs w) := by
  rcases RowR.of_owns hown with ⟨rfl, rfl⟩ | ⟨q, cap, J, rfl, hBq, hrow, hcap, hmax, hlen⟩
  · exact delNil p g lb eg B w0 w hp hb hB
  · exact delRow p g lb eg B w0 q cap xs J w hp hb hB hBq hrow hcap hmax hlen hbig
end Go.Proofs.YtbbcicengfmhiaaDoor

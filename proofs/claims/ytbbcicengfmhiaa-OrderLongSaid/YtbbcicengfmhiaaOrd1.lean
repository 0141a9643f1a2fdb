/- The longest row, and what is ready: plain laws. No program here. -/
import Derived.Test.YtbbcicengfmhiaaOrd0
namespace Go.Proofs.Ytbbcicengfmhiaa

theorem set_get {α : Type} [Inhabited α] {l : List α} {i j : Nat} {x : α} : (l.set i x)[j]! = if i = j ∧ j < l.length then x else l[j]! := by
  by_cases hj : j < l.length
  · rw [getElem!_pos (l.set i x) j (by rw [List.length_set]; exact hj), List.getElem_set, getElem!_pos l j hj]
    by_cases e : i = j
    · simp [e, hj]
    · simp [e]
  · rw [getElem!_neg (l.set i x) j (by rw [List.length_set]; exact hj), getElem!_neg l j hj]
    simp [hj]
/-- behind k rounds: who is done, and in which order; none: nobody was ready -/
def ordF (af : List (List Int)) : Nat → Option (List Bool × List Int)
  | 0 => some (List.replicate af.length false, [])
  | k + 1 => match ordF af k with
    | none => none
    | some (d, l) => match rdyL af d af.length with
      | [] => none
      | x :: _ => some (d.set x.toNat true, l ++ [x])
theorem ordF_none (af : List (List Int)) {k : Nat} (h : ordF af k = none) : ∀ m, k ≤ m → ordF af m = none := by
  intro m hm
  induction m with
  | zero => have : k = 0 := by omega
            rw [← this]; exact h
  | succ m ih =>
    by_cases e : k = m + 1
    · rw [← e]; exact h
    · unfold ordF
      rw [ih (by omega)]
def orderL (af : List (List Int)) : List Int := match ordF af af.length with | none => [] | some (_, l) => l
def orderB (af : List (List Int)) : Bool := match ordF af af.length with | none => false | some _ => true

/-- what holds behind k rounds -/
structure OrdInv (af : List (List Int)) (k : Nat) (d : List Bool) (l : List Int) : Prop where
  len : d.length = af.length
  num : l.length = k
  opn : openN d + k = af.length
  mem : ∀ x ∈ l, ∃ j : Nat, x = j ∧ j < af.length ∧ d[j]! = true
  all : ∀ j : Nat, j < af.length → d[j]! = true → (j : Int) ∈ l
theorem ordF_step {af : List (List Int)} {k : Nat} {d : List Bool} {l : List Int} (h : OrdInv af k d l) {x : Int} {r : List Int} (hr : rdyL af d af.length = x :: r) :
    OrdInv af (k + 1) (d.set x.toNat true) (l ++ [x]) ∧ ∃ j : Nat, x = j ∧ j < af.length ∧ d[j]! = false ∧ ∀ a ∈ af[j]!, isD d a = true := by
  obtain ⟨j, rfl, hj, hb⟩ := rdyL_mem.1 (show x ∈ rdyL af d af.length by rw [hr]; simp)
  have hb' := hb
  unfold readyB at hb
  rw [Bool.and_eq_true] at hb
  obtain ⟨h1, h2⟩ := hb
  have hdj : d[j]! = false := by
    simpa [isD, h.len, hj] using h1
  refine ⟨⟨?_, ?_, ?_, ?_, ?_⟩, j, rfl, hj, hdj, ?_⟩
  · rw [List.length_set, h.len]
  · simp [h.num]
  · have := openN_set (m := d) (a := j) (by rw [h.len]; exact hj) hdj
    have := h.opn
    simp only [Int.toNat_natCast]
    omega
  · intro y hy
    rw [List.mem_append] at hy
    rcases hy with hy | hy
    · obtain ⟨i, rfl, hi, hdi⟩ := h.mem y hy
      refine ⟨i, rfl, hi, ?_⟩
      rw [set_get]
      split
      · rfl
      · exact hdi
    · simp at hy
      subst hy
      refine ⟨j, rfl, hj, ?_⟩
      rw [set_get, if_pos ⟨by simp, by rw [h.len]; exact hj⟩]
  · intro i hi hdi
    rw [List.mem_append]
    by_cases e : i = j
    · subst e; simp
    · left
      apply h.all i hi
      rw [set_get] at hdi
      simp only [Int.toNat_natCast] at hdi
      rw [if_neg (by omega)] at hdi
      exact hdi
  · intro a ha
    cases hq : isD d a with
    | true => rfl
    | false =>
      exfalso
      have : (af[j]!.any fun a => !isD d a) = true := List.any_eq_true.2 ⟨a, ha, by simp [hq]⟩
      rw [this] at h2
      cases h2
theorem ordF_inv (af : List (List Int)) : ∀ (k : Nat) (d : List Bool) (l : List Int), ordF af k = some (d, l) → OrdInv af k d l := by
  intro k
  induction k with
  | zero =>
    intro d l h
    simp only [ordF, Option.some.injEq, Prod.mk.injEq] at h
    obtain ⟨rfl, rfl⟩ := h
    refine ⟨by simp, rfl, by rw [openN_rep]; rfl, fun x hx => by simp at hx, fun j hj h => ?_⟩
    rw [getElem!_pos (List.replicate af.length false) j (by simpa using hj)] at h
    simp at h
  | succ k ih =>
    intro d l h
    unfold ordF at h
    split at h
    · cases h
    · rename_i d0 l0 h0
      split at h
      · cases h
      · rename_i x r hr
        simp only [Option.some.injEq, Prod.mk.injEq] at h
        obtain ⟨rfl, rfl⟩ := h
        exact (ordF_step (ih d0 l0 h0) hr).1

/-- the longest row that ends in one, behind some of those right ahead -/
def farK (l : List Int) (i : Int) (far : List Int) (k : Nat) : List Int := (l.take k).foldl (fun f a => f.set i.toNat (max f[i.toNat]! (f[a.toNat]! + 1))) (far.set i.toNat 1)
def farStep (af : List (List Int)) (s : List Int × Int) (i : Int) : List Int × Int :=
  let f := farK af[i.toNat]! i s.1 af[i.toNat]!.length
  (f, max s.2 f[i.toNat]!)
def longF (af : List (List Int)) (l : List Int) (k : Nat) : List Int × Int := (l.take k).foldl (farStep af) (List.replicate af.length 0, 0)
def longI (af : List (List Int)) : Int := (longF af (orderL af) (orderL af).length).2
theorem longF_succ (af : List (List Int)) (l : List Int) {k : Nat} (hk : k < l.length) : longF af l (k + 1) = farStep af (longF af l k) l[k]! := by
  unfold longF
  rw [List.take_succ_eq_append_getElem hk, List.foldl_append, getElem!_pos l k hk]
  rfl
theorem farK_succ (l : List Int) (i : Int) (far : List Int) {k : Nat} (hk : k < l.length) : farK l i far (k + 1) = (farK l i far k).set i.toNat (max (farK l i far k)[i.toNat]! ((farK l i far k)[l[k]!.toNat]! + 1)) := by
  unfold farK
  rw [List.take_succ_eq_append_getElem hk, List.foldl_append, getElem!_pos l k hk]
  rfl
theorem farK_len (l : List Int) (i : Int) (far : List Int) (k : Nat) : (farK l i far k).length = far.length := by
  unfold farK
  generalize l.take k = m
  have : ∀ (m : List Int) (f : List Int), (m.foldl (fun f a => f.set i.toNat (max f[i.toNat]! (f[a.toNat]! + 1))) f).length = f.length := by
    intro m
    induction m with
    | nil => intro f; rfl
    | cons a m ih => intro f; rw [List.foldl_cons, ih, List.length_set]
  rw [this, List.length_set]
/-- what the inner loop keeps: others stay; its own is from 1 up, and no more than a bound -/
theorem farK_inv {l : List Int} {i : Int} {far : List Int} {B : Int} (hB : ∀ j : Nat, far[j]! ≤ B) (hB0 : 0 ≤ B) (hi : i.toNat < far.length) (hl : ∀ a ∈ l, a.toNat ≠ i.toNat) : ∀ k : Nat, (∀ j : Nat, j ≠ i.toNat → (farK l i far k)[j]! = far[j]!) ∧ 1 ≤ (farK l i far k)[i.toNat]! ∧ (farK l i far k)[i.toNat]! ≤ B + 1 ∧ ∀ m, m < k → m < l.length → far[l[m]!.toNat]! + 1 ≤ (farK l i far k)[i.toNat]! := by
  intro k
  induction k with
  | zero =>
    have e0 : farK l i far 0 = far.set i.toNat 1 := rfl
    rw [e0]
    refine ⟨fun j hj => ?_, ?_, ?_, fun m hm => absurd hm (by omega)⟩
    · rw [set_get, if_neg (by omega)]
    · rw [set_get, if_pos ⟨rfl, hi⟩]; omega
    · rw [set_get, if_pos ⟨rfl, hi⟩]; omega
  | succ k ih =>
    by_cases hk : k < l.length
    · obtain ⟨h1, h2, h3, h4⟩ := ih
      rw [farK_succ l i far hk]
      have hne : l[k]!.toNat ≠ i.toNat := hl _ (by rw [getElem!_pos l k hk]; exact List.getElem_mem hk)
      have hlen := farK_len l i far k
      have ha : (farK l i far k)[l[k]!.toNat]! = far[l[k]!.toNat]! := h1 _ hne
      have hb := hB l[k]!.toNat
      refine ⟨fun j hj => ?_, ?_, ?_, fun m hm hml => ?_⟩
      · rw [set_get, if_neg (by omega)]; exact h1 j hj
      · rw [set_get, if_pos ⟨rfl, by omega⟩]; omega
      · rw [set_get, if_pos ⟨rfl, by omega⟩]; omega
      · rw [set_get, if_pos ⟨rfl, by omega⟩]
        by_cases e : m = k
        · subst e; omega
        · have := h4 m (by omega) hml; omega
    · have e : farK l i far (k + 1) = farK l i far k := by
        unfold farK
        rw [List.take_of_length_le (by omega), List.take_of_length_le (by omega)]
      rw [e]
      obtain ⟨h1, h2, h3, h4⟩ := ih
      exact ⟨h1, h2, h3, fun m hm hml => h4 m (by omega) hml⟩

/-- right: every one that comes behind another one names tasks that there are -/
def AfOk (af : List (List Int)) : Prop := ∀ j, j < af.length → ∀ a ∈ af[j]!, 0 ≤ a ∧ a < af.length

structure LongInv (af : List (List Int)) (k : Nat) (pre : List Int) (s : List Int × Int) : Prop where
  len : s.1.length = af.length
  le : ∀ j : Nat, s.1[j]! ≤ k
  most : s.2 ≤ k
  nn : 0 ≤ s.2
  pos : ∀ x ∈ pre, 1 ≤ s.1[x.toNat]!
/-- of an order that is one the k-th: nobody of those right ahead is it itself, and each is there ahead of it -/
theorem order_ahead {af : List (List Int)} (haf : AfOk af) : ∀ (n : Nat) (d : List Bool) (l : List Int), ordF af n = some (d, l) → ∀ k (_ : k < l.length), ∃ j : Nat, l[k]! = j ∧ j < af.length ∧ (∀ a ∈ af[j]!, a ≠ (j : Int) ∧ a ∈ l.take k) := by
  intro n
  induction n with
  | zero =>
    intro d l h k hk
    simp only [ordF, Option.some.injEq, Prod.mk.injEq] at h
    obtain ⟨rfl, rfl⟩ := h
    simp at hk
  | succ n ih =>
    intro d l h k hk
    unfold ordF at h
    split at h
    · cases h
    · rename_i d0 l0 h0
      split at h
      · cases h
      · rename_i x r hr
        simp only [Option.some.injEq, Prod.mk.injEq] at h
        obtain ⟨rfl, rfl⟩ := h
        have hinv := ordF_inv af n d0 l0 h0
        by_cases e : k < l0.length
        · obtain ⟨j, h1, h2, h3⟩ := ih d0 l0 h0 k e
          refine ⟨j, ?_, h2, ?_⟩
          · rw [getElem!_pos (l0 ++ [x]) k hk, List.getElem_append_left e, ← getElem!_pos l0 k e]; exact h1
          · rw [List.take_append_of_le_length (by omega)]; exact h3
        · have hk' : k = l0.length := by simp at hk; omega
          subst hk'
          obtain ⟨_, j, rfl, hj, hdj, hall⟩ := ordF_step hinv hr
          refine ⟨j, ?_, hj, ?_⟩
          · rw [getElem!_pos (l0 ++ [(j : Int)]) l0.length hk]; simp
          · intro a ha
            have hda := hall a ha
            obtain ⟨a0, a1⟩ := haf j hj a ha
            obtain ⟨i, rfl⟩ := Int.eq_ofNat_of_zero_le a0
            have hi : i < af.length := by omega
            have hdi : d0[i]! = true := by
              unfold isD at hda
              rw [Bool.and_eq_true] at hda
              simpa using hda.2
            refine ⟨?_, ?_⟩
            · intro e
              have : i = j := by omega
              subst this
              rw [hdi] at hdj; cases hdj
            · rw [List.take_append_of_le_length (Nat.le_refl _), List.take_length]
              exact hinv.all i hi hdi
theorem long_inv {af : List (List Int)} (haf : AfOk af) {n : Nat} {d : List Bool} {l : List Int} (h : ordF af n = some (d, l)) : ∀ k, k ≤ l.length → LongInv af k (l.take k) (longF af l k) ∧ ∀ m, m < k → af[l[m]!.toNat]! ≠ [] → 2 ≤ (longF af l k).2 := by
  intro k
  induction k with
  | zero =>
    intro _
    have e0 : longF af l 0 = (List.replicate af.length 0, 0) := rfl
    rw [e0]
    refine ⟨⟨by simp, fun j => ?_, by simp, by simp, fun x hx => by simp at hx⟩, fun m hm => absurd hm (by omega)⟩
    by_cases hj : j < af.length
    · show (List.replicate af.length (0 : Int))[j]! ≤ _
      rw [getElem!_pos (List.replicate af.length (0 : Int)) j (by simpa using hj)]; simp
    · show (List.replicate af.length (0 : Int))[j]! ≤ _
      rw [getElem!_neg (List.replicate af.length (0 : Int)) j (by simpa using hj)]; decide
  | succ k ih =>
    intro hk
    obtain ⟨⟨i1, i2, i3, i4, i5⟩, i6⟩ := ih (by omega)
    obtain ⟨j, hj1, hj2, hj3⟩ := order_ahead haf n d l h k (by omega)
    rw [longF_succ af l (by omega), hj1]
    have hne : ∀ a ∈ af[j]!, a.toNat ≠ ((j : Int)).toNat := by
      intro a ha e
      have := haf j hj2 a ha
      have := (hj3 a ha).1
      omega
    have hfar := farK_inv (l := af[j]!) (i := (j : Int)) (far := (longF af l k).1) (B := (k : Int)) i2 (by omega) (by rw [i1]; simpa using hj2) hne af[j]!.length
    simp only [Int.toNat_natCast] at hfar
    obtain ⟨f1, f2, f3, f4⟩ := hfar
    have es : farStep af (longF af l k) (j : Int) = (farK af[j]! (j : Int) (longF af l k).1 af[j]!.length, max (longF af l k).2 (farK af[j]! (j : Int) (longF af l k).1 af[j]!.length)[j]!) := rfl
    rw [es]
    refine ⟨⟨?_, ?_, ?_, ?_, ?_⟩, ?_⟩
    · show (farK _ _ _ _).length = _
      rw [farK_len, i1]
    · intro q
      show (farK _ _ _ _)[q]! ≤ _
      by_cases e : q = j
      · subst e; push_cast; exact f3
      · rw [f1 q e]; have := i2 q; push_cast; omega
    · show max _ _ ≤ _
      push_cast; omega
    · show 0 ≤ max _ _
      omega
    · intro x hx
      show 1 ≤ (farK _ _ _ _)[x.toNat]!
      by_cases e : x.toNat = j
      · rw [e]; exact f2
      · rw [f1 _ e]
        rw [List.take_succ_eq_append_getElem (by omega), List.mem_append] at hx
        rcases hx with hx | hx
        · exact i5 x hx
        · simp at hx
          rw [← getElem!_pos l k (by omega), hj1] at hx
          rw [hx] at e
          simp at e
    · intro m hm hne2
      show 2 ≤ max _ _
      by_cases e : m = k
      · subst e
        rw [hj1] at hne2
        simp only [Int.toNat_natCast] at hne2
        have hpos : 0 < af[j]!.length := List.length_pos_iff.2 hne2
        have h4 := f4 0 hpos hpos
        have hmem : af[j]![0]! ∈ af[j]! := by rw [getElem!_pos af[j]! 0 hpos]; exact List.getElem_mem hpos
        have h5 := i5 _ (hj3 _ hmem).2
        omega
      · have := i6 m (by omega) hne2
        omega
theorem long_le {af : List (List Int)} (haf : AfOk af) : longI af ≤ af.length ∧ 0 ≤ longI af := by
  unfold longI orderL
  cases h : ordF af af.length with
  | none =>
    show (longF af [] 0).2 ≤ _ ∧ _
    exact ⟨by show (0 : Int) ≤ _; omega, by show (0 : Int) ≤ 0; omega⟩
  | some s =>
    obtain ⟨d, l⟩ := s
    have hi := (ordF_inv af _ d l h).num
    have := (long_inv haf h l.length (Nat.le_refl _)).1
    have h3 := this.most
    have h4 := this.nn
    show (longF af l l.length).2 ≤ _ ∧ _
    exact ⟨by omega, h4⟩
theorem long_two {af : List (List Int)} (haf : AfOk af) (hn : ∃ j, j < af.length ∧ af[j]! ≠ []) : longI af = 0 ∨ 2 ≤ longI af := by
  obtain ⟨j, hj, hne⟩ := hn
  unfold longI orderL
  cases h : ordF af af.length with
  | none => exact .inl rfl
  | some s =>
    obtain ⟨d, l⟩ := s
    right
    have hi := ordF_inv af _ d l h
    have h0 := hi.opn
    have hdj : d[j]! = true := by
      cases hq : d[j]! with
      | true => rfl
      | false => have := openN_set (m := d) (a := j) (by rw [hi.len]; exact hj) hq; omega
    obtain ⟨m, hm, hmj⟩ := List.getElem_of_mem (hi.all j hj hdj)
    refine (long_inv haf h l.length (Nat.le_refl _)).2 m hm ?_
    rw [getElem!_pos l m hm, hmj]
    simpa using hne
theorem long_flat {af : List (List Int)} (hf : ∀ j, j < af.length → af[j]! = []) (h1 : 1 ≤ af.length) : longI af = 1 := by
  have haf : AfOk af := fun j hj a ha => by rw [hf j hj] at ha; simp at ha
  have hs : ∀ k, k ≤ af.length → ∃ d l, ordF af k = some (d, l) := by
    intro k
    induction k with
    | zero => intro _; exact ⟨_, _, rfl⟩
    | succ k ih =>
      intro hk
      obtain ⟨d, l, h⟩ := ih (by omega)
      have hi := ordF_inv af k d l h
      have hop := hi.opn
      have : ∃ j, j < af.length ∧ d[j]! = false := by
        have hpos : 0 < d.countP (fun b => !b) := by have : openN d = d.countP (fun b => !b) := rfl; omega
        obtain ⟨b, hb, hb2⟩ := List.countP_pos_iff.1 hpos
        obtain ⟨j, hj, rfl⟩ := List.getElem_of_mem hb
        exact ⟨j, by rw [← hi.len]; exact hj, by rw [getElem!_pos d j hj]; simpa using hb2⟩
      obtain ⟨j, hj, hdj⟩ := this
      have hr : (j : Int) ∈ rdyL af d af.length := rdyL_mem.2 ⟨j, rfl, hj, by
        unfold readyB isD
        rw [hf j hj]
        simp [hdj]⟩
      cases hc : rdyL af d af.length with
      | nil => rw [hc] at hr; simp at hr
      | cons x r =>
        refine ⟨d.set x.toNat true, l ++ [x], ?_⟩
        unfold ordF
        rw [h]
        simp only [hc]
  obtain ⟨d, l, h⟩ := hs af.length (Nat.le_refl _)
  have hi := ordF_inv af _ d l h
  have hl : longI af = (longF af l l.length).2 := by unfold longI orderL; rw [h]
  rw [hl]
  have hk : ∀ k : Nat, k ≤ l.length → (longF af l k).1.length = af.length ∧ (longF af l k).2 = if k = 0 then 0 else 1 := by
    intro k
    induction k with
    | zero => intro _; exact ⟨by show (List.replicate af.length (0 : Int)).length = _; simp, rfl⟩
    | succ k ih =>
      intro hk
      obtain ⟨g1, g2⟩ := ih (by omega)
      obtain ⟨j, hj1, hj2, _⟩ := order_ahead haf _ d l h k (by omega)
      rw [longF_succ af l (by omega), hj1]
      unfold farStep
      simp only [Int.toNat_natCast]
      rw [hf j hj2]
      have e0 : farK [] (j : Int) (longF af l k).1 ([] : List Int).length = (longF af l k).1.set j 1 := rfl
      rw [e0]
      refine ⟨by rw [List.length_set, g1], ?_⟩
      rw [set_get, if_pos ⟨rfl, by omega⟩, g2]
      simp
      split <;> omega
  rw [(hk l.length (Nat.le_refl _)).2, if_neg (by have := hi.num; omega)]

/-- with one done more nothing else is less ready -/
theorem ready_more {af : List (List Int)} {done : List Bool} {m : Nat} {i : Int} (hi : i ∈ rdyL af done af.length) (hne : i ≠ (m : Int)) (haf : AfOk af) : i ∈ rdyL af (done.set m true) af.length := by
  obtain ⟨j, rfl, hj, hb⟩ := rdyL_mem.1 hi
  refine rdyL_mem.2 ⟨j, rfl, hj, ?_⟩
  have hset : ∀ q : Nat, (done.set m true)[q]! = if m = q ∧ q < done.length then true else done[q]! := by
    intro q
    exact set_get
  have hD : ∀ a : Int, isD done a = true → isD (done.set m true) a = true := by
    intro a ha
    unfold isD at ha ⊢
    rw [Bool.and_eq_true] at ha ⊢
    rw [List.length_set, hset]
    refine ⟨ha.1, ?_⟩
    split
    · rfl
    · exact ha.2
  unfold readyB at hb ⊢
  rw [Bool.and_eq_true] at hb ⊢
  obtain ⟨h1, h2⟩ := hb
  refine ⟨?_, ?_⟩
  · have e : isD (done.set m true) (j : Int) = isD done (j : Int) := by
      unfold isD
      rw [List.length_set, hset]
      simp only [Int.toNat_natCast]
      rw [if_neg (by omega)]
    rw [e]; exact h1
  · rw [Bool.not_eq_true'] at h2 ⊢
    rw [List.any_eq_false] at h2 ⊢
    intro a ha
    have := h2 a ha
    simp only [Bool.not_eq_true, Bool.not_eq_false'] at this
    simp [hD a this]
theorem ready_not {af : List (List Int)} {done : List Bool} {m : Nat} (hm : m < done.length) : (m : Int) ∉ rdyL af (done.set m true) af.length := by
  intro h
  obtain ⟨j, hj1, hj, hb⟩ := rdyL_mem.1 h
  obtain rfl : m = j := by omega
  unfold readyB at hb
  rw [Bool.and_eq_true] at hb
  have : isD (done.set m true) (m : Int) = true := by
    unfold isD
    rw [List.length_set]
    simp [hm]
  rw [this] at hb
  cases hb.1
end Go.Proofs.Ytbbcicengfmhiaa

/- The document's own vote. Conditions: the list is short. -/
import Derived.Test.YtpkmgdpnimecfaaGat4
import Derived.Laws.AppendOwnNone
import Derived.Handy
namespace Go.Proofs.Ytpkmgdpnimecfaa
open Go.RowKit

set_option maxHeartbeats 1000000 in
theorem ref12In (x : Int) (v : Value) (xs : List Int) (w : World) (hS : SlAt 1 encI w v xs) (hbig : xs.length ≤ 1000000) :
    Calls Try.prog 81 #[v, .int .i64 x] w fun e w' => e = .returned (.bool (xs.any fun y => x == y)) ∧ w = w' := by
  obtain ⟨pp, c, rfl, hn, hcell⟩ := hS
  have HC := Lib.hid hcell
  clear hn hcell
  obtain ⟨R, hR⟩ : ∃ R, R = xs.any fun y => x == y := ⟨_, rfl⟩
  rw [← hR]
  have HR := Lib.hid hR
  clear hR
  generalize hlen : xs.length = n at hbig
  have HL := Lib.hid hlen
  clear hlen
  go_enter Try.func81, Try.ntmps81
  go_wp2
  go_loopw [5] (fun i wr => ∃ j : Nat, j ≤ n ∧ i = .int .i64 j ∧ w = wr ∧ ∀ k, k < j → (xs[k]! == x) = false) (fun i _ => n - (intOf i).toNat)
  case atStart => exact ⟨0, by omega, rfl, rfl, fun k hk => absurd hk (by omega)⟩
  case round =>
    obtain ⟨j, hj, rfl, rfl, hall⟩ := hrel
    have HA := Lib.hid hall
    clear hall
    by_cases hlt : j < n
    · have hltz : (j : Int) < (n : Int) := by omega
      obtain ⟨b, off, rfl, hb, hc⟩ := HC.out (by have := HL.out; omega)
      have hc0 : w.cell? ⟨b, off + j, none⟩ = some (.int .i64 xs[j]!) := by have := hc j (by have := HL.out; omega) 0 _ rfl; simpa using this
      clear hc
      cases hq : (xs[j]! == x)
      · have HQ := Lib.hid hq
        generalize xs[j]! = y at hc0 hq
        go_wp2
        go_roundw
        case rel =>
          have hq' : ∀ k, k < j + 1 → (xs[k]! == x) = false := fun k hk => by by_cases e : k = j; (subst e; exact HQ.out); exact HA.out k (by omega)
          first | exact ⟨j + 1, by omega, by go_num, rfl, hq'⟩ | exact ⟨j + 1, by omega, by go_num, trivial, hq'⟩
        case measure => simp [intOf] <;> omega
      · have hres : R = true := by
          rw [HR.out, List.any_eq_true]
          refine ⟨xs[j]!, by rw [getElem!_pos xs j (by have := HL.out; omega)]; exact List.getElem_mem _, ?_⟩
          have : xs[j]! = x := by simpa using hq
          rw [this]; simp
        subst hres
        generalize xs[j]! = y at hc0 hq
        go_wp2
        go_ret
        exact ⟨rfl, rfl⟩
    · obtain rfl : j = n := by omega
      have hres : R = false := by
        rw [HR.out, List.any_eq_false]
        intro y hy
        obtain ⟨k, hk, rfl⟩ := List.getElem_of_mem hy
        have := HA.out k (by have := HL.out; omega)
        rw [getElem!_pos xs k hk] at this
        simp at this ⊢
        exact fun e => this e.symm
      subst hres
      go_wp2
      go_ret
      exact ⟨rfl, rfl⟩

/-- a list copied by an append to none -/
theorem wpList_copyNil {P : Program} {W : World} {ops : Array Oper} {rest : List Oper} {o : Oper} {a : Act} {Q : Exit → Act → World → Prop} (hgd : o.guard = none) (s x : Operand) (t : TypeId)
    (ho : o.op = .call { callee := .builtin .append, args := #[s, x], argTypes := #[t, t] }) (i : TypeInfo) (ht : P.underlying t = some (.slice 3)) (hi : P.info? 3 = some i)
    (hz : i.zero = some (.int .i64 0)) (hsize : i.size = 1) (hby : i.bytes = 8) (hs : a.eval s = .slice none 0 0) (v : Value) (xs : List Int) (hx : a.eval x = v)
    (hS : SlAt 1 encI W v xs) (hb : xs.length ≤ 1000000)
    (h : ∀ v' w', w'.ownsRow W.heap.size 3 1 v' xs.length (flat encI xs) → Below W.heap.size W w' → wpList P ops Q rest (a.put o.dst v') w') : wpList P ops Q (o :: rest) a W := by
  obtain ⟨p, c, rfl, ⟨_, hn⟩, hc⟩ := hS
  have hown : W.ownsRow W.heap.size 3 1 (.slice none 0 0) 0 [] := ⟨by simp, .inl ⟨rfl, rfl⟩⟩
  cases p with
  | none =>
    obtain ⟨rfl, rfl⟩ := hn rfl
    exact wpList_append_own_none hgd s x t ho W.heap.size 3 i 1 ht hi _ 0 [] hs hown hx (h _ _ (by simpa [flat] using hown) (Below.refl _ _))
  | some ad =>
    refine wpList_append_own _ hgd s x t ho W.heap.size 3 i (.int .i64 0) 1 8 ht hi hz hsize hby rfl (by decide) _ _ _ hs hown ad xs.length c (flat encI xs) hx (flat_length (enc := encI) (fun _ => rfl) xs) ?_ (by rw [flatI]; exact oneI xs) (by unfold maxLen; omega) (by omega) (Nat.le_refl _) ?_
    · intro j u hj
      have hl := flat_length (enc := encI) (k := 1) (fun _ => rfl) xs
      have hpos : 0 < xs.length := by
        have := (List.getElem?_eq_some_iff.1 hj).1
        omega
      obtain ⟨b, off, hp, hlt, hcell⟩ := hc hpos
      obtain rfl : ad = ⟨b, off, none⟩ := by simpa using hp
      rw [Go.WideShapes.add_plain]
      exact SlAt.flat_cells (enc := encI) (by decide) (fun _ => rfl) hcell j u hj
    · intro v' w' h2 hg _
      exact h v' w' (by simpa using h2) ((Below.refl _ _).grown hg (Nat.le_refl _) (by intro q hq; simp [Value.ownBlock] at hq))

/-- an own slice of numbers -/
def OwnJ (W : World) (B : Nat) (v : Value) (xs : List Int) : Prop := W.ownsRow B 3 1 v xs.length (flat encI xs)
/-- one number appended -/
theorem wpList_app1 {P : Program} {W : World} {ops : Array Oper} {rest : List Oper} {o : Oper} {a : Act} {Q : Exit → Act → World → Prop} (hgd : o.guard = none) (s x : Operand) (t : TypeId)
    (ho : o.op = .call { callee := .builtin .append, args := #[s, x], argTypes := #[t, t] }) (i : TypeInfo) (ht : P.underlying t = some (.slice 3)) (hi : P.info? 3 = some i)
    (hz : i.zero = some (.int .i64 0)) (hsize : i.size = 1) (hby : i.bytes = 8) (B : Nat) (v : Value) (ys : List Int) (n : Int) (hs : a.eval s = v) (hx : a.eval x = .slice (some ⟨W.heap.size, 0, none⟩) 1 1)
    (hown : W.ownsRow B 3 1 v ys.length (flat encI ys)) (hB : B ≤ W.heap.size) (hb : ys.length ≤ 1000000)
    (h : ∀ v' w', OwnJ w' B v' (ys ++ [n]) → Below B W w' → wpList P ops Q rest (a.put o.dst v') w') : wpList P ops Q (o :: rest) a (W.alloc (.cells #[.int .i64 n] 3)) := by
  refine wpList_append_own _ hgd s x t ho B 3 i (.int .i64 0) 1 8 ht hi hz hsize hby rfl (by decide) _ _ _ hs (owns_below hown (below1 _ _)) ⟨W.heap.size, 0, none⟩ 1 1 [.int .i64 n] hx rfl ?_ (by simp [Value.oneCell']) (by unfold maxLen; omega) (by omega) (Nat.le_trans hB (below1 _ _).size) ?_
  · intro j u hj
    match j, hj with
    | 0, hj =>
      simp at hj
      subst hj
      rw [Go.WideShapes.add_plain]
      exact World.cell?_alloc_at _ _ W.heap.size 0 rfl
  · intro v' w' h2 hg _
    refine h v' w' (by unfold OwnJ; simpa [flat, encI] using h2) ?_
    exact ((Below.refl B W).alloc hB _).grown hg (Nat.le_trans hB (below1 _ _).size) (fun k hk => owns_block hown k hk)
/-- what the document has built behind j of them -/
def outV (xs : List Int) (who : Int) (j : Nat) : List Int := if posL xs who < j then insL (xs.take j) (posL xs who) who else xs.take j
theorem posL_spec (xs : List Int) (who : Int) : (∀ j, j < posL xs who → ¬ who < xs[j]!) ∧ (posL xs who < xs.length → who < xs[posL xs who]!) := by
  unfold posL
  cases h : xs.findIdx? (fun k => decide (who < k)) with
  | none =>
    rw [List.findIdx?_eq_none_iff] at h
    refine ⟨fun j hj => ?_, fun hlt => absurd hlt (Nat.lt_irrefl _)⟩
    rw [getElem!_pos xs j hj]
    simpa using h xs[j] (List.getElem_mem hj)
  | some i =>
    obtain ⟨hi, h1, h2⟩ := List.findIdx?_eq_some_iff_getElem.1 h
    refine ⟨fun j hj => ?_, fun _ => ?_⟩
    · have := h2 j hj
      rw [getElem!_pos xs j (Nat.lt_trans hj hi)]
      simpa using this
    · rw [getElem!_pos xs i hi]
      simpa using h1
theorem outV_step {xs : List Int} {who : Int} {j : Nat} (hj : j < xs.length) : outV xs who (j + 1) = (if posL xs who = j then outV xs who j ++ [who] else outV xs who j) ++ [xs[j]!] := by
  unfold outV
  have ht : xs.take (j + 1) = xs.take j ++ [xs[j]!] := by rw [List.take_succ_eq_append_getElem hj, getElem!_pos xs j hj]
  have hl : (xs.take j).length = j := by rw [List.length_take]; omega
  rcases Nat.lt_trichotomy (posL xs who) j with h | h | h
  · rw [if_pos (by omega), if_neg (by omega), if_pos h, ht]
    unfold insL
    rw [List.take_append_of_le_length (by omega), List.drop_append_of_le_length (by omega)]
    simp
  · rw [if_pos (by omega), if_pos h, if_neg (by omega), ht, h]
    unfold insL
    rw [List.take_append_of_le_length (by omega), List.drop_append_of_le_length (by omega)]
    rw [List.take_of_length_le (by omega), List.drop_of_length_le (by omega)]
    simp
  · rw [if_neg (by omega), if_neg (by omega), if_neg (by omega), ht]
theorem outV_end (xs : List Int) (who : Int) : (if posL xs who < xs.length then outV xs who xs.length else outV xs who xs.length ++ [who]) = insL xs (posL xs who) who := by
  unfold outV
  by_cases h : posL xs who < xs.length
  · rw [if_pos h, if_pos h, List.take_of_length_le (Nat.le_refl _)]
  · have he : posL xs who = xs.length := by have := posL_le xs who; omega
    rw [if_neg h, if_neg h, he, List.take_of_length_le (Nat.le_refl _)]
    simp [insL]
theorem outV_len {xs : List Int} {who : Int} {j : Nat} (hj : j ≤ xs.length) : (outV xs who j).length ≤ j + 1 := by
  unfold outV
  split
  · rename_i h
    rw [insL_len (by rw [List.length_take]; omega), List.length_take]
    omega
  · rw [List.length_take]; omega

def RefPost (xs : List Int) (no : Bool) (who : Int) (yes : Bool) (need : Int) (w : World) (e : Ending) (w' : World) : Prop :=
  ∃ v', e = .returned (.tuple #[v', .bool (no || !yes), .bool (!(no || !yes) && decide (need ≤ ((voteL xs who yes).length : Int)))]) ∧ SlAt 1 encI w' v' (voteL xs who yes) ∧ Below w.heap.size w w' ∧ ∀ k, v'.ownBlock = some k → w.heap.size ≤ k

set_option maxRecDepth 100000 in
set_option maxHeartbeats 4000000 in
theorem ref12Vote (v : Value) (no : Bool) (xs : List Int) (who : Int) (yes : Bool) (need : Int) (w : World) (hS : SlAt 1 encI w v xs) (hlen : xs.length ≤ 900) :
    Calls Try.prog 47 #[v, .bool no, .int .i64 who, .bool yes, .int .i64 need] w (RefPost xs no who yes need w) := by
  have HS := Lib.hid hS
  obtain ⟨p, c, rfl, _, _⟩ := id hS
  obtain ⟨i0, hi, hz0, hz1, hz2⟩ := info_int
  have HI := Lib.hid hi
  have HZ := Lib.hid hz0
  clear hS hi hz0
  go_enter Try.func47, Try.ntmps47
  cases yes with
  | false =>
    go_wp2_with (at_builtin; refine wpList_copyNil rfl _ _ 64 rfl i0 Try.underlying64 HI.out HZ.out hz1 hz2 rfl (.slice p xs.length c) xs rfl HS.out (by omega) ?_)
    intro v' w1 hown hb
    go_wp2
    go_ret3
    exact ⟨v', by simp, SlAt.of_owns (enc := encI) (fun _ => rfl) hown, hb, fun k hk => owns_block hown k hk⟩
  | true =>
    cases t1 : decide (who < (0 : Int)) with
    | true =>
      have hvl : voteL xs who true = xs := voteL_no (by simp [inR]; simp at t1; omega)
      have HVL := Lib.hid hvl
      clear hvl
      cases no with
      | true =>
        go_wp2_with (at_builtin; refine wpList_copyNil rfl _ _ 64 rfl i0 Try.underlying64 HI.out HZ.out hz1 hz2 rfl (.slice p xs.length c) xs rfl HS.out (by omega) ?_)
        intro v' w1 hown hb
        go_wp2
        go_ret3
        unfold RefPost
        rw [HVL.out]
        exact ⟨v', by simp, SlAt.of_owns (enc := encI) (fun _ => rfl) hown, hb, fun k hk => owns_block hown k hk⟩
      | false =>
        cases hn : decide (need ≤ (xs.length : Int)) with
        | true =>
          go_wp2_with (at_builtin; refine wpList_copyNil rfl _ _ 64 rfl i0 Try.underlying64 HI.out HZ.out hz1 hz2 rfl (.slice p xs.length c) xs rfl HS.out (by omega) ?_)
          intro v' w1 hown hb
          go_wp2
          go_ret3
          unfold RefPost
          rw [HVL.out]
          exact ⟨v', by simp [hn], SlAt.of_owns (enc := encI) (fun _ => rfl) hown, hb, fun k hk => owns_block hown k hk⟩
        | false =>
          go_wp2_with (at_builtin; refine wpList_copyNil rfl _ _ 64 rfl i0 Try.underlying64 HI.out HZ.out hz1 hz2 rfl (.slice p xs.length c) xs rfl HS.out (by omega) ?_)
          intro v' w1 hown hb
          go_wp2
          go_ret3
          unfold RefPost
          rw [HVL.out]
          exact ⟨v', by simp [hn], SlAt.of_owns (enc := encI) (fun _ => rfl) hown, hb, fun k hk => owns_block hown k hk⟩
    | false =>
      cases t2 : decide ((11 : Int) < who) with
      | true =>
        have hvl : voteL xs who true = xs := voteL_no (by simp [inR]; simp at t1 t2; omega)
        have HVL := Lib.hid hvl
        clear hvl
        cases no with
        | true =>
          go_wp2_with (at_builtin; refine wpList_copyNil rfl _ _ 64 rfl i0 Try.underlying64 HI.out HZ.out hz1 hz2 rfl (.slice p xs.length c) xs rfl HS.out (by omega) ?_)
          intro v' w1 hown hb
          go_wp2
          go_ret3
          unfold RefPost
          rw [HVL.out]
          exact ⟨v', by simp, SlAt.of_owns (enc := encI) (fun _ => rfl) hown, hb, fun k hk => owns_block hown k hk⟩
        | false =>
          cases hn : decide (need ≤ (xs.length : Int)) with
          | true =>
            go_wp2_with (at_builtin; refine wpList_copyNil rfl _ _ 64 rfl i0 Try.underlying64 HI.out HZ.out hz1 hz2 rfl (.slice p xs.length c) xs rfl HS.out (by omega) ?_)
            intro v' w1 hown hb
            go_wp2
            go_ret3
            unfold RefPost
            rw [HVL.out]
            exact ⟨v', by simp [hn], SlAt.of_owns (enc := encI) (fun _ => rfl) hown, hb, fun k hk => owns_block hown k hk⟩
          | false =>
            go_wp2_with (at_builtin; refine wpList_copyNil rfl _ _ 64 rfl i0 Try.underlying64 HI.out HZ.out hz1 hz2 rfl (.slice p xs.length c) xs rfl HS.out (by omega) ?_)
            intro v' w1 hown hb
            go_wp2
            go_ret3
            unfold RefPost
            rw [HVL.out]
            exact ⟨v', by simp [hn], SlAt.of_owns (enc := encI) (fun _ => rfl) hown, hb, fun k hk => owns_block hown k hk⟩
      | false =>
        have hin : inR 12 who = true := by simp [inR]; simp at t1 t2; omega
        cases t3 : (xs.any fun y => who == y) with
        | true =>
          have hvl : voteL xs who true = xs := voteL_no (by simp [hin, t3])
          have q := ref12In who (.slice p xs.length c) xs w HS.out (by omega)
          rw [t3] at q
          go_wp2_with fail
          refine q.mono ?_
          rintro e w' ⟨rfl, rfl⟩
          clear q
          have HVL := Lib.hid hvl
          clear hvl
          cases no with
          | true =>
            go_wp2_with (at_builtin; refine wpList_copyNil rfl _ _ 64 rfl i0 Try.underlying64 HI.out HZ.out hz1 hz2 rfl (.slice p xs.length c) xs rfl HS.out (by omega) ?_)
            intro v' w1 hown hb
            go_wp2
            go_ret3
            unfold RefPost
            rw [HVL.out]
            exact ⟨v', by simp, SlAt.of_owns (enc := encI) (fun _ => rfl) hown, hb, fun k hk => owns_block hown k hk⟩
          | false =>
            cases hn : decide (need ≤ (xs.length : Int)) with
            | true =>
              go_wp2_with (at_builtin; refine wpList_copyNil rfl _ _ 64 rfl i0 Try.underlying64 HI.out HZ.out hz1 hz2 rfl (.slice p xs.length c) xs rfl HS.out (by omega) ?_)
              intro v' w1 hown hb
              go_wp2
              go_ret3
              unfold RefPost
              rw [HVL.out]
              exact ⟨v', by simp [hn], SlAt.of_owns (enc := encI) (fun _ => rfl) hown, hb, fun k hk => owns_block hown k hk⟩
            | false =>
              go_wp2_with (at_builtin; refine wpList_copyNil rfl _ _ 64 rfl i0 Try.underlying64 HI.out HZ.out hz1 hz2 rfl (.slice p xs.length c) xs rfl HS.out (by omega) ?_)
              intro v' w1 hown hb
              go_wp2
              go_ret3
              unfold RefPost
              rw [HVL.out]
              exact ⟨v', by simp [hn], SlAt.of_owns (enc := encI) (fun _ => rfl) hown, hb, fun k hk => owns_block hown k hk⟩
        | false =>
          have hvl : voteL xs who true = insL xs (posL xs who) who := voteL_yes (by simp [hin, t3])
          have HVL := Lib.hid hvl
          have q := ref12In who (.slice p xs.length c) xs w HS.out (by omega)
          rw [t3] at q
          go_wp2_with fail
          refine q.mono ?_
          rintro e w' ⟨rfl, rfl⟩
          clear q hvl
          obtain ⟨p', c', hv, _, hc⟩ := id HS.out
          simp only [Value.slice.injEq] at hv
          obtain ⟨rfl, hx, rfl⟩ := hv
          have HC := Lib.hid hc
          clear hx hc
          go_wp2
          go_loopw [13, 14, 15] (fun o d i wr => ∃ j : Nat, j ≤ xs.length ∧ i = .int .i64 j ∧ d = .bool (decide (posL xs who < j)) ∧ Below w.heap.size w wr ∧ wr.ownsRow w.heap.size 3 1 o (outV xs who j).length (flat encI (outV xs who j))) (fun _ _ i _ => xs.length - (intOf i).toNat)
          case atStart => exact ⟨0, by omega, rfl, by simp, Below.refl _ _, ⟨by simp [outV, flat], .inl ⟨rfl, by simp [outV]⟩⟩⟩
          case round =>
            clear hin t1 t2 t3
            obtain ⟨j, hj, rfl, rfl, hB, hown⟩ := hrel
            have HB := Lib.hid hB
            have HO := Lib.hid hown
            clear hB hown
            have hps := posL_spec xs who
            have hol := outV_len (xs := xs) (who := who) hj
            by_cases hlt : j < xs.length
            · have hltz : (j : Int) < (xs.length : Int) := by omega
              obtain ⟨b, off, rfl, hb, hcell⟩ := HC.out (by omega)
              have hc0 : wr.cell? ⟨b, off + j, none⟩ = some (.int .i64 xs[j]!) := (HB.out.cell (p := ⟨b, off + j, none⟩) hb).trans (by have := hcell j hlt 0 _ rfl; simpa using this)
              have HST := Lib.hid (outV_step (who := who) hlt)
              have HSL := Lib.hid (SlAt.of_owns (enc := encI) (fun _ => rfl) HO.out)
              clear hcell
              have hpj : posL xs who = j → who < xs[j]! := fun h => by have := hps.2 (by omega); rwa [h] at this
              have hpn : j < posL xs who → ¬ who < xs[j]! := fun h => hps.1 j h
              have HPS := Lib.hid (And.intro hpj hpn)
              clear hpj hpn hps
              generalize hk : xs[j]! = k at hc0 HST HPS
              clear hk
              have tri : RowKit.Hid (posL xs who < j) ∨ RowKit.Hid (posL xs who = j) ∨ RowKit.Hid (j < posL xs who) := by
                by_cases h1 : posL xs who < j
                · exact .inl (Lib.hid h1)
                · by_cases h2 : posL xs who = j
                  · exact .inr (.inl (Lib.hid h2))
                  · exact .inr (.inr (Lib.hid (by omega)))
              rcases tri with H | H | H
              · have hd1 : decide (posL xs who < j) = true := by simpa using H.out
                rw [hd1]
                go_wp2_with (at_builtin; refine wpList_app1 rfl _ _ 64 rfl i0 Try.underlying64 HI.out HZ.out hz1 hz2 w.heap.size u13 (outV xs who j) k rfl rfl HO.out HB.out.size (by omega) ?_)
                intro v' w1 hown1 hb1
                have HO1 := Lib.hid (show w1.ownsRow w.heap.size 3 1 v' (outV xs who j ++ [k]).length (flat encI (outV xs who j ++ [k])) from hown1)
                clear hown1
                obtain ⟨p1, c1, rfl, _, _⟩ := SlAt.of_owns (enc := encI) (fun _ => rfl) HO1.out
                have HB1 := Lib.hid (HB.out.trans hb1)
                clear hb1
                go_wp2
                go_roundw
                case rel =>
                  have r1 : w1.ownsRow w.heap.size 3 1 (.slice p1 (outV xs who j ++ [k]).length c1) (outV xs who (j + 1)).length (flat encI (outV xs who (j + 1))) := by rw [HST.out, if_neg (by have := H.out; omega)]; exact HO1.out
                  have r2 : decide (posL xs who < j + 1) = true := by have := H.out; simp; omega
                  first | exact ⟨j + 1, by omega, by go_num, by rw [r2], HB1.out, r1⟩ | ((repeat apply Exists.intro); exact ⟨⟨j + 1, by omega, by go_num, by rw [r2], HB1.out, r1⟩, rfl⟩)
                case measure => simp [intOf] <;> omega
              · have hd1 : decide (posL xs who < j) = false := by have := H.out; simp; omega
                have hwk : decide (who < k) = true := by simpa using HPS.out.1 H.out
                rw [hd1]
                go_wp2_with (at_builtin; refine wpList_app1 rfl _ _ 64 rfl i0 Try.underlying64 HI.out HZ.out hz1 hz2 w.heap.size u13 (outV xs who j) who rfl rfl HO.out HB.out.size (by omega) ?_)
                intro v' w1 hown1 hb1
                have HO1 := Lib.hid (show w1.ownsRow w.heap.size 3 1 v' (outV xs who j ++ [who]).length (flat encI (outV xs who j ++ [who])) from hown1)
                clear hown1
                have HB1 := Lib.hid (HB.out.trans hb1)
                have hcx := (hb1.mono (Nat.le_refl _)).size
                have hc1 : w1.cell? ⟨b, off + j, none⟩ = some (.int .i64 k) := by
                  have := HB1.out.cell (p := ⟨b, off + j, none⟩) hb
                  rw [this, ← HB.out.cell (p := ⟨b, off + j, none⟩) hb]
                  exact hc0
                clear hb1 hc0
                go_wp2_with (at_builtin; refine wpList_app1 rfl _ _ 64 rfl i0 Try.underlying64 HI.out HZ.out hz1 hz2 w.heap.size v' (outV xs who j ++ [who]) k rfl rfl HO1.out HB1.out.size (by rw [List.length_append]; simp; omega) ?_)
                intro v'' w2 hown2 hb2
                have HO2 := Lib.hid (show w2.ownsRow w.heap.size 3 1 v'' (outV xs who j ++ [who] ++ [k]).length (flat encI (outV xs who j ++ [who] ++ [k])) by have := hown2; unfold OwnJ at this; simpa using this)
                clear hown2
                obtain ⟨p2, c2, rfl, _, _⟩ := SlAt.of_owns (enc := encI) (fun _ => rfl) HO2.out
                have HB2 := Lib.hid (HB1.out.trans hb2)
                clear hb2
                go_wp2
                go_roundw
                case rel =>
                  have r1 : w2.ownsRow w.heap.size 3 1 (.slice p2 (outV xs who j ++ [who] ++ [k]).length c2) (outV xs who (j + 1)).length (flat encI (outV xs who (j + 1))) := by rw [HST.out, if_pos H.out]; exact HO2.out
                  have r2 : decide (posL xs who < j + 1) = true := by have := H.out; simp; omega
                  first | exact ⟨j + 1, by omega, by go_num, by rw [r2], HB2.out, r1⟩ | ((repeat apply Exists.intro); exact ⟨⟨j + 1, by omega, by go_num, by rw [r2], HB2.out, r1⟩, rfl⟩) | trace_state
                case measure => simp [intOf] <;> omega
              · have hd1 : decide (posL xs who < j) = false := by have := H.out; simp; omega
                have hwk : decide (who < k) = false := by simpa using HPS.out.2 H.out
                rw [hd1]
                go_wp2_with (at_builtin; refine wpList_app1 rfl _ _ 64 rfl i0 Try.underlying64 HI.out HZ.out hz1 hz2 w.heap.size u13 (outV xs who j) k rfl rfl HO.out HB.out.size (by omega) ?_)
                intro v' w1 hown1 hb1
                have HO1 := Lib.hid (show w1.ownsRow w.heap.size 3 1 v' (outV xs who j ++ [k]).length (flat encI (outV xs who j ++ [k])) from hown1)
                clear hown1
                obtain ⟨p1, c1, rfl, _, _⟩ := SlAt.of_owns (enc := encI) (fun _ => rfl) HO1.out
                have HB1 := Lib.hid (HB.out.trans hb1)
                clear hb1
                go_wp2
                go_roundw
                case rel =>
                  have r1 : w1.ownsRow w.heap.size 3 1 (.slice p1 (outV xs who j ++ [k]).length c1) (outV xs who (j + 1)).length (flat encI (outV xs who (j + 1))) := by rw [HST.out, if_neg (by have := H.out; omega)]; exact HO1.out
                  have r2 : decide (posL xs who < j + 1) = false := by have := H.out; simp; omega
                  first | exact ⟨j + 1, by omega, by go_num, by rw [r2], HB1.out, r1⟩ | ((repeat apply Exists.intro); exact ⟨⟨j + 1, by omega, by go_num, by rw [r2], HB1.out, r1⟩, rfl⟩) | trace_state
                case measure => simp [intOf] <;> omega
            · obtain rfl : j = xs.length := by omega
              have hE := outV_end xs who
              by_cases h : posL xs who < xs.length
              · have hd1 : decide (posL xs who < xs.length) = true := by simpa using h
                rw [if_pos h] at hE
                have HE := Lib.hid hE
                clear hE
                rw [hd1]
                rw [HE.out] at HO
                obtain ⟨po, co, rfl, _, _⟩ := SlAt.of_owns (enc := encI) (fun _ => rfl) HO.out
                clear h hd1 hps hol
                cases no with
                | true =>
                  go_wp2
                  go_ret3
                  unfold RefPost
                  rw [HVL.out]
                  exact ⟨_, by simp, by exact SlAt.of_owns (enc := encI) (fun _ => rfl) HO.out, HB.out, fun k hk => owns_block HO.out k hk⟩
                | false =>
                  cases hn : decide (need ≤ ((insL xs (posL xs who) who).length : Int)) with
                  | true =>
                    go_wp2
                    go_ret3
                    unfold RefPost
                    rw [HVL.out]
                    exact ⟨_, by simp [hn], by exact SlAt.of_owns (enc := encI) (fun _ => rfl) HO.out, HB.out, fun k hk => owns_block HO.out k hk⟩
                  | false =>
                    go_wp2
                    go_ret3
                    unfold RefPost
                    rw [HVL.out]
                    exact ⟨_, by simp [hn], by exact SlAt.of_owns (enc := encI) (fun _ => rfl) HO.out, HB.out, fun k hk => owns_block HO.out k hk⟩
              · have hd1 : decide (posL xs who < xs.length) = false := by simpa using h
                rw [if_neg h] at hE
                have HE := Lib.hid hE
                clear hE
                rw [hd1]
                go_wp2_with (at_builtin; refine wpList_app1 rfl _ _ 64 rfl i0 Try.underlying64 HI.out HZ.out hz1 hz2 w.heap.size u13 (outV xs who xs.length) who rfl rfl HO.out HB.out.size (by omega) ?_)
                intro v' w1 hown1 hb1
                have HO1 := Lib.hid (show w1.ownsRow w.heap.size 3 1 v' (outV xs who xs.length ++ [who]).length (flat encI (outV xs who xs.length ++ [who])) from hown1)
                clear hown1
                obtain ⟨p1, c1, rfl, _, _⟩ := SlAt.of_owns (enc := encI) (fun _ => rfl) HO1.out
                have HB1 := Lib.hid (HB.out.trans hb1)
                clear hb1
                rw [HE.out] at HO1
                clear h hd1 hps hol
                cases no with
                | true =>
                  go_wp2
                  go_ret3
                  unfold RefPost
                  rw [HVL.out]
                  exact ⟨_, by simp [← HE.out], by exact SlAt.of_owns (enc := encI) (fun _ => rfl) HO1.out, HB1.out, fun k hk => owns_block HO1.out k hk⟩
                | false =>
                  have hl : ((insL xs (posL xs who) who).length : Int) = ((outV xs who xs.length).length : Int) + 1 := by rw [← HE.out]; simp
                  cases hn' : decide (need ≤ ((outV xs who xs.length).length : Int) + 1) with
                  | true =>
                    go_wp2
                    go_ret3
                    unfold RefPost
                    rw [HVL.out]
                    exact ⟨_, by simp [← HE.out, hn'], by exact SlAt.of_owns (enc := encI) (fun _ => rfl) HO1.out, HB1.out, fun k hk => owns_block HO1.out k hk⟩
                  | false =>
                    go_wp2
                    go_ret3
                    unfold RefPost
                    rw [HVL.out]
                    exact ⟨_, by simp [← HE.out, hn'], by exact SlAt.of_owns (enc := encI) (fun _ => rfl) HO1.out, HB1.out, fun k hk => owns_block HO1.out k hk⟩
end Go.Proofs.Ytpkmgdpnimecfaa

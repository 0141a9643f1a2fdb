/- Copies of bools, maps of numbers, and the law's plain side. -/
import Derived.Test.YtbbcicengfmhiaaAwk9
import Derived.Laws.AppendOwnNone
namespace Go.Proofs.Ytbbcicengfmhiaa
set_option maxRecDepth 100000
open Go.RowKit

theorem flatB (xs : List Bool) : flat encB xs = xs.map Value.bool := by
  induction xs with
  | nil => rfl
  | cons x xs ih => simp [flat, encB] at ih ⊢; exact ih
/-- bools copied by an append to a new empty one -/
theorem wpList_copyB {P : Program} {W : World} {ops : Array Oper} {rest : List Oper} {o : Oper} {a : Act} {Q : Exit → Act → World → Prop} (hgd : o.guard = none) (s x : Operand) (t : TypeId)
    (ho : o.op = .call { callee := .builtin .append, args := #[s, x], argTypes := #[t, t] }) (i : TypeInfo) (ht : P.underlying t = some (.slice 4)) (hi : P.info? 4 = some i)
    (hz : i.zero = some (.bool false)) (hsize : i.size = 1) (hby : i.bytes = 1) (hs : a.eval s = .slice (some ⟨W.heap.size, 0, none⟩) 0 0) (v : Value) (xs : List Bool) (hx : a.eval x = v)
    (hS : SlAt 1 encB W v xs) (hb : xs.length ≤ 1000000)
    (h : ∀ v' w', w'.ownsRow W.heap.size 4 1 v' xs.length (flat encB xs) → Below W.heap.size W w' → wpList P ops Q rest (a.put o.dst v') w') : wpList P ops Q (o :: rest) a (W.alloc (.cells #[] 4)) := by
  obtain ⟨p, c, rfl, ⟨_, hn⟩, hc⟩ := hS
  have hown : (W.alloc (.cells #[] 4)).ownsRow W.heap.size 4 1 (.slice (some ⟨W.heap.size, 0, none⟩) 0 0) 0 [] := World.ownsRow_made W #[] 0 (Nat.le_refl _) (Nat.zero_le _) (by simp)
  cases p with
  | none =>
    obtain ⟨rfl, rfl⟩ := hn rfl
    exact wpList_append_own_none hgd s x t ho W.heap.size 4 i 1 ht hi _ 0 [] hs hown hx (h _ _ (by simpa [flat] using hown) (below1 _ _))
  | some ad =>
    refine wpList_append_own _ hgd s x t ho W.heap.size 4 i (.bool false) 1 1 ht hi hz hsize hby rfl (by decide) _ _ _ hs hown ad xs.length c (flat encB xs) hx (flat_length (enc := encB) (fun _ => rfl) xs) ?_ (by rw [flatB]; intro u hu; obtain ⟨y, _, rfl⟩ := List.mem_map.1 hu; rfl) (by unfold maxLen; omega) (by omega) (by simp) ?_
    · intro j u hj
      have hl := flat_length (enc := encB) (k := 1) (fun _ => rfl) xs
      have hpos : 0 < xs.length := by
        have := (List.getElem?_eq_some_iff.1 hj).1
        omega
      obtain ⟨b, off, hp, hlt, hcell⟩ := hc hpos
      obtain rfl : ad = ⟨b, off, none⟩ := by simpa using hp
      rw [Go.WideShapes.add_plain, (below1 W _).cell (p := ⟨b, off + j, none⟩) hlt]
      exact SlAt.flat_cells (enc := encB) (by decide) (fun _ => rfl) hcell j u hj
    · intro v' w' h2 hg _
      refine h v' w' (by simpa using h2) ?_
      exact (below1 W _).grown hg (by simp) (by intro q hq; simp [Value.ownBlock] at hq; omega)
/-- an own row of bools, written to -/
theorem ownB_set {W : World} {B : Nat} {v : Value} {d : List Bool} (h : W.ownsRow B 4 1 v d.length (flat encB d)) (hpos : 0 < d.length) :
    ∃ g c, v = .slice (some ⟨g, 0, none⟩) d.length c ∧ B ≤ g ∧ g < W.heap.size ∧ ∀ a, a < d.length → W.frozen? ⟨g, a, none⟩ = false ∧ W.cell? ⟨g, a, none⟩ = some (.bool d[a]!) ∧ SlAt 1 encB (W.setCell ⟨g, a, none⟩ (.bool true)) (.slice (some ⟨g, 0, none⟩) d.length c) (d.set a true) := by
  have hcl := fun g hg => h.cells (g := g) hg
  obtain ⟨h1, h2⟩ := h
  rcases h2 with ⟨_, h0⟩ | ⟨g, cap, cur, rfl, hb, hg, hcap, hm, hsz, htk⟩
  · omega
  · refine ⟨g, cap, rfl, hb, (Array.getElem?_eq_some_iff.1 hg).1, fun a ha => ⟨Lib.frozen_of_heap hg a, ?_, ?_⟩⟩
    · have := hcl g rfl a (.bool d[a]!) (by rw [flatB, List.getElem?_map, getElem!_pos d a ha, List.getElem?_eq_getElem ha]; rfl)
      simpa [Go.WideShapes.add_plain] using this
    · have ho : (W.setCell ⟨g, a, none⟩ (.bool true)).ownsRow B 4 1 (.slice (some ⟨g, 0, none⟩) (d.set a true).length cap) (d.set a true).length (flat encB (d.set a true)) := by
        refine ⟨by rw [flat_length (enc := encB) (k := 1) (fun _ => rfl)], .inr ⟨g, cap, cur.setIfInBounds a (.bool true), rfl, hb, Joins.block_setCell hg _, by rw [List.length_set]; exact hcap, hm, by simpa using hsz, ?_⟩⟩
        rw [flatB] at htk ⊢
        rw [List.length_set, List.map_set, ← htk]
        simp [List.take_set]
      have := SlAt.of_owns (enc := encB) (fun _ => rfl) ho
      rwa [List.length_set] at this
abbrev eI (n : Int) : Value := .int .i64 n
theorem keyIB : KeyOf Try.prog 3 eI := keyOf_i64 Try.underlying3
/-- a map that says of each number whether it is among the first k -/
def NumsAt (w : World) (bm : Nat) (l : List Int) (k : Nat) : Prop := ∃ m : List (Int × Bool), MapIs w bm eI eB m ∧ ∀ s, (mlook m s).getD false = ((l.take k).any fun u => u == s)
theorem NumsAt.below {w w' : World} {bm : Nat} {l : List Int} {k : Nat} (h : NumsAt w bm l k) (hb : Below w.heap.size w w') : NumsAt w' bm l k := by
  obtain ⟨m, h1, h2⟩ := h
  exact ⟨m, h1.below hb h1.lt, h2⟩
theorem nums_next {m : List (Int × Bool)} {l : List Int} {j : Nat} (hj : j < l.length) (h : ∀ s, (mlook m s).getD false = ((l.take j).any fun u => u == s)) (s : Int) :
    (mlook (mput m l[j]! true) s).getD false = ((l.take (j + 1)).any fun u => u == s) := by
  rw [List.take_succ_eq_append_getElem hj, List.any_append, ← h, ← getElem!_pos l j hj]
  by_cases e : s = l[j]!
  · subst e
    rw [mlook_put_same]; simp
  · rw [mlook_put_other _ _ _ _ e]
    have : (l[j]! == s) = false := by rw [beq_eq_false_iff_ne]; exact fun e2 => e e2.symm
    simp only [List.any_cons, List.any_nil, this, Bool.or_false]
def flB (ts : List TaskV) (i : Nat) : Bool := (List.range i).all fun j => ts[j]!.after.isEmpty
theorem flB_succ (ts : List TaskV) (i : Nat) : flB ts (i + 1) = (flB ts i && ts[i]!.after.isEmpty) := by
  unfold flB
  rw [List.range_succ, List.all_append]
  simp
theorem aftIn_pipe {nm : ByteArray} {ts : List TaskV} (h : pipeB nm ts = true) : AftIn ts := fun j hj k hk => pipeB_after h hj hk
theorem longP_eq {nm : ByteArray} {ts : List TaskV} (h : pipeB nm ts = true) : longP nm ts = longI (afters ts) := by
  unfold longP longI orderP
  rw [if_pos h]
theorem flat_long {nm : ByteArray} {ts : List TaskV} (h : pipeB nm ts = true) : longP nm ts ≤ ts.length ∧ flB ts ts.length = (longP nm ts == 1) := by
  have hA := afOk_of (aftIn_pipe h)
  have hl := pipeB_len h
  rw [longP_eq h]
  have h1 := long_le hA
  rw [afters_len] at h1
  refine ⟨h1.1, ?_⟩
  cases hf : flB ts ts.length with
  | true =>
    unfold flB at hf
    rw [List.all_eq_true] at hf
    rw [long_flat (fun j hj => by rw [afters_len] at hj; rw [afters_at hj]; simpa using hf j (by simpa using hj)) (by rw [afters_len]; exact hl.1)]
    rfl
  | false =>
    unfold flB at hf
    rw [List.all_eq_false] at hf
    obtain ⟨j, hj, hne⟩ := hf
    have hj' : j < ts.length := by simpa using hj
    have := long_two hA ⟨j, by rw [afters_len]; exact hj', by rw [afters_at hj']; simpa using hne⟩
    symm
    rw [beq_eq_false_iff_ne]
    omega
/-- what is ready stays so when another one is done -/
theorem more_ready {nm : ByteArray} {ts : List TaskV} {done : List Bool} {m : Nat} (h : pipeB nm ts = true) {i : Int} (hi : i ∈ readyP nm ts done) (hne : i ≠ (m : Int)) : i ∈ readyP nm ts (done.set m true) := by
  have hA := afOk_of (aftIn_pipe h)
  unfold readyP at hi ⊢
  rw [if_pos h] at hi ⊢
  rw [← afters_len] at hi ⊢
  exact ready_more hi hne hA
theorem not_ready {nm : ByteArray} {ts : List TaskV} {done : List Bool} {m : Nat} (h : pipeB nm ts = true) (hm : m < done.length) : ((readyP nm ts (done.set m true)).any fun u => u == (m : Int)) = false := by
  rw [List.any_eq_false]
  intro u hu
  unfold readyP at hu
  rw [if_pos h, ← afters_len] at hu
  simp only [beq_iff_eq]
  rintro rfl
  exact ready_not hm hu
theorem readyP_len {nm : ByteArray} {ts : List TaskV} {done : List Bool} : (readyP nm ts done).length ≤ ts.length := by
  unfold readyP
  split
  · exact rdyL_len _ _ _
  · simp
end Go.Proofs.Ytbbcicengfmhiaa

/- Inbox.Add. Conditions: sizes. -/
import Derived.Test.YtbbcicengfmhiaaDoorIn3
import Derived.Test.YtbbcicengfmhiaaDoorIn5
import Derived.Test.YtbbcicengfmhiaaDoorCod1
import Derived.Deep.RegionLaw
import Derived.Deep.AppendLies
namespace Go.Proofs.YtbbcicengfmhiaaDoor
set_option maxRecDepth 100000
open Go.RowKit

/-- what adds to an inbox: its own block and its row's alone turn -/
def KeptI (b : Nat) (cv : Value) (w w' : World) : Prop := (∀ B, B ≤ b → Below B w w') ∧ (∀ q, q < w.heap.size → q ≠ b → cv.ownBlock ≠ some q → w'.heap[q]? = w.heap[q]?) ∧ w.heap.size ≤ w'.heap.size
theorem KeptI.of {b : Nat} {cv : Value} {w w' : World} (hb : b < w.heap.size) (h : Below w.heap.size w w') : KeptI b cv w w' :=
  ⟨fun _ hB => h.mono (by omega), fun q hq _ _ => h.block q hq, h.size⟩
theorem KeptI.pre {b : Nat} {cv : Value} {w w1 w' : World} (hb : b < w.heap.size) (h : Below w.heap.size w w1) (k : KeptI b cv w1 w') : KeptI b cv w w' :=
  ⟨fun B hB => (h.mono (by omega)).trans (k.1 B hB), fun q hq h1 h2 => (k.2.1 q (Nat.lt_of_lt_of_le hq h.size) h1 h2).trans (h.block q hq), Nat.le_trans h.size k.2.2⟩
def AddPost (b : Nat) (cv : Value) (l : List Rel) (r : Rel) (w : World) (e : Ending) (w' : World) : Prop :=
  e = .returned (.int .i64 (addR l r)) ∧ ∃ cv', IbAt b cv' (putR l r) w' ∧ KeptI b cv w w' ∧ (cv'.ownBlock = cv.ownBlock ∨ ∀ q, cv'.ownBlock = some q → w.heap.size ≤ q)
theorem AddPost.same {b : Nat} {cv : Value} {l : List Rel} {r : Rel} {w w' : World} (k : Int) (hk : addR l r = k) (h0 : k ≠ 0) (h : IbAt b cv l w) (hb : Below w.heap.size w w') : AddPost b cv l r w (.returned (.int .i64 k)) w' := by
  refine ⟨by rw [hk], cv, ?_, KeptI.of h.1.lt hb, .inl rfl⟩
  rw [putR, if_neg (by rw [hk]; exact h0)]
  exact h.below hb
theorem IbAt.put {b : Nat} {cv : Value} {l : List Rel} {r : Rel} {w w' : World} {v' : Value} (h : IbAt b cv l w) (hg : w.grownBy w' cv.ownBlock) (ho : w'.ownsRow (b + 1) 75 5 v' (l.length + 1) (l.flatMap encR ++ encR r)) :
    BlkIs w' b [cv] 140 ∧ IbAt b v' (l ++ [r]) (w'.setCell ⟨b, 0, none⟩ v') ∧ KeptI b cv w (w'.setCell ⟨b, 0, none⟩ v') := by
  have hrow : ∀ q, cv.ownBlock = some q → b + 1 ≤ q := owns_block h.2
  have hb1 : BlkIs w' b [cv] 140 := h.1.of (hg.block b h.1.lt (fun e => by have := hrow b e.symm; omega))
  refine ⟨hb1, ⟨by simpa using hb1.set (o := 0) v', ?_⟩, ?_⟩
  · have h1 := owns_kept (w' := w'.setCell ⟨b, 0, none⟩ v') ho (fun k hk => Below.heap_setCell _ _ _ _ (by have := owns_block ho k hk; simp; omega))
    rw [List.length_append, List.flatMap_append]
    simpa using h1
  · refine ⟨fun B hB => ((Below.refl B w).grown hg (by have := h.1.lt; omega) (fun k hk => by have := hrow k hk; omega)).setCell (p := ⟨b, 0, none⟩) hB _, fun q hq hne hno => ?_, ?_⟩
    · rw [Below.heap_setCell _ _ _ _ (by simpa using hne)]
      exact hg.block q hq (fun e => hno e.symm)
    · have := hg.size
      simpa using this
set_option maxHeartbeats 4000000 in
theorem inbAdd (b : Nat) (cv : Value) (l : List Rel) (x y z t : Int) (s : ByteArray) (w : World) (h : IbAt b cv l w) (hl : l.length ≤ 12) (hs : s.size ≤ maxLen) :
    Calls Tryd.prog 35 #[.pointer (some ⟨b, 0, none⟩), .agg #[.int .i64 x, .int .i64 y, .int .i64 z, .int .i64 t, .string s]] w (AddPost b cv l (x, y, z, t, s) w) := by
  obtain ⟨cp, cc, rfl⟩ := row_slice h.2
  have hx := below1 w (.cells #[.int .i64 x, .int .i64 y, .int .i64 z, .int .i64 t, .string s] 75)
  have HQ := Lib.hid (BlkIs.alloc w [.int .i64 x, .int .i64 y, .int .i64 z, .int .i64 t, .string s] 75)
  have HI := Lib.hid (h.below hx)
  have H0 := Lib.hid h
  have HX := Lib.hid hx
  have hbz := h.1.lt
  clear hx h
  go_enter Tryd.func35, Tryd.ntmps35
  go_wp2_with fail
  generalize w.alloc (.cells #[.int .i64 x, .int .i64 y, .int .i64 z, .int .i64 t, .string s] 75) = W0 at HQ HI HX ⊢
  refine (inbRight x y z t s W0 hs).mono ?_
  rintro e w1 ⟨rfl, hb⟩
  have HQ := Lib.hid (HQ.out.below hb)
  have HI := Lib.hid (HI.out.below hb)
  have HX := Lib.hid (HX.out.trans (hb.mono HX.out.size))
  clear hb
  cases hr : rightR (x, y, z, t, s) with
  | false =>
    have HR := Lib.hid (show addR l (x, y, z, t, s) = 1 by rw [addR, if_pos hr])
    go_wp2
    go_ret
    exact AddPost.same 1 HR.out (by decide) H0.out HX.out
  | true =>
    have q2 := HQ.out.cell 2
    have q3 := HQ.out.cell 3
    simp only [List.getElem?_cons_zero, List.getElem?_cons_succ] at q2 q3
    go_wp2_with fail
    refine (inbHas b _ l z t w1 HI.out (by omega)).mono ?_
    rintro e w2 ⟨rfl, hb⟩
    have HQ := Lib.hid (HQ.out.below hb)
    have HI := Lib.hid (HI.out.below hb)
    have HX := Lib.hid (HX.out.trans (hb.mono HX.out.size))
    clear hb q2 q3
    cases hh : hasR l z t with
    | true =>
      have HR := Lib.hid (show addR l (x, y, z, t, s) = 7 by rw [addR, if_neg (by rw [hr]; decide), if_pos hh])
      go_wp2
      go_ret
      exact AddPost.same 7 HR.out (by decide) H0.out HX.out
    | false =>
      have c0 := HI.out.1.cell 0
      simp only [List.getElem?_cons_zero] at c0
      by_cases h12 : 12 ≤ l.length
      · have HR := Lib.hid (show addR l (x, y, z, t, s) = 4 by rw [addR, if_neg (by rw [hr]; decide), if_neg (by rw [hh]; decide), if_pos h12])
        have hz : (12 : Int) ≤ (l.length : Int) := by omega
        generalize l.length = n at *
        go_wp2
        go_ret
        exact AddPost.same 4 HR.out (by decide) H0.out HX.out
      · have HR := Lib.hid (show addR l (x, y, z, t, s) = 0 by rw [addR, if_neg (by rw [hr]; decide), if_neg (by rw [hh]; decide), if_neg h12])
        have hz : ¬ ((12 : Int) ≤ (l.length : Int)) := by omega
        obtain ⟨i0, zz, hi, hz0, hz1, hz2, hzs⟩ := info_cloneR
        have HI0 := Lib.hid hi
        have HZ0 := Lib.hid hz0
        have q0 := HQ.out.cell 0
        have q1 := HQ.out.cell 1
        have q2 := HQ.out.cell 2
        have q3 := HQ.out.cell 3
        have q4 := HQ.out.cell 4
        simp only [List.getElem?_cons_zero, List.getElem?_cons_succ] at q0 q1 q2 q3 q4
        have hB1 : b + 1 ≤ w2.heap.size := HI.out.1.lt
        have hlt : w.heap.size < w2.heap.size := HQ.out.lt
        have hblt : b < w2.heap.size := HI.out.1.lt
        have HOW := Lib.hid HI.out.2
        have HBA := Lib.hid ((below1 w2 (.cells #[.int .i64 x, .int .i64 y, .int .i64 z, .int .i64 t, .string s] 75)).drew)
        have HOW2 := Lib.hid HI.out.2
        clear hi hz0 hh hr
        go_wp2_with fail
        go_region_law ((refine step_append_lies _ (by rfl) _ _ _ (by rfl) (b + 1) 75 i0 zz 5 48 Tryd.underlying71 HI0.out HZ0.out hz1 hz2 hzs (by decide) _ l.length (l.flatMap encR) (by rfl) (owns_below HOW.out HBA.out) ⟨w2.heap.size, 0, none⟩ 1 1 (encR (x, y, z, t, s)) (by rfl) (by rfl) (World.news_of_block (cs := #[.int .i64 x, .int .i64 y, .int .i64 z, .int .i64 t, .string s]) (t := 75) (fr := (0, 0)) (heap_alloc_new w2 _)) (by simp [encR, Value.oneCell']) (by omega) (by unfold maxLen; omega) (by omega) (by simp; omega) (w2.heap.size + 1) (by simp) ?_; intro gg cap w3 hown1 hgrow hat hlt3; obtain ⟨hp1, hp2, hp3⟩ := IbAt.put (r := (x, y, z, t, s)) (HI.out.below HBA.out) hgrow hown1; have c3 : w3.cell? ⟨b, 0, none⟩ = some (.slice cp l.length cc) := hp1.cell 0; have f3 := hp1.frozen 0; have HP2 := Lib.hid hp2; have HP3 := Lib.hid hp3; have HAT := Lib.hid hat; clear hown1 hgrow hat hlt3 hp1 hp2 hp3))
        all_goals
          go_wp2
          go_ret
          refine ⟨by rw [HR.out]; rfl, _, by rw [putR, if_pos HR.out]; exact HP2.out, HP3.out.pre hbz (HX.out.trans (HBA.out.mono HX.out.size)), ?_⟩
          rcases HAT.out with e | e
          · exact .inl e.symm
          · refine .inr fun q hq => ?_
            simp [Value.ownBlock] at hq
            omega
end Go.Proofs.YtbbcicengfmhiaaDoor

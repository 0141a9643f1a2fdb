/- lexer.Names. -/
import Derived.Test.YtefnkoofgpmmmaaGreatDoorLxC
import Derived.Test.YtefnkoofgpmmmaaGreatDoorN5
namespace Go.Proofs.YtefnkoofgpmmmaaGreatDoor
set_option maxRecDepth 100000
open Go.RowKit Go.Shelf
attribute [local go_sem] Oper.semAt_some

/-- what lexer.Names has behind some pieces: the boxes of the list, of the error, of the place -/
structure NmI (w : World) (b1 b2 b3 base : Nat) (a : Int) (pre : List ByteArray) (W : World) : Prop where
  ex : ∃ v, BlkIs W b1 [v] 32 ∧ W.ownsRow base 35 2 v pre.length (flat encW (nmsL a pre))
  er : BlkIs W b2 [.nilIface] 25
  at_ : BlkIs W b3 [.int .i64 (a + (lenP pre : Nat))] 3
  ok : nmsErr a pre = none
  blw : Below w.heap.size w W
/-- a round has told of an error -/
def NmX (w : World) (b1 b2 q : Nat) (a : Int) (c : Code) (pre : List ByteArray) (W : World) : Prop := c = .ret ∧ ∃ i b, nmsErr a pre = some i ∧ BlkIs W b1 [.slice none 0 0] 32 ∧ BlkIs W b2 [.iface 182 (.pointer (some ⟨b, 0, none⟩))] 25 ∧ BlkIs W b [.int .i64 i, .iface 48 (.int .i64 15)] 186 ∧ q < b ∧ Below w.heap.size w W
section
variable {w W W1 W3 : World} {b1 b2 b3 base q B : Nat} {a A : Int} {pre : List ByteArray} {x : ByteArray} {v v' : Value}
theorem NmI.own (hB : w.heap.size ≤ B) : OwnFrom B (NmI w b1 b2 b3 base a) := by
  rintro s C D row ⟨⟨v, h1, h2⟩, h3, h4, h5, h6⟩ hg hr
  have hr' : ∀ r, row = some r → ∃ o : Obj, C.heap[r]? = some o ∧ o.isCells = false := fun r e => (hr r e).2
  exact ⟨⟨v, h1.grown hg hr', owns_grown h2 hg hr'⟩, h3.grown hg hr', h4.grown hg hr', h5, h6.grown hg h6.size (fun k e => Nat.le_trans hB (hr k e).1)⟩
theorem NmX.own (hB : w.heap.size ≤ B) (c : Code) : OwnFrom B (NmX w b1 b2 q a c) := by
  rintro s C D row ⟨e, i, b, h1, h2, h3, h4, h5, h6⟩ hg hr
  have hr' : ∀ r, row = some r → ∃ o : Obj, C.heap[r]? = some o ∧ o.isCells = false := fun r e => (hr r e).2
  exact ⟨e, i, b, h1, h2.grown hg hr', h3.grown hg hr', h4.grown hg hr', h5, h6.grown hg h6.size (fun k e => Nat.le_trans hB (hr k e).1)⟩
theorem NmI.abq (h1 : b1 < q) (h2 : b2 < q) (h3 : b3 < q) (h4 : q < base) (h5 : w.heap.size ≤ q) : AbQ q (NmI w b1 b2 b3 base a) := by
  rintro s C u ⟨⟨v, k1, k2⟩, k3, k4, k5, k6⟩
  exact ⟨⟨v, k1.of (Below.heap_setCell _ _ _ _ (show b1 ≠ q by omega)), owns_keptI k2 (fun k hk => Below.heap_setCell _ _ _ _ (show k ≠ q by have := owns_block k2 k hk; omega))⟩,
    k3.of (Below.heap_setCell _ _ _ _ (show b2 ≠ q by omega)), k4.of (Below.heap_setCell _ _ _ _ (show b3 ≠ q by omega)), k5, k6.setCell (p := ⟨q, 0, none⟩) h5 u⟩
theorem NmX.abq (h1 : b1 < q) (h2 : b2 < q) (h5 : w.heap.size ≤ q) (c : Code) : AbQ q (NmX w b1 b2 q a c) := by
  rintro s C u ⟨e, i, b, k1, k2, k3, k4, k5, k6⟩
  exact ⟨e, i, b, k1, k2.of (Below.heap_setCell _ _ _ _ (show b1 ≠ q by omega)), k3.of (Below.heap_setCell _ _ _ _ (show b2 ≠ q by omega)), k4.of (Below.heap_setCell _ _ _ _ (show b ≠ q by omega)), k5, k6.setCell (p := ⟨q, 0, none⟩) h5 u⟩
theorem NmX.mk (k1 : BlkIs W b1 [v] 32) (k2 : BlkIs W b2 [.nilIface] 25) (k4 : Below w.heap.size w W) (hok : nmsErr a pre = none) (hb1 : Below W.heap.size W W1) (hA : A = a + (lenP pre : Nat)) (hx : nameB x = false) (hq : q < W.heap.size)
    (g1 : w.heap.size ≤ b1) (g2 : b1 < b2) (g3 : b2 < q) {X : World} (hX : X = ((W1.setCell ⟨b1, 0, none⟩ (.slice none 0 0)).setCell ⟨b2, 0, none⟩ (.iface 182 (.pointer (some ⟨W1.heap.size, 0, none⟩)))).alloc (.cells #[.int .i64 A, .iface 48 (.int .i64 15)] 186)) :
    KeepsOthers W X ∧ NmX w b1 b2 q a .ret (pre ++ [x]) X := by
  obtain ⟨Y, hY⟩ : ∃ Y, Y = (W1.setCell ⟨b1, 0, none⟩ (.slice none 0 0)).setCell ⟨b2, 0, none⟩ (.iface 182 (.pointer (some ⟨W1.heap.size, 0, none⟩))) := ⟨_, rfl⟩
  rw [← hY] at hX
  subst hX
  have hb2 := below1 Y (.cells #[.int .i64 A, .iface 48 (.int .i64 15)] 186)
  have h1s := hb1.size
  have hys : Y.heap.size = W1.heap.size := by rw [hY]; simp
  have hkY : KeepsOthers W Y := by rw [hY]; exact ((others_below hb1).trans (KeepsOthers.setCell _ _ _)).trans (KeepsOthers.setCell _ _ _)
  have hbY : Below w.heap.size w Y := by rw [hY]; exact ((k4.trans (hb1.mono k4.size)).setCell (p := ⟨b1, 0, none⟩) g1 _).setCell (p := ⟨b2, 0, none⟩) (show w.heap.size ≤ b2 by omega) _
  refine ⟨hkY.trans (KeepsOthers.alloc _ _), rfl, A, Y.heap.size, ?_, ?_, ?_, BlkIs.alloc Y [.int .i64 A, .iface 48 (.int .i64 15)] 186, by omega, hbY.trans (hb2.mono hbY.size)⟩
  · rw [nmsErr_snoc x a pre hok, hx, hA]
    simp
  · refine BlkIs.below ?_ hb2
    rw [hY]
    have := (k1.below hb1).set (o := 0) (.slice none 0 0)
    rw [List.set_cons_zero] at this
    exact this.of (Below.heap_setCell _ _ _ _ (show b1 ≠ b2 by omega))
  · refine BlkIs.below ?_ hb2
    rw [hys, hY]
    have := ((k2.below hb1).of (Below.heap_setCell _ ⟨b1, 0, none⟩ (.slice none 0 0) _ (show b2 ≠ b1 by omega))).set (o := 0) (.iface 182 (.pointer (some ⟨W1.heap.size, 0, none⟩)))
    rw [List.set_cons_zero] at this
    exact this
theorem NmI.put (k1 : BlkIs W b1 [v] 32) (k2 : W.ownsRow base 35 2 v pre.length (flat encW (nmsL a pre))) (k3 : BlkIs W b2 [.nilIface] 25) (k4 : BlkIs W b3 [.int .i64 A] 3) (k5 : nmsErr a pre = none) (k6 : Below w.heap.size w W) (hb1 : Below W.heap.size W W1) (hA : A = a + (lenP pre : Nat)) (hx : nameB x = true)
    (g1 : w.heap.size ≤ b1) (g2 : b1 < b2) (g3 : b2 < b3) (g4 : b3 < q) (g5 : q + 3 ≤ base) (g6 : base ≤ W.heap.size)
    (hg : (W1.alloc (.cells #[.string x, .int .i64 A] 35)).grownBy W3 v.ownBlock) (ho : W3.ownsRow base 35 2 v' (pre.length + 1) (flat encW (nmsL a pre) ++ [.string x, .int .i64 A])) :
    BlkIs W3 b1 [v] 32 ∧ BlkIs W3 b3 [.int .i64 A] 3 ∧
    ∀ X, X = (W3.setCell ⟨b1, 0, none⟩ v').setCell ⟨b3, 0, none⟩ (.int .i64 (A + ((x.size : Int) + 1))) → KeepsOthers W X ∧ KeepQ q W X ∧ NmI w b1 b2 b3 base a (pre ++ [x]) X := by
  have hb2 := below1 W1 (.cells #[.string x, .int .i64 A] 35)
  have hbW : Below W.heap.size W (W1.alloc (.cells #[.string x, .int .i64 A] 35)) := hb1.trans (hb2.mono hb1.size)
  have hown : ∀ k, v.ownBlock = some k → base ≤ k := fun k hk => owns_block k2 k hk
  have hnb : ∀ b, b < base → some b ≠ v.ownBlock := fun b hb e => by have := hown b e.symm; omega
  have hsz2 := hbW.size
  have j1 : BlkIs W3 b1 [v] 32 := (k1.below hbW).of (hg.block _ (k1.below hbW).lt (hnb _ (by omega)))
  have j2 : BlkIs W3 b2 [.nilIface] 25 := (k3.below hbW).of (hg.block _ (k3.below hbW).lt (hnb _ (by omega)))
  have j3 : BlkIs W3 b3 [.int .i64 A] 3 := (k4.below hbW).of (hg.block _ (k4.below hbW).lt (hnb _ (by omega)))
  refine ⟨j1, j3, ?_⟩
  rintro X rfl
  have hcells : ∀ (j : Nat) (o : Obj), v.ownBlock = some j → (W1.alloc (.cells #[.string x, .int .i64 A] 35)).heap[j]? = some o → o.isCells = true := fun j o e hj => by
    rcases (owns_below k2 hbW).2 with ⟨e', _⟩ | ⟨g, cap, cur, e', _, hgb, _⟩
    · rw [e'] at e; cases e
    · rw [e'] at e
      obtain rfl : g = j := by simpa [Value.ownBlock] using e
      rw [hgb] at hj; cases hj; rfl
  have hsz3 := hg.size
  refine ⟨(((others_below hbW).trans (KeepsOthers.of_grownBy hg hcells)).trans (KeepsOthers.setCell _ _ _)).trans (KeepsOthers.setCell _ _ _), ?_, ⟨⟨v', ?_, ?_⟩, ?_, ?_, ?_, ?_⟩⟩
  · intro k e1 e2
    rw [Below.heap_setCell _ _ _ _ (show k ≠ b3 by omega), Below.heap_setCell _ _ _ _ (show k ≠ b1 by omega)]
    exact (hg.block k (by omega) (hnb k (by omega))).trans (hbW.block k (by omega))
  · have := j1.set (o := 0) v'
    rw [List.set_cons_zero] at this
    exact this.of (Below.heap_setCell _ _ _ _ (show b1 ≠ b3 by omega))
  · have h1 : W3.ownsRow base 35 2 v' (pre ++ [x]).length (flat encW (nmsL a (pre ++ [x]))) := by
      rw [nmsL_snoc, ← hA, List.length_append, List.length_singleton]
      simpa [flat, encW] using ho
    refine owns_keptI h1 (fun k hk => ?_)
    have := owns_block h1 k hk
    rw [Below.heap_setCell _ _ _ _ (show k ≠ b3 by omega), Below.heap_setCell _ _ _ _ (show k ≠ b1 by omega)]
  · exact (j2.of (Below.heap_setCell _ _ _ _ (show b2 ≠ b1 by omega))).of (Below.heap_setCell _ _ _ _ (show b2 ≠ b3 by omega))
  · have h1 := (j3.of (Below.heap_setCell _ ⟨b1, 0, none⟩ v' _ (show b3 ≠ b1 by omega))).set (o := 0) (.int .i64 (A + ((x.size : Int) + 1)))
    rw [List.set_cons_zero] at h1
    have e : a + ((lenP (pre ++ [x]) : Nat) : Int) = A + ((x.size : Int) + 1) := by rw [lenP_snoc, hA]; omega
    rw [e]
    exact h1
  · rw [nmsErr_snoc x a pre k5, if_pos hx]
  · exact (((k6.trans (hbW.mono k6.size)).grown hg (by have := k6.size; omega) (fun k e => by have := hown k e; omega)).setCell (p := ⟨b1, 0, none⟩) g1 v').setCell (p := ⟨b3, 0, none⟩) (show w.heap.size ≤ b3 by omega) _
end
theorem boxes4 (w : World) (c0 : List Value) (t0 : TypeId) (v1 v2 v3 : Value) (t1 t2 t3 : TypeId) {W : World} (hW : W = (((w.alloc (.cells c0.toArray t0)).alloc (.cells #[v1] t1)).alloc (.cells #[v2] t2)).alloc (.cells #[v3] t3)) :
    Below w.heap.size w W ∧ W.heap.size = w.heap.size + 1 + 1 + 1 + 1 ∧ BlkIs W (w.heap.size + 1) [v1] t1 ∧ BlkIs W (w.heap.size + 1 + 1) [v2] t2 ∧ BlkIs W (w.heap.size + 1 + 1 + 1) [v3] t3 := by
  subst hW
  have g1 := below1 w (.cells c0.toArray t0)
  have g2 := below1 (w.alloc (.cells c0.toArray t0)) (.cells #[v1] t1)
  have g3 := below1 ((w.alloc (.cells c0.toArray t0)).alloc (.cells #[v1] t1)) (.cells #[v2] t2)
  have g4 := below1 (((w.alloc (.cells c0.toArray t0)).alloc (.cells #[v1] t1)).alloc (.cells #[v2] t2)) (.cells #[v3] t3)
  have a1 := BlkIs.alloc (w.alloc (.cells c0.toArray t0)) [v1] t1
  have a2 := BlkIs.alloc ((w.alloc (.cells c0.toArray t0)).alloc (.cells #[v1] t1)) [v2] t2
  have a3 := BlkIs.alloc (((w.alloc (.cells c0.toArray t0)).alloc (.cells #[v1] t1)).alloc (.cells #[v2] t2)) [v3] t3
  simp only [World.size_alloc] at a1 a2 a3
  exact ⟨((g1.trans (g2.mono g1.size)).trans (g3.mono (Nat.le_trans g1.size g2.size))).trans (g4.mono (Nat.le_trans (Nat.le_trans g1.size g2.size) g3.size)), by simp only [World.size_alloc], (a1.below g3).below g4, a2.below g4, a3⟩
theorem results_cc {fn : Func} {p u : Tmp} {ty ty2 : TypeId} (h : fn.results = #[.cell p ty, .cell u ty2]) (tmps : Array Value) (P : Program) (w : World) :
    (results fn tmps).run P w = ((asAddr (tmps.getD p undef)).run P w).andThen fun a w₁ => ((loadVar ty a).run P w₁).andThen fun v w₂ => ((asAddr (tmps.getD u undef)).run P w₂).andThen fun b w₃ => ((loadVar ty2 b).run P w₃).andThen fun v2 w₄ => .ok (.tuple #[v, v2]) w₄ := by
  simp only [results, h]
  simp [Sem.run_bind, Result.andThen]
theorem namesErr_some {a i : Int} {s : ByteArray} {pre : List ByteArray} (hp : pre <+: pcsB 44 s) (h : nmsErr a pre = some i) : namesErr a s = some (i, 15) ∧ namesL a s = [] := by
  obtain ⟨qs, hq⟩ := hp
  have h1 := nmsErr_app qs a pre i h
  rw [hq] at h1
  unfold namesErr namesL
  rw [h1]
  simp
theorem namesErr_none {a : Int} {s : ByteArray} (h : nmsErr a (pcsB 44 s) = none) : namesErr a s = none ∧ namesL a s = nmsL a (pcsB 44 s) := by
  unfold namesErr namesL
  rw [h]
  simp
theorem le2 {n : Nat} (h : n ≤ 100002) : n ≤ maxLen ∧ n * 24 ≤ 140737488355328 := by unfold maxLen; omega
def NamesPost (a : Int) (s : ByteArray) (w : World) (e : Ending) (w' : World) : Prop := Below w.heap.size w w' ∧ ∃ v err, e = .returned (.tuple #[v, err]) ∧ ErrAt err (namesErr a s) w' ∧ SlAt 2 encW w' v (namesL a s) ∧ ∀ q, v.ownBlock = some q → w.heap.size ≤ q
set_option maxHeartbeats 1000000 in
theorem lexNames (s : ByteArray) (a : Int) (w : World) (hs : s.size ≤ 100000) (ha : 0 ≤ a ∧ a ≤ 1000000) : Calls Tryz.prog 39 #[.agg #[.string s, .int .i64 a]] w (NamesPost a s w) := by
  obtain ⟨i0, zT, hi0, hz0, hz1, hz2, hz3⟩ := info_word
  have HI := Lib.hid hi0
  have HZ := Lib.hid hz0
  clear hi0 hz0
  have HSM := Lib.hid (show s.size ≤ maxLen by unfold maxLen; omega)
  have HP := Lib.hid (fun (w' : World) (v err : Value) (h1 : Below w.heap.size w w') (h2 : ErrAt err (namesErr a s) w') (h3 : SlAt 2 encW w' v (namesL a s)) (h4 : ∀ q, v.ownBlock = some q → w.heap.size ≤ q) => show NamesPost a s w (.returned (.tuple #[v, err])) w' from ⟨h1, v, err, rfl, h2, h3, h4⟩)
  generalize NamesPost a s w = GP at *
  refine (callsIn_wide (n := 9)).1 ?_
  refine callsIn_of_wp_marks Tryz.func39 rfl trivial ?_ rfl
  simp only [Tryz.ntmps39, List.size_toArray, List.length_cons, List.length_nil, Nat.reduceAdd, Nat.reduceSub, Array.replicate_succ, Array.replicate_zero, List.push_toArray, List.append_toArray, List.nil_append, List.cons_append]
  gi_wp2_with (refine ⟨trivial, ?_⟩; gi_at_call 44; refine (callsIn_wide.2 (seq41 s 44 _)).mono ?_)
  rintro e w3 ⟨rfl, hb3, hsz3, hq0, hq1, hq2⟩
  obtain ⟨W4, hW4⟩ : ∃ W4, W4 = (((w.alloc (.cells #[.string s, .int .i64 a] 35)).alloc (.cells #[.slice none 0 0] 32)).alloc (.cells #[.nilIface] 25)).alloc (.cells #[.int .i64 a] 3) := ⟨_, rfl⟩
  obtain ⟨m1, m2, m3, m4, m5⟩ := boxes4 w [.string s, .int .i64 a] 35 _ _ _ 32 25 3 hW4
  rw [← hW4] at hb3 hsz3 hq0 hq1 hq2 ⊢
  rw [m2] at hsz3 hq0 hq1 hq2 ⊢
  clear hW4
  have HI3 := Lib.hid (show NmI w (w.heap.size + 1) (w.heap.size + 1 + 1) (w.heap.size + 1 + 1 + 1) w3.heap.size a [] w3 from ⟨⟨_, m3.below hb3, ⟨by simp [flat, nmsL], .inl ⟨rfl, rfl⟩⟩⟩, m4.below hb3, by simpa [lenP] using m5.below hb3, rfl, m1.trans (hb3.mono m1.size)⟩)
  clear m1 m2 m3 m4 m5 hb3
  gi_wp2
  have HZ3 := Lib.hid hsz3
  have HLP := Lib.hid (lenP_pcs 44 s)
  refine wpIn_rangeFunc_ownQ rfl (by omega) (gf := 149) (lb := #[.pointer (some ⟨w.heap.size + 1 + 1 + 1 + 1 + 1, 0, none⟩), .pointer (some ⟨w.heap.size + 1 + 1 + 1 + 1, 0, none⟩), .pointer (some ⟨w.heap.size + 1 + 1 + 1 + 1 + 2, 0, none⟩)]) rfl trivial (enters_of Tryz.func149 (by kernel_rfl) rfl)
    (seq119 8 (by omega) (w.heap.size + 1 + 1 + 1 + 1) 44 s w3 HSM.out hq0 hq1 hq2) (by omega) (Below.refl _ _)
    (NmI w (w.heap.size + 1) (w.heap.size + 1 + 1) (w.heap.size + 1 + 1 + 1) w3.heap.size a) (NmX w (w.heap.size + 1) (w.heap.size + 1 + 1) (w.heap.size + 1 + 1 + 1 + 1) a) (NmI.own (by omega)) (NmX.own (by omega)) (NmI.abq (by omega) (by omega) (by omega) (by omega) (by omega)) (NmX.abq (by omega) (by omega) (by omega)) HI3.out
    (fun x => { tmps := #[.agg #[.string s, .int .i64 a], .pointer (some ⟨w.heap.size, 0, none⟩), .pointer (some ⟨w.heap.size + 1, 0, none⟩), .pointer (some ⟨w.heap.size + 1 + 1, 0, none⟩), .pointer (some ⟨w.heap.size + 1 + 1 + 1, 0, none⟩), .string x,
      .pointer (some ⟨w.heap.size, 1, none⟩), .int .i64 a, .pointer (some ⟨w.heap.size, 0, none⟩), .string s,
      .func (.func 149) #[] #[.pointer (some ⟨w.heap.size + 1 + 1 + 1 + 1 + 1, 0, none⟩), .pointer (some ⟨w.heap.size + 1 + 1 + 1 + 1, 0, none⟩), .pointer (some ⟨w.heap.size + 1 + 1 + 1 + 1 + 2, 0, none⟩)],
      .string x, undef, undef, undef, undef, undef, undef, undef, undef, undef, undef, undef, undef, undef, undef, undef, undef, undef], defers := [] }) ?assign ?body ?done ?stop
  case assign =>
    intro l x W K hK
    gi_wp2
    exact hK
  case body =>
    rintro l pre x rest W hx hW ⟨⟨v, k1, k2⟩, k3, k4, k5, k6⟩
    have hlp : lenP pre + x.size + 1 + lenP rest = s.size + 1 := by
      have := HLP.out
      rw [hx, lenP_app] at this
      have e : lenP (x :: rest) = x.size + 1 + lenP rest := by simp [lenP]
      omega
    have hpl := lenP_le pre
    have HV := Lib.hid k1
    have HO := Lib.hid k2
    have HE := Lib.hid k3
    have HOK := Lib.hid k5
    have HBW := Lib.hid k6
    obtain ⟨A, hA⟩ : ∃ A, A = a + (lenP pre : Nat) := ⟨_, rfl⟩
    rw [← hA] at k4
    have HAT := Lib.hid k4
    have HHA := Lib.hid hA
    have HQW := Lib.hid (show w.heap.size + 1 + 1 + 1 + 1 + 3 ≤ W.heap.size by omega)
    have HQL := Lib.hid (show w.heap.size + 1 + 1 + 1 + 1 < W.heap.size by omega)
    have HBS := Lib.hid (show w3.heap.size ≤ W.heap.size by omega)
    have HLC := Lib.hid (show pre.length + 1 ≤ 100002 by omega)
    have HXS := Lib.hid (lexIsName x W (by unfold maxLen; omega))
    obtain ⟨e1, e2⟩ : wrap64 (A + ((x.size : Int) + 1)) = A + ((x.size : Int) + 1) ∧ wrap64 ((x.size : Int) + 1) = (x.size : Int) + 1 := ⟨wrap_small ⟨by omega, by omega⟩, wrap_small ⟨by omega, by omega⟩⟩
    clear hA k1 k2 k3 k4 k5 k6 hlp hpl hx hW
    gi_wp2_with (refine ⟨trivial, ?_⟩; gi_at_call 94; refine (CallsIn.inRound l (callsIn_wide.2 HXS.out)).mono ?_)
    rintro e W1 ⟨rfl, hb1⟩
    have HB1 := Lib.hid hb1
    have HAT1 := Lib.hid (HAT.out.below hb1)
    have HV1 := Lib.hid (HV.out.below hb1)
    have HE1 := Lib.hid (HE.out.below hb1)
    have c6 := HAT1.out.cell 0
    simp only [List.getElem?_cons_zero] at c6
    have c2 := HV1.out.cell 0
    simp only [List.getElem?_cons_zero] at c2
    have f2 := HV1.out.frozen 0
    have c3 := HE1.out.cell 0
    simp only [List.getElem?_cons_zero] at c3
    have f3 := HE1.out.frozen 0
    clear hb1
    cases hnm : nameB x with
    | false =>
      have h1W : w.heap.size + 1 < W1.heap.size := HV1.out.lt
      have h2W : w.heap.size + 1 + 1 < W1.heap.size := HE1.out.lt
      have HMK := Lib.hid (fun X hX => NmX.mk (X := X) (q := w.heap.size + 1 + 1 + 1 + 1) HV.out HE.out HBW.out HOK.out HB1.out HHA.out hnm HQL.out (Nat.le_succ _) (Nat.lt_succ_self _) (by omega) hX)
      gi_wp2_with (refine ⟨trivial, ?_⟩; gi_at_call 43; refine (CallsIn.inRound l (callsIn_wide.2 (lexFault _ _ _))).mono ?_; rintro e w1 ⟨rfl, rfl⟩)
      exact HMK.out _ rfl
    | true =>
      have HMA := Lib.hid (owns_below (owns_below HO.out HB1.out) (below1 W1 (.cells #[.string x, .int .i64 A] 35)))
      have HZA := Lib.hid (Nat.le_trans (Nat.le_trans HBS.out HB1.out.size) (below1 W1 (.cells #[.string x, .int .i64 A] 35)).size)
      have HBX := Lib.hid (BlkIs.alloc W1 [.string x, .int .i64 A] 35)
      obtain ⟨pv, nv, cv, rfl⟩ : ∃ p n c, v = Value.slice p n c := by
        rcases HO.out.2 with ⟨e, _⟩ | ⟨g, cap, cur, e, _⟩
        · exact ⟨_, _, _, e⟩
        · exact ⟨_, _, _, e⟩
      gi_wp2_with (gi_at_builtin; refine wpListIn_append_own2 _ rfl _ _ 32 rfl w3.heap.size 35 i0 zT 2 24 Tryz.underlying32 HI.out HZ.out hz1 hz2 hz3 (by decide) (.slice pv nv cv) pre.length (flat encW (nmsL a pre)) rfl HMA.out ⟨W1.heap.size, 0, none⟩ 1 1 [.string x, .int .i64 A] rfl rfl ?qc2 ?qc3 ?qc4 ?qc5 ?qc6 ?_)
      case qc2 =>
        intro jj u hj
        rw [Go.WideShapes.add_plain, Nat.zero_add, HBX.out.cell jj]
        exact hj
      case qc3 => intro u hu; simp at hu; rcases hu with rfl | rfl <;> rfl
      case qc4 => exact (le2 HLC.out).1
      case qc5 => exact (le2 HLC.out).2
      case qc6 => exact HZA.out
      intro v4 w4 hown4 hgrow4 _
      obtain ⟨hq1, hq3, hX⟩ := NmI.put (q := w.heap.size + 1 + 1 + 1 + 1) HV.out HO.out HE.out HAT.out HOK.out HBW.out HB1.out HHA.out hnm (Nat.le_succ _) (Nat.lt_succ_self _) (Nat.lt_succ_self _) (Nat.lt_succ_self _) (Nat.le_of_eq HZ3.out.symm) HBS.out hgrow4 (by rw [HZ3.out]; exact hown4)
      have HX4 := Lib.hid hX
      obtain ⟨p4, n4, k4, rfl⟩ : ∃ p n c, v4 = Value.slice p n c := by
        rcases hown4.2 with ⟨e, _⟩ | ⟨g, cap, cur, e, _⟩
        · exact ⟨_, _, _, e⟩
        · exact ⟨_, _, _, e⟩
      clear c6 c2 f2 c3 f3 hX hown4 hgrow4
      have c2 := hq1.cell 0
      simp only [List.getElem?_cons_zero] at c2
      have f2 := hq1.frozen 0
      have c6 := hq3.cell 0
      simp only [List.getElem?_cons_zero] at c6
      have f6 := hq3.frozen 0
      clear hq1 hq3
      gi_wp2
      exact HX4.out _ rfl
  case done =>
    rintro D W hD ⟨⟨v, k1, k2⟩, k3, k4, k5, k6⟩ hK
    obtain ⟨pv, nv, cv, rfl⟩ : ∃ p n c, v = Value.slice p n c := by
      rcases k2.2 with ⟨e, _⟩ | ⟨g, cap, cur, e, _⟩
      · exact ⟨_, _, _, e⟩
      · exact ⟨_, _, _, e⟩
    have c2 := k1.cell 0
    simp only [List.getElem?_cons_zero] at c2
    have f2 := k1.frozen 0
    have c3 := k3.cell 0
    simp only [List.getElem?_cons_zero] at c3
    have f3 := k3.frozen 0
    have HV := Lib.hid k1
    have HE := Lib.hid k3
    have HBW := Lib.hid k6
    obtain ⟨hE1, hE2⟩ := namesErr_none k5
    have HE1 := Lib.hid hE1
    have HN2 := Lib.hid hE2
    have HOW := Lib.hid k2
    clear k1 k2 k3 k4 k5 k6 hE1 hE2
    gi_wp2
    obtain ⟨X, hX⟩ : ∃ X, X = (W.setCell ⟨w.heap.size + 1, 0, none⟩ (.slice pv nv cv)).setCell ⟨w.heap.size + 1 + 1, 0, none⟩ .nilIface := ⟨_, rfl⟩
    have hz3' := HZ3.out
    have hK2 : X.heap[D]? = some (.deferred (some [])) := by rw [hX]; exact ((KeepsOthers.setCell W ⟨w.heap.size + 1, 0, none⟩ (.slice pv nv cv)).trans (KeepsOthers.setCell _ _ _)).same D _ hK rfl
    have hrow : ∀ r, some D = some r → ∃ o : Obj, X.heap[r]? = some o ∧ o.isCells = false := fun r e => by cases e; exact ⟨_, hK2, rfl⟩
    have hgr := grownBy_putObj' X D (.deferred none)
    have hbx : Below w.heap.size w X := by rw [hX]; exact (HBW.out.setCell (p := ⟨w.heap.size + 1, 0, none⟩) (Nat.le_succ _) _).setCell (p := ⟨w.heap.size + 1 + 1, 0, none⟩) (show w.heap.size ≤ w.heap.size + 1 + 1 by omega) _
    have hby := hbx.grown hgr hbx.size (fun k e => by cases e; omega)
    have j1 : BlkIs X (w.heap.size + 1) [.slice pv nv cv] 32 := by
      have := HV.out.set (o := 0) (.slice pv nv cv)
      rw [List.set_cons_zero] at this
      rw [hX]
      exact this.of (Below.heap_setCell _ _ _ _ (show w.heap.size + 1 ≠ w.heap.size + 1 + 1 by omega))
    have j2 : BlkIs X (w.heap.size + 1 + 1) [.nilIface] 25 := by
      have := (HE.out.of (Below.heap_setCell W ⟨w.heap.size + 1, 0, none⟩ (.slice pv nv cv) _ (show w.heap.size + 1 + 1 ≠ w.heap.size + 1 by omega))).set (o := 0) .nilIface
      rw [List.set_cons_zero] at this
      rw [hX]
      exact this
    have j3 := owns_keptI (w' := X) HOW.out (fun k hk => by
      have := owns_block HOW.out k hk
      rw [hX, Below.heap_setCell _ _ _ _ (show k ≠ w.heap.size + 1 + 1 by omega), Below.heap_setCell _ _ _ _ (show k ≠ w.heap.size + 1 by omega)])
    have hsl := SlAt.of_owns encW_len (show (X.putObj D (.deferred none)).ownsRow w3.heap.size 35 2 (.slice pv nv cv) (nmsL a (pcsB 44 s)).length (flat encW (nmsL a (pcsB 44 s))) from by rw [nmsL_len]; exact owns_grown j3 hgr hrow)
    rw [← HN2.out] at hsl
    have q1 := (j1.grown hgr hrow).cell 0
    have q2 := (j2.grown hgr hrow).cell 0
    simp only [List.getElem?_cons_zero] at q1 q2
    have hR := HP.out _ (.slice pv nv cv) .nilIface hby (by rw [HE1.out]; rfl) hsl (fun q hq => by have := owns_block HOW.out q hq; omega)
    rw [← hX]
    clear c2 f2 c3 f3 hX
    refine ⟨by simp, .inl ⟨_, _, rfl, run_takeDeferred hK2, ?_⟩⟩
    refine ⟨_, ?_, hR⟩
    rw [results_cc rfl]
    go_simp
  case stop =>
    rintro D c pre W hD hpre ⟨rfl, i, b, k1, k2, k3, k4, k5, k6⟩ hK
    have hrow : ∀ r, some D = some r → ∃ o : Obj, W.heap[r]? = some o ∧ o.isCells = false := fun r e => by cases e; exact ⟨_, hK, rfl⟩
    have hgr := grownBy_putObj' W D (.deferred none)
    have hy := k6.grown hgr k6.size (fun k e => by cases e; omega)
    obtain ⟨hE1, hE2⟩ := namesErr_some hpre k1
    have j1 := (k2.grown hgr hrow).cell 0
    have j2 := (k3.grown hgr hrow).cell 0
    simp only [List.getElem?_cons_zero] at j1 j2
    have hR := HP.out _ (.slice none 0 0) (.iface 182 (.pointer (some ⟨b, 0, none⟩))) hy (by rw [hE1]; exact ⟨b, rfl, k4.grown hgr hrow⟩) (by rw [hE2]; exact SlAt.nil 2 encW _) (fun q hq => by simp [Value.ownBlock] at hq)
    gi_wp2
    refine ⟨by simp, .inl ⟨_, _, rfl, run_takeDeferred hK, ?_⟩⟩
    refine ⟨_, ?_, hR⟩
    rw [results_cc rfl]
    go_simp
end Go.Proofs.YtefnkoofgpmmmaaGreatDoor

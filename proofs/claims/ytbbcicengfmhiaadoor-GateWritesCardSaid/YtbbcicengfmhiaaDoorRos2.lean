/- What roster.New gives back. Conditions: lists of no more than 1000. -/
import Derived.Test.YtbbcicengfmhiaaDoorRos1
import Derived.Deep.RegionHeld3
import Derived.Laws.EntriesVeiled
namespace Go.Proofs.YtbbcicengfmhiaaDoor
set_option maxRecDepth 100000
open Go.RowKit

theorem wrong60 (a : Int) (x : Nat) (w : World) :
    Calls Tryd.prog 59 #[(.agg #[.int .i64 (a), .int .u16 ((x : Nat) : Int)])] w fun e w' => e = .returned (.bool (!rightLv a)) ∧ Below w.heap.size w w' := by
  go_enter Tryd.func59, Tryd.ntmps59
  go_wp2_with (go_at_call 60; refine (labelRight a x _).mono ?_; rintro e w' ⟨rfl, hb⟩)
  go_ret
  exact ⟨rfl, (below1 _ _).trans (hb.mono (by simp))⟩
theorem pred60 (w : World) : PredB Tryd.prog 59 #[] encL (fun l => !rightLv l.1) w := fun W x hb => (wrong60 x.1 x.2 W).mono fun e w' ⟨h1, h2⟩ => ⟨h1, hb.trans (h2.mono hb.size)⟩
theorem eg60 : ∀ args w, (callFunc 59 args).run Tryd.prog w = .ok (.enter 59 args) w := enters_of Tryd.func59 (by kernel_rfl) rfl
theorem eg64 : ∀ args w, (callFunc 63 args).run Tryd.prog w = .ok (.enter 63 args) w := enters_of Tryd.func63 (by kernel_rfl) rfl
theorem eg66 : ∀ args w, (callFunc 65 args).run Tryd.prog w = .ok (.enter 65 args) w := enters_of Tryd.func65 (by kernel_rfl) rfl

theorem pred64 (B : Nat) (w : World) (hB : B < w.heap.size) (hc : w.cell? ⟨B, 0, none⟩ = some (.func (.func 59) #[] #[])) :
    PredB Tryd.prog 63 #[.pointer (some ⟨B, 0, none⟩)] encP (fun p => !rightLv p.2.1) w := fun W x hb => by
  have hc' := (hb.cell (p := ⟨B, 0, none⟩) hB).trans hc
  have hBW : B < W.heap.size := Nat.lt_of_lt_of_le hB hb.size
  have hne : B ≠ W.heap.size := by omega
  show Calls Tryd.prog 63 #[(.agg #[.int .i64 (x.1), .int .i64 (x.2.1), .int .u16 ((x.2.2 : Nat) : Int)]), .pointer (some ⟨B, 0, none⟩)] W _
  go_enter Tryd.func63, Tryd.ntmps63
  have he := eg60
  go_wp2_with (go_at_fn 59; refine (wrong60 _ _ _).mono ?_; rintro e w' ⟨rfl, hb2⟩)
  go_ret
  exact ⟨rfl, hb.trans (((below1 W _).trans (hb2.mono (by simp))).mono hb.size)⟩
def outB (n : Nat) (p : Int × Int × Nat) : Bool := decide (p.1 < 0) || decide ((n : Int) ≤ p.1)
theorem pred66 (B : Nat) (p : Option Addr) (n c : Nat) (w : World) (hB : B < w.heap.size) (hc : w.cell? ⟨B, 0, none⟩ = some (.slice p n c)) :
    PredB Tryd.prog 65 #[.pointer (some ⟨B, 0, none⟩)] encP (outB n) w := fun W x hb => by
  have hc' := (hb.cell (p := ⟨B, 0, none⟩) hB).trans hc
  have hBW : B < W.heap.size := Nat.lt_of_lt_of_le hB hb.size
  have hne : B ≠ W.heap.size := by omega
  show Calls Tryd.prog 65 #[(.agg #[.int .i64 (x.1), .int .i64 (x.2.1), .int .u16 ((x.2.2 : Nat) : Int)]), .pointer (some ⟨B, 0, none⟩)] W _
  unfold outB
  go_enter Tryd.func65, Tryd.ntmps65
  generalize x.1 = a
  cases h1 : decide (a < 0) <;> cases h2 : decide ((n : Int) ≤ a)
  all_goals
    go_wp2
    go_ret
    exact ⟨rfl, hb.trans ((below1 W _).mono hb.size)⟩

/-- a label stands there twice -/
def dupB (ls : List (Int × Nat)) (i : Nat) : Bool := (ls.take i).any fun y => ls[i]!.1 == y.1 && ls[i]!.2 == y.2
/-- the document's word on a roster -/
def newC (ls : List (Int × Nat)) (ps : List (Int × Int × Nat)) : Int :=
  if ls.length < 1 ∨ 4 < ls.length ∨ 12 < ps.length then 1
  else if (ls.any fun l => !rightLv l.1) = true ∨ (ps.any fun p => !rightLv p.2.1) = true then 1
  else if ∃ i, i < ls.length ∧ dupB ls i = true then 7
  else if (ps.any (outB ls.length)) = true then 2
  else 0

/-- the roster lies there -/
def Rost (w : World) (r : Nat) (ls : List (Int × Nat)) (ps : List (Int × Int × Nat)) : Prop :=
  r < w.heap.size ∧ ∃ vl vp, w.cell? ⟨r, 0, none⟩ = some vl ∧ w.cell? ⟨r, 1, none⟩ = some vp ∧ SlAt 2 encL w vl ls ∧ SlAt 3 encP w vp ps
theorem Rost.below {w w' : World} {r : Nat} {ls : List (Int × Nat)} {ps : List (Int × Int × Nat)} (h : Rost w r ls ps) (hb : Below w.heap.size w w') : Rost w' r ls ps := by
  obtain ⟨hr, vl, vp, h1, h2, h3, h4⟩ := h
  exact ⟨Nat.lt_of_lt_of_le hr hb.size, vl, vp, (hb.cell (p := ⟨r, 0, none⟩) hr).trans h1, (hb.cell (p := ⟨r, 1, none⟩) hr).trans h2, h3.below hb, h4.below hb⟩

/-- what New leaves -/
def NewPost (ls : List (Int × Nat)) (ps : List (Int × Int × Nat)) (w : World) (e : Ending) (w' : World) : Prop :=
  ∃ pv, e = .returned (.tuple #[pv, .int .i64 (newC ls ps)]) ∧ Below w.heap.size w w' ∧ (newC ls ps ≠ 0 → pv = .pointer none) ∧ (newC ls ps = 0 → ∃ r, pv = .pointer (some ⟨r, 0, none⟩) ∧ Rost w' r ls ps)
theorem NewPost.bad {ls : List (Int × Nat)} {ps : List (Int × Int × Nat)} {w w' : World} {c : Int} (h : newC ls ps = c) (hc : c ≠ 0) (hb : Below w.heap.size w w') : NewPost ls ps w (.returned (.tuple #[.pointer none, .int .i64 c])) w' := by
  subst h
  exact ⟨_, rfl, hb, fun _ => rfl, fun h => absurd h hc⟩
theorem NewPost.ok {ls : List (Int × Nat)} {ps : List (Int × Int × Nat)} {w w' : World} {r : Nat} (h : newC ls ps = 0) (hb : Below w.heap.size w w') (hr : Rost w' r ls ps) : NewPost ls ps w (.returned (.tuple #[.pointer (some ⟨r, 0, none⟩), .int .i64 0])) w' :=
  ⟨_, by rw [h], hb, fun h2 => absurd h h2, fun _ => ⟨r, rfl, hr⟩⟩

set_option maxRecDepth 100000 in
set_option maxHeartbeats 4000000 in
theorem rosterNew (vl vp : Value) (ls : List (Int × Nat)) (ps : List (Int × Int × Nat)) (w : World) (hL : SlAt 2 encL w vl ls) (hP : SlAt 3 encP w vp ps) (hbl : ls.length ≤ 1000) (hbp : ps.length ≤ 1000) :
    Calls Tryd.prog 13 #[vl, vp] w (NewPost ls ps w) := by
  obtain ⟨pl, cl, rfl, hn1, hc1⟩ := id hL
  obtain ⟨pp, cp, rfl, hn2, hc2⟩ := id hP
  have HL := Lib.hid hL
  have HP := Lib.hid hP
  clear hL hP hn1 hc1 hn2 hc2
  generalize hn : ls.length = n at hbl
  generalize hm : ps.length = m at hbp
  have HN := Lib.hid hn
  have HM := Lib.hid hm
  clear hn hm
  have eg60 := eg60
  go_enter Tryd.func13, Tryd.ntmps13
  cases t1 : decide ((n : Int) < 1) with
  | true =>
    have hw : newC ls ps = 1 := by unfold newC; rw [if_pos (by have := HN.out; simp at t1; omega)]
    go_wp2
    go_ret2
    exact NewPost.bad hw (by decide) (below2 _ _ _)
  | false =>
  cases t2 : decide ((4 : Int) < n) with
  | true =>
    have hw : newC ls ps = 1 := by unfold newC; rw [if_pos (by have := HN.out; simp at t2; omega)]
    go_wp2
    go_ret2
    exact NewPost.bad hw (by decide) (below2 _ _ _)
  | false =>
  cases t3 : decide ((12 : Int) < m) with
  | true =>
    have hw : newC ls ps = 1 := by unfold newC; rw [if_pos (by have := HM.out; simp at t3; omega)]
    go_wp2
    go_ret2
    exact NewPost.bad hw (by decide) (below2 _ _ _)
  | false =>
  have Hsz := Lib.hid (show ¬ (ls.length < 1 ∨ 4 < ls.length ∨ 12 < ps.length) by have := HN.out; have := HM.out; simp at t1 t2 t3; omega)
  go_wp2_with fail
  refine (anyFuncL (fun l => !rightLv l.1) 59 #[] eg60 _ ls _ (by have h := HL.out.below (below2 w (.cells #[.slice pl n cl] 25) (.cells #[.func (.func 59) #[] #[]] 109)); rw [HN.out] at h; exact h) (by have := HN.out; omega) (pred60 _)).mono ?_
  rintro e w1 ⟨rfl, hb1⟩
  have HB1 := Lib.hid ((below2 w _ _).trans (hb1.mono (by simp; omega)))
  have hz1 : w.heap.size + 1 < w1.heap.size := by have := hb1.size; simp at this; omega
  have d0 : w1.cell? ⟨w.heap.size, 0, none⟩ = some (.slice pl n cl) := by rw [hb1.cell (by simp; omega)]; go_simp
  have d1 : w1.cell? ⟨w.heap.size + 1, 0, none⟩ = some (.func (.func 59) #[] #[]) := by rw [hb1.cell (by simp)]; go_simp
  clear hb1
  cases r1 : ls.any fun l => !rightLv l.1 with
  | true =>
    have hw : newC ls ps = 1 := by unfold newC; rw [if_neg Hsz.out, if_pos (.inl r1)]
    go_wp2
    go_ret2
    exact NewPost.bad hw (by decide) HB1.out
  | false =>
  go_wp2_with fail
  refine (anyFuncP (fun p => !rightLv p.2.1) 63 #[.pointer (some ⟨w.heap.size + 1, 0, none⟩)] eg64 _ ps _ (by have h := HP.out.below HB1.out; rw [HM.out] at h; exact h) (by have := HM.out; omega) (pred64 _ _ hz1 d1)).mono ?_
  rintro e w2 ⟨rfl, hb2⟩
  have HB2 := Lib.hid (HB1.out.trans (hb2.mono (by omega)))
  have hz2 : w.heap.size + 1 < w2.heap.size := by have := hb2.size; omega
  have d0' : w2.cell? ⟨w.heap.size, 0, none⟩ = some (.slice pl n cl) := by rw [hb2.cell (by show w.heap.size < _; omega)]; exact d0
  clear hb2 d0 d1 hz1
  cases r2 : ps.any fun p => !rightLv p.2.1 with
  | true =>
    have hw : newC ls ps = 1 := by unfold newC; rw [if_neg Hsz.out, if_pos (.inr r2)]
    go_wp2
    go_ret2
    exact NewPost.bad hw (by decide) HB2.out
  | false =>
  have Hr := Lib.hid (show ¬ ((ls.any fun l => !rightLv l.1) = true ∨ (ps.any fun p => !rightLv p.2.1) = true) by rw [r1, r2]; simp)
  clear r1 r2
  go_wp2_with fail
  go_loopw [34] (fun i wr => ∃ j : Nat, j ≤ n ∧ i = .int .i64 j ∧ Below w.heap.size w wr ∧ w.heap.size + 1 < wr.heap.size ∧ wr.cell? ⟨w.heap.size, 0, none⟩ = some (.slice pl n cl) ∧ ∀ k, k < j → dupB ls k = false) (fun i _ => n - (intOf i).toNat)
  case atStart => exact ⟨0, by omega, rfl, HB2.out, hz2, d0', fun k hk => absurd hk (by omega)⟩
  case round =>
    obtain ⟨j, hj, rfl, hB, hS, c0, hall⟩ := hrel
    have HB := Lib.hid hB
    have HA := Lib.hid hall
    clear hB hall
    by_cases hlt : j < n
    · have hltz : (j : Int) < (n : Int) := by omega
      obtain ⟨p', c', hv, ⟨hcap, _⟩, hcell⟩ := id HL.out
      simp only [Value.slice.injEq] at hv
      obtain ⟨rfl, _, rfl⟩ := hv
      obtain ⟨b, off, rfl, hb, hc⟩ := hcell (by have := HN.out; omega)
      have hc0 := (HB.out.cell (p := ⟨b, off + j * 2, none⟩) hb).trans (hc j (by have := HN.out; omega) 0 _ rfl)
      have hc1 := (HB.out.cell (p := ⟨b, off + j * 2 + 1, none⟩) hb).trans (hc j (by have := HN.out; omega) 1 _ rfl)
      have hcapz : (j : Int) ≤ (cl : Int) := by have := HN.out; omega
      clear hc hcell hcap
      have hT := (HL.out.take (j := j) (by have := HN.out; omega)).belowB HB.out (Nat.le_refl _)
      have HD := Lib.hid (show dupB ls j = (ls.take j).any fun y => ls[j]!.1 == y.1 && ls[j]!.2 == y.2 from rfl)
      generalize ls[j]!.1 = a at hc0 HD
      generalize ls[j]!.2 = x at hc1 HD
      go_wp2_with fail
      have hlt0 : w.heap.size < wr.heap.size := by omega
      have HB3 := Lib.hid ((HB.out.alloc (by omega) (.cells #[.int .i64 a, .int .u16 (x : Int)] 41)))
      have hT3 := hT.below (below1 wr (.cells #[.int .i64 a, .int .u16 (x : Int)] 41))
      have f0 : (wr.alloc (.cells #[.int .i64 a, .int .u16 (x : Int)] 41)).cell? ⟨w.heap.size, 0, none⟩ = some (.slice (some ⟨b, off, none⟩) n cl) := by go_simp
      have f1 : (wr.alloc (.cells #[.int .i64 a, .int .u16 (x : Int)] 41)).cell? ⟨wr.heap.size, 0, none⟩ = some (.int .i64 a) := by go_simp
      have f2 : (wr.alloc (.cells #[.int .i64 a, .int .u16 (x : Int)] 41)).cell? ⟨wr.heap.size, 1, none⟩ = some (.int .u16 (x : Int)) := by go_simp
      have hz3 : wr.heap.size < (wr.alloc (.cells #[.int .i64 a, .int .u16 (x : Int)] 41)).heap.size := by simp
      generalize wr.alloc (.cells #[.int .i64 a, .int .u16 (x : Int)] 41) = W at HB3 hT3 f0 f1 f2 hz3 ⊢
      clear hc0 hc1 c0 hT
      have hz4 : w.heap.size < W.heap.size := by omega
      have hcl : (ls.take j).length ≤ 9223372036854775807 := by have := HN.out; simp; omega
      cases hq : dupB ls j with
      | true =>
        rw [HD.out] at hq
        have hcon : ∀ W' : World, ((∀ b o, b < W.heap.size → W'.cell? ⟨b, o, none⟩ = W.cell? ⟨b, o, none⟩) ∧ Below W.heap.size W W') → Calls Tryd.prog 64 #[.slice (some ⟨b, off, none⟩) j cl, (.agg #[.int .i64 (a), .int .u16 ((x : Nat) : Int)])] W' fun e w' => e = .returned (.bool true) ∧ Below W'.heap.size W' w' := fun W' hW' => by
          have := hasL a x _ _ W' (hT3.belowB hW'.2 (Nat.le_refl _)) hcl
          rwa [hq] at this
        have HC := Lib.hid hcon
        clear hcon
        go_region_held3 (fun w' => (∀ b o, b < (W).heap.size → w'.cell? ⟨b, o, none⟩ = (W).cell? ⟨b, o, none⟩) ∧ Below (W).heap.size (W) w') (first | exact stay0 _ | exact stay ‹_› ‹_›)
          (first
            | (go_at_call 64; (with_reducible refine (HC.out _ ‹_›).mono ?_); rintro e w' ⟨rfl, hb⟩))
        go_wp2
        go_ret2
        exact NewPost.bad (by unfold newC; rw [if_neg Hsz.out, if_neg Hr.out, if_pos ⟨j, by have := HN.out; omega, by rw [HD.out]; exact hq⟩]) (by decide) (stayEnd HB3.out HB3.out.size ‹_›)
      | false =>
        have HQ := Lib.hid hq
        rw [HD.out] at hq
        have hcon : ∀ W' : World, ((∀ b o, b < W.heap.size → W'.cell? ⟨b, o, none⟩ = W.cell? ⟨b, o, none⟩) ∧ Below W.heap.size W W') → Calls Tryd.prog 64 #[.slice (some ⟨b, off, none⟩) j cl, (.agg #[.int .i64 (a), .int .u16 ((x : Nat) : Int)])] W' fun e w' => e = .returned (.bool false) ∧ Below W'.heap.size W' w' := fun W' hW' => by
          have := hasL a x _ _ W' (hT3.belowB hW'.2 (Nat.le_refl _)) hcl
          rwa [hq] at this
        have HC := Lib.hid hcon
        clear hcon
        go_region_held3 (fun w' => (∀ b o, b < (W).heap.size → w'.cell? ⟨b, o, none⟩ = (W).cell? ⟨b, o, none⟩) ∧ Below (W).heap.size (W) w') (first | exact stay0 _ | exact stay ‹_› ‹_›)
          (first
            | (go_at_call 64; (with_reducible refine (HC.out _ ‹_›).mono ?_); rintro e w' ⟨rfl, hb⟩))
        have H5 : ∀ w5 : World, ((∀ b o, b < W.heap.size → w5.cell? ⟨b, o, none⟩ = W.cell? ⟨b, o, none⟩) ∧ Below W.heap.size W w5) → Below w.heap.size w w5 ∧ w.heap.size + 1 < w5.heap.size ∧ w5.cell? ⟨w.heap.size, 0, none⟩ = some (.slice (some ⟨b, off, none⟩) n cl) :=
          fun w5 h => ⟨stayEnd HB3.out HB3.out.size h, by have := h.2.size; omega, (h.1 w.heap.size 0 hz4).trans f0⟩
        have HH5 := Lib.hid H5
        clear H5
        go_wp2
        go_roundw
        case rel =>
          have h5 := HH5.out _ ‹_›
          have hq' : ∀ k, k < j + 1 → dupB ls k = false := fun k hk => by
            by_cases e : k = j
            · subst e; exact HQ.out
            · exact HA.out k (by omega)
          first | exact ⟨j + 1, by omega, by go_num, h5.1, h5.2.1, h5.2.2, hq'⟩ | ((repeat apply Exists.intro); exact ⟨⟨j + 1, by omega, by go_num, h5.1, h5.2.1, h5.2.2, hq'⟩, rfl⟩)
        case measure => simp [intOf] <;> omega
    · obtain rfl : j = n := by omega
      have Hd := Lib.hid (show ¬ ∃ i, i < ls.length ∧ dupB ls i = true by
        rintro ⟨i, h1, h2⟩
        rw [HA.out i (by have := HN.out; omega)] at h2
        cases h2)
      go_wp2_with fail
      refine (anyFuncP (outB j) 65 #[.pointer (some ⟨w.heap.size, 0, none⟩)] eg66 _ ps _ (by have h := HP.out.below HB.out; rw [HM.out] at h; exact h) (by have := HM.out; omega) (pred66 _ pl j cl _ (by omega) c0)).mono ?_
      rintro e w6 ⟨rfl, hb6⟩
      have HB6 := Lib.hid (HB.out.trans (hb6.mono (by omega)))
      have hz6 : w.heap.size + 1 < w6.heap.size := by have := hb6.size; omega
      have f6 := (hb6.cell (p := ⟨w.heap.size, 0, none⟩) (by show w.heap.size < _; omega)).trans c0
      clear hb6 c0
      cases r3 : ps.any (outB j) with
      | true =>
        go_wp2
        go_ret2
        exact NewPost.bad (by unfold newC; rw [if_neg Hsz.out, if_neg Hr.out, if_neg Hd.out, if_pos (by rw [HN.out]; exact r3)]) (by decide) HB6.out
      | false =>
        have H0 := Lib.hid (show newC ls ps = 0 by unfold newC; rw [if_neg Hsz.out, if_neg Hr.out, if_neg Hd.out, if_neg (by rw [HN.out, r3]; simp)])
        go_wp2_with fail
        refine (cloneL _ ls _ (by have h := HL.out.below HB6.out; rw [HN.out] at h; exact h) (by have := HN.out; omega)).mono ?_
        rintro e w7 ⟨v7, rfl, hS7, hb7⟩
        have HB7 := Lib.hid (HB6.out.trans (hb7.mono (by omega)))
        have HS7 := Lib.hid hS7
        clear hS7 hb7
        go_wp2_with fail
        refine (cloneP _ ps _ (by have h := HP.out.below HB7.out; rw [HM.out] at h; exact h) (by have := HM.out; omega)).mono ?_
        rintro e w8 ⟨v8, rfl, hS8, hb8⟩
        have HB8 := Lib.hid (HB7.out.trans (hb8.mono HB7.out.size))
        have HT7 := Lib.hid (HS7.out.below hb8)
        have HT8 := Lib.hid hS8
        clear hS8 hb8
        obtain ⟨p7, c7, rfl, _⟩ := id HT7.out
        obtain ⟨p8, c8, rfl, _⟩ := id HT8.out
        go_wp2
        go_ret2
        refine NewPost.ok H0.out (HB8.out.alloc HB8.out.size _) ⟨by simp, _, _, ?_, ?_, HT7.out.below (below1 _ _), HT8.out.below (below1 _ _)⟩
        · go_simp
        · go_simp
end Go.Proofs.YtbbcicengfmhiaaDoor

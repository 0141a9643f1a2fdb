/- What a roster's methods give back. Conditions: sets of 16 bits; lists of no more than 1000. -/
import Derived.Test.YtbbcicengfmhiaaDoorRos2
namespace Go.Proofs.YtbbcicengfmhiaaDoor
set_option maxRecDepth 100000
open Go.RowKit

/-- a roster: none (nobody is anywhere), or one that lies there -/
def Ros (w : World) (v : Value) (ls : List Lbl) (ps : List Psn) : Prop :=
  (v = .pointer none ∧ ls = [] ∧ ps = []) ∨ ∃ r, v = .pointer (some ⟨r, 0, none⟩) ∧ Rost w r ls ps
theorem Ros.below {w w' : World} {v : Value} {ls : List Lbl} {ps : List Psn} (h : Ros w v ls ps) (hb : Below w.heap.size w w') : Ros w' v ls ps := by
  rcases h with h | ⟨r, h1, h2⟩
  · exact .inl h
  · exact .inr ⟨r, h1, h2.below hb⟩
def okL (ls : List Lbl) : Prop := ∀ j, j < ls.length → ls[j]!.2 < 65536
def okP (ps : List Psn) : Prop := ∀ j, j < ps.length → ps[j]!.2.2 < 65536
def inR (n : Nat) (i : Int) : Bool := decide (0 ≤ i) && decide (i < (n : Int))
def labAt (ls : List Lbl) (i : Int) : Lbl := if inR ls.length i = true then ls[i.toNat]! else (0, 0)
def partAt (ps : List Psn) (i : Int) : Int := if inR ps.length i = true then ps[i.toNat]!.1 else -1
theorem inR_mk {n : Nat} {i : Int} (h : inR n i = true) : ∃ k : Nat, i = k ∧ k < n := by
  simp [inR] at h
  exact ⟨i.toNat, by omega, by omega⟩
theorem labAt_ok {ls : List Lbl} (h : okL ls) (i : Int) : (labAt ls i).2 < 65536 := by
  unfold labAt
  split
  · rename_i hi
    obtain ⟨k, rfl, hk⟩ := inR_mk hi
    exact h k hk
  · decide

set_option maxHeartbeats 400000 in
theorem rosParts (v : Value) (ls : List Lbl) (ps : List Psn) (w : World) (h : Ros w v ls ps) :
    Calls Tryd.prog 112 #[v] w fun e w' => e = .returned (.int .i64 (ls.length : Int)) ∧ w = w' := by
  rcases h with ⟨rfl, rfl, rfl⟩ | ⟨r, rfl, _, vl, vp, h1, h2, ⟨p, c, rfl, _⟩, _⟩
  · go_enter Tryd.func112, Tryd.ntmps112
    go_wp2
    go_ret
    exact ⟨rfl, rfl⟩
  · generalize ls.length = n at h1
    go_enter Tryd.func112, Tryd.ntmps112
    go_wp2
    go_ret
    exact ⟨rfl, rfl⟩
set_option maxHeartbeats 400000 in
theorem rosPeople (v : Value) (ls : List Lbl) (ps : List Psn) (w : World) (h : Ros w v ls ps) :
    Calls Tryd.prog 75 #[v] w fun e w' => e = .returned (.int .i64 (ps.length : Int)) ∧ w = w' := by
  rcases h with ⟨rfl, rfl, rfl⟩ | ⟨r, rfl, _, vl, vp, h1, h2, _, ⟨p, c, rfl, _⟩⟩
  · go_enter Tryd.func75, Tryd.ntmps75
    go_wp2
    go_ret
    exact ⟨rfl, rfl⟩
  · generalize ps.length = n at h2
    go_enter Tryd.func75, Tryd.ntmps75
    go_wp2
    go_ret
    exact ⟨rfl, rfl⟩

set_option maxHeartbeats 1000000 in
theorem rosLabel (v : Value) (ls : List Lbl) (ps : List Psn) (i : Int) (w : World) (h : Ros w v ls ps) (hbl : ls.length ≤ 1000) :
    Calls Tryd.prog 68 #[v, .int .i64 i] w fun e w' => e = .returned (.tuple #[(.agg #[.int .i64 ((labAt ls i).1), .int .u16 (((labAt ls i).2 : Nat) : Int)]), .bool (inR ls.length i)]) ∧ Below w.heap.size w w' := by
  have hp := fun W hW => rosParts v ls ps W hW
  have hR : inR ls.length i = (decide (0 ≤ i) && decide (i < (ls.length : Int))) := rfl
  cases h1 : decide (i < 0) with
  | true =>
    have hi : inR ls.length i = false := by rw [hR]; simp at h1; simp; omega
    rw [labAt, hi]
    simp only [Bool.false_eq_true, if_false]
    go_enter Tryd.func68, Tryd.ntmps68
    go_wp2
    exact bodyPost_ret (v := .tuple #[(.agg #[.int .i64 (0), .int .u16 ((0 : Nat) : Int)]), .bool false]) (by simp [results, Tryd.results68, go_sem]) rfl ⟨rfl, below1 _ _⟩
  | false =>
    cases h2 : decide ((ls.length : Int) ≤ i) with
    | true =>
      have hi : inR ls.length i = false := by rw [hR]; simp at h2; simp; omega
      rw [labAt, hi]
      simp only [Bool.false_eq_true, if_false]
      have hH := h.below (below1 w (.cells #[.int .i64 0, .int .u16 0] 41))
      generalize ls.length = n at h2 hp
      go_enter Tryd.func68, Tryd.ntmps68
      go_wp2_with (go_at_call 112; refine (hp _ hH).mono ?_; rintro e w' ⟨rfl, rfl⟩)
      exact bodyPost_ret (v := .tuple #[(.agg #[.int .i64 (0), .int .u16 ((0 : Nat) : Int)]), .bool false]) (by simp [results, Tryd.results68, go_sem]) rfl ⟨rfl, below1 _ _⟩
    | false =>
      have hi : inR ls.length i = true := by rw [hR]; simp at h1 h2; simp; omega
      obtain ⟨k, rfl, hk⟩ := inR_mk hi
      rw [labAt, hi]
      simp only [if_true, Int.toNat_natCast]
      have hH := h.below (below1 w (.cells #[.int .i64 0, .int .u16 0] 41))
      rcases h with ⟨_, rfl, _⟩ | ⟨r, rfl, hr, vl, vp, d1, d2, ⟨p, c, rfl, _, hc⟩, _⟩
      · simp at hk
      · obtain ⟨b, off, rfl, hb, hcell⟩ := hc (by omega)
        have c0 : w.cell? ⟨b, off + k * 2, none⟩ = some (.int .i64 ls[k]!.1) := hcell k hk 0 _ rfl
        have c1 : w.cell? ⟨b, off + k * 2 + 1, none⟩ = some (.int .u16 (ls[k]!.2 : Int)) := hcell k hk 1 _ rfl
        clear hcell hc
        generalize ls[k]!.1 = a at c0 ⊢
        generalize ls[k]!.2 = x at c1 ⊢
        have hkz : (k : Int) < (ls.length : Int) := by omega
        generalize ls.length = n at h1 h2 hp hk d1 hkz
        go_enter Tryd.func68, Tryd.ntmps68
        go_wp2_with (go_at_call 112; refine (hp _ hH).mono ?_; rintro e w' ⟨rfl, rfl⟩)
        exact bodyPost_ret (v := .tuple #[(.agg #[.int .i64 (a), .int .u16 ((x : Nat) : Int)]), .bool true]) (by simp [results, Tryd.results68, go_sem]) rfl ⟨rfl, below1 _ _⟩

set_option maxHeartbeats 1000000 in
theorem rosPart (v : Value) (ls : List Lbl) (ps : List Psn) (i : Int) (w : World) (h : Ros w v ls ps) (hbp : ps.length ≤ 1000) :
    Calls Tryd.prog 76 #[v, .int .i64 i] w fun e w' => e = .returned (.int .i64 (partAt ps i)) ∧ w = w' := by
  have hp := rosPeople v ls ps w h
  have hR : inR ps.length i = (decide (0 ≤ i) && decide (i < (ps.length : Int))) := rfl
  cases h1 : decide (i < 0) with
  | true =>
    have hi : inR ps.length i = false := by rw [hR]; simp at h1; simp; omega
    rw [partAt, hi]
    simp only [Bool.false_eq_true, if_false]
    go_enter Tryd.func76, Tryd.ntmps76
    go_wp2
    go_ret
    exact ⟨rfl, rfl⟩
  | false =>
    cases h2 : decide ((ps.length : Int) ≤ i) with
    | true =>
      have hi : inR ps.length i = false := by rw [hR]; simp at h2; simp; omega
      rw [partAt, hi]
      simp only [Bool.false_eq_true, if_false]
      generalize ps.length = n at h2 hp
      go_enter Tryd.func76, Tryd.ntmps76
      go_wp2_with (go_at_call 75; refine hp.mono ?_; rintro e w' ⟨rfl, rfl⟩)
      go_ret
      exact ⟨rfl, rfl⟩
    | false =>
      have hi : inR ps.length i = true := by rw [hR]; simp at h1 h2; simp; omega
      obtain ⟨k, rfl, hk⟩ := inR_mk hi
      rw [partAt, hi]
      simp only [if_true, Int.toNat_natCast]
      rcases h with ⟨_, _, rfl⟩ | ⟨r, rfl, hr, vl, vp, d1, d2, _, ⟨p, c, rfl, _, hc⟩⟩
      · simp at hk
      · obtain ⟨b, off, rfl, hb, hcell⟩ := hc (by omega)
        have c0 : w.cell? ⟨b, off + k * 3, none⟩ = some (.int .i64 ps[k]!.1) := hcell k hk 0 _ rfl
        clear hcell hc
        generalize ps[k]!.1 = a at c0 ⊢
        have hkz : (k : Int) < (ps.length : Int) := by omega
        generalize ps.length = n at h1 h2 hp hk d2 hkz
        go_enter Tryd.func76, Tryd.ntmps76
        go_wp2_with (go_at_call 75; refine hp.mono ?_; rintro e w' ⟨rfl, rfl⟩)
        go_ret
        exact ⟨rfl, rfl⟩

def seesB (ls : List Lbl) (ps : List Psn) (who part : Int) : Bool :=
  (inR ls.length (partAt ps who) && inR ls.length part) && leqB (labAt ls part).1 (labAt ls part).2 (labAt ls (partAt ps who)).1 (labAt ls (partAt ps who)).2

def mayB (ls : List Lbl) (ps : List Psn) (who : Int) (a : Int) (x : Nat) : Bool :=
  inR ls.length (partAt ps who) && (inR ps.length who && leqB (offLv (labAt ls (partAt ps who)).1 a) (mNot (labAt ls (partAt ps who)).2 x) ps[who.toNat]!.2.1 ps[who.toNat]!.2.2)

set_option maxRecDepth 100000 in
set_option maxHeartbeats 2000000 in
theorem rosMay (v : Value) (ls : List Lbl) (ps : List Psn) (who : Int) (a : Int) (x : Nat) (w : World) (h : Ros w v ls ps) (hbl : ls.length ≤ 1000) (hbp : ps.length ≤ 1000) (ho : okL ls) (hop : okP ps) (hx : x < 65536) :
    Calls Tryd.prog 77 #[v, .int .i64 who, (.agg #[.int .i64 (a), .int .u16 ((x : Nat) : Int)])] w fun e w' => e = .returned (.bool (mayB ls ps who a x)) ∧ Below w.heap.size w w' := by
  have H := Lib.hid h
  have k1 := Lib.hid (labAt_ok ho (partAt ps who))
  have hH1 := h.below (below1 w (.cells #[.int .i64 a, .int .u16 (x : Int)] 41))
  have hp := rosPart v ls ps who _ hH1 hbp
  have h1 := rosLabel v ls ps (partAt ps who) _ hH1 hbl
  have HI := Lib.hid (show inR ls.length (partAt ps who) = true → inR ps.length who = true from fun hi => by
    unfold partAt at hi
    split at hi
    · assumption
    · simp [inR] at hi)
  unfold mayB
  generalize inR ls.length (partAt ps who) = o1 at h1 HI ⊢
  generalize labAt ls (partAt ps who) = b at h1 k1 ⊢
  generalize partAt ps who = q at hp h1 ⊢
  obtain ⟨b1, b2⟩ := b
  dsimp only at k1 h1 ⊢
  cases o1
  · clear h ho hop hH1
    simp only [Bool.false_and]
    go_enter Tryd.func77, Tryd.ntmps77
    go_wp2_with fail
    refine hp.mono ?_
    rintro e w1 ⟨rfl, rfl⟩
    go_wp2_with fail
    refine h1.mono ?_
    rintro e w1 ⟨rfl, hb1⟩
    obtain ⟨hc1, hf1⟩ := bcell hb1
    have hz1 := sizeA hb1
    have HB1 := Lib.hid (belowA (Below.refl _ w) (Nat.le_refl _) hb1)
    clear hb1 hp
    go_wp2_with fail
    have HB2 := Lib.hid (HB1.out.alloc (by omega) (.cells #[.int .i64 b1, .int .u16 (b2 : Int)] 41))
    generalize w1.alloc (.cells #[.int .i64 b1, .int .u16 (b2 : Int)] 41) = W at HB2 ⊢
    go_quiet (fail)
    go_wp2
    go_ret
    exact ⟨rfl, belowN HB2.out _⟩
  · have hi := HI.out rfl
    simp only [Bool.true_and, hi]
    obtain ⟨k, rfl, hk⟩ := inR_mk hi
    simp only [Int.toNat_natCast]
    rcases h with ⟨_, _, rfl⟩ | ⟨r, rfl, hr, vl, vp, d1, d2, _, ⟨p, c, rfl, _, hc⟩⟩
    · simp at hk
    · obtain ⟨bk, off, rfl, hb, hcell⟩ := hc (by omega)
      have c1 : w.cell? ⟨bk, off + k * 3 + 1, none⟩ = some (.int .i64 ps[k]!.2.1) := hcell k hk 1 _ rfl
      have c2 : w.cell? ⟨bk, off + k * 3 + 2, none⟩ = some (.int .u16 (ps[k]!.2.2 : Int)) := hcell k hk 2 _ rfl
      have kp := Lib.hid (hop k hk)
      clear hcell hc hop ho hH1
      generalize ps[k]!.2.1 = p1 at c1 ⊢
      generalize ps[k]!.2.2 = p2 at c2 kp ⊢
      have hkz : (k : Int) < (ps.length : Int) := by omega
      generalize ps.length = n at hk d2 hkz hi hbp
      have h3 := fun W => labelOff b1 a b2 x k1.out hx W
      have h4 := fun W => labelOver p1 (offLv b1 a) p2 (mNot b2 x) kp.out (mNot_lt k1.out) W
      generalize offLv b1 a = e1 at h3 h4 ⊢
      generalize mNot b2 x = e2 at h3 h4 ⊢
      go_enter Tryd.func77, Tryd.ntmps77
      go_wp2_with fail
      refine hp.mono ?_
      rintro e w1 ⟨rfl, rfl⟩
      go_wp2_with fail
      refine h1.mono ?_
      rintro e w1 ⟨rfl, hb1⟩
      have f0 := (hb1.cell (p := ⟨w.heap.size, 0, none⟩) (by simp)).trans (show _ = some (.int .i64 a) by go_simp)
      have f1 := (hb1.cell (p := ⟨w.heap.size, 1, none⟩) (by simp)).trans (show _ = some (.int .u16 (x : Int)) by go_simp)
      have hz1 := sizeA hb1
      have HB1 := Lib.hid (belowA (Below.refl _ w) (Nat.le_refl _) hb1)
      clear hb1 hp
      go_wp2_with fail
      have HB2 := Lib.hid (HB1.out.alloc (by omega) (.cells #[.int .i64 b1, .int .u16 (b2 : Int)] 41))
      have g0 : (w1.alloc (.cells #[.int .i64 b1, .int .u16 (b2 : Int)] 41)).cell? ⟨w.heap.size, 0, none⟩ = some (.int .i64 a) := by go_simp
      have g1 : (w1.alloc (.cells #[.int .i64 b1, .int .u16 (b2 : Int)] 41)).cell? ⟨w.heap.size, 1, none⟩ = some (.int .u16 (x : Int)) := by go_simp
      have g2 : (w1.alloc (.cells #[.int .i64 b1, .int .u16 (b2 : Int)] 41)).cell? ⟨w1.heap.size, 0, none⟩ = some (.int .i64 b1) := by go_simp
      have g3 : (w1.alloc (.cells #[.int .i64 b1, .int .u16 (b2 : Int)] 41)).cell? ⟨w1.heap.size, 1, none⟩ = some (.int .u16 (b2 : Int)) := by go_simp
      have d2' := (HB2.out.cell (p := ⟨r, 1, none⟩) hr).trans d2
      have c1' := (HB2.out.cell (p := ⟨bk, off + k * 3 + 1, none⟩) hb).trans c1
      have c2' := (HB2.out.cell (p := ⟨bk, off + k * 3 + 2, none⟩) hb).trans c2
      have hzW : w1.heap.size < (w1.alloc (.cells #[.int .i64 b1, .int .u16 (b2 : Int)] 41)).heap.size := by simp
      generalize w1.alloc (.cells #[.int .i64 b1, .int .u16 (b2 : Int)] 41) = W at HB2 g0 g1 g2 g3 d2' c1' c2' hzW ⊢
      have hz2 : w.heap.size < W.heap.size := by omega
      have hz3 : r < W.heap.size := by omega
      have hz4 : bk < W.heap.size := by omega
      clear c1 c2 d2 f0 f1 hb hr
      have H3 := Lib.hid h3
      have H4 := Lib.hid h4
      clear h3 h4 h1
      go_region_held3 (fun w' => (∀ b o, b < (W).heap.size → w'.cell? ⟨b, o, none⟩ = (W).cell? ⟨b, o, none⟩) ∧ Below (W).heap.size (W) w') (first | exact stay0 _ | exact stay ‹_› ‹_›)
        (first
          | (go_at_call 119; (with_reducible refine (H3.out _).mono ?_); rintro e w' ⟨rfl, hb⟩)
          | (go_at_call 118; (with_reducible refine (H4.out _).mono ?_); rintro e w' ⟨rfl, hb⟩))
      go_wp2
      go_ret
      exact ⟨rfl, stayEnd HB2.out HB2.out.size ‹_›⟩

set_option maxRecDepth 100000 in
set_option maxHeartbeats 2000000 in
theorem rosFind (v : Value) (ls : List Lbl) (ps : List Psn) (a : Int) (x : Nat) (w : World) (h : Ros w v ls ps) (hbl : ls.length ≤ 1000) :
    Calls Tryd.prog 73 #[v, (.agg #[.int .i64 (a), .int .u16 ((x : Nat) : Int)])] w fun e w' => e = .returned (.int .i64 (idxI (fun y => a == y.1 && x == y.2) ls)) ∧ Below w.heap.size w w' := by
  rcases h with ⟨rfl, rfl, rfl⟩ | ⟨r, rfl, hr, vl, vp, d1, d2, hS, _⟩
  · have hr : idxI (fun y : Int × Nat => a == y.1 && x == y.2) [] = -1 := rfl
    rw [hr]
    go_enter Tryd.func73, Tryd.ntmps73
    go_wp2
    go_ret
    exact ⟨rfl, below1 _ _⟩
  · have hcon := fun (W : World) (hW : Below w.heap.size w W) => idxL a x vl ls W (hS.below hW) (by omega)
    generalize idxI (fun y : Int × Nat => a == y.1 && x == y.2) ls = res at hcon ⊢
    have HC := Lib.hid hcon
    obtain ⟨p, c, rfl, _⟩ := id hS
    clear hS hcon
    generalize ls.length = n at d1 HC
    go_enter Tryd.func73, Tryd.ntmps73
    go_wp2_with fail
    have HB2 := Lib.hid (below1 w (.cells #[.int .i64 a, .int .u16 (x : Int)] 41))
    have g0 : (w.alloc (.cells #[.int .i64 a, .int .u16 (x : Int)] 41)).cell? ⟨w.heap.size, 0, none⟩ = some (.int .i64 a) := by go_simp
    have g1 : (w.alloc (.cells #[.int .i64 a, .int .u16 (x : Int)] 41)).cell? ⟨w.heap.size, 1, none⟩ = some (.int .u16 (x : Int)) := by go_simp
    have d1' := (HB2.out.cell (p := ⟨r, 0, none⟩) hr).trans d1
    have hzW : w.heap.size < (w.alloc (.cells #[.int .i64 a, .int .u16 (x : Int)] 41)).heap.size := by simp
    generalize w.alloc (.cells #[.int .i64 a, .int .u16 (x : Int)] 41) = W at HB2 g0 g1 d1' hzW ⊢
    have hrW : r < W.heap.size := by omega
    have HC2 := Lib.hid (fun (W' : World) (hW' : (∀ b o, b < W.heap.size → W'.cell? ⟨b, o, none⟩ = W.cell? ⟨b, o, none⟩) ∧ Below W.heap.size W W') => HC.out W' (HB2.out.trans (hW'.2.mono HB2.out.size)))
    go_region_held3 (fun w' => (∀ b o, b < (W).heap.size → w'.cell? ⟨b, o, none⟩ = (W).cell? ⟨b, o, none⟩) ∧ Below (W).heap.size (W) w') (first | exact stay0 _ | exact stay ‹_› ‹_›)
      (first | (go_at_call 111; (with_reducible refine (HC2.out _ ‹_›).mono ?_); rintro e w' ⟨rfl, hb⟩))
    go_wp2
    go_ret
    exact ⟨rfl, stayEnd HB2.out HB2.out.size ‹_›⟩

/-- whom a label sees, of the first k -/
def belL (ls : List Lbl) (a : Int) (x : Nat) : Nat → List Int
  | 0 => []
  | k + 1 => belL ls a x k ++ (if leqB ls[k]!.1 ls[k]!.2 a x = true then [(k : Int)] else [])
theorem belL_len (ls : List Lbl) (a : Int) (x : Nat) (k : Nat) : (belL ls a x k).length ≤ k := by
  induction k with
  | zero => simp [belL]
  | succ k ih => simp only [belL]; split <;> simp <;> omega

theorem int_infoR : (Tryd.prog.info? 3).map (fun i => (i.zero, i.size, i.bytes)) = some (some (.int .i64 0), 1, 8) := by kernel_rfl
theorem info_int : ∃ i : TypeInfo, Tryd.prog.info? 3 = some i ∧ i.zero = some (.int .i64 0) ∧ i.size = 1 ∧ i.bytes = 8 := by
  have h := int_infoR
  cases hi : Tryd.prog.info? 3 with
  | none => rw [hi] at h; cases h
  | some i =>
    rw [hi] at h
    simp only [Option.map_some, Option.some.injEq, Prod.mk.injEq] at h
    exact ⟨i, rfl, h.1, h.2.1, h.2.2⟩

/-- how a list of the call's own stands while it grows -/
def OwnI (w wr : World) (v : Value) (xs : List Int) : Prop := wr.ownsRow w.heap.size 3 1 v xs.length (flat encI xs)
end Go.Proofs.YtbbcicengfmhiaaDoor

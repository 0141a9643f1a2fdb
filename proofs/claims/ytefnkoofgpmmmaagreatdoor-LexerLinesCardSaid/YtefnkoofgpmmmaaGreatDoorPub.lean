/- strconv.ParseUint at base 16, 16 bits, of four bytes; label.Parse. -/
import Derived.Test.YtefnkoofgpmmmaaGreatDoorN6
import Derived.Test.YtefnkoofgpmmmaaGreatDoorPar
namespace Go.Proofs.YtefnkoofgpmmmaaGreatDoor
set_option maxRecDepth 100000
open Go.RowKit

def PubPost (l : List UInt8) (e : Ending) : Prop := match hvL l 0 with
  | some v => e = .returned (.tuple #[.int .u64 (v : Int), .nilIface])
  | none => ∃ t p, e = .returned (.tuple #[.int .u64 0, .iface t p])
theorem parseUint (l : List UInt8) (hl : l.length = 4) (w : World) (hM : Met w) : Calls Tryz.prog 144 #[.string ⟨l.toArray⟩, .int .i64 16, .int .i64 16] w fun e w' => PubPost l e ∧ Below w.heap.size w w' := by
  have q := parI l hl w
  have hs : (⟨l.toArray⟩ : ByteArray).size ≤ 281474976710656 := by simp [ByteArray.size]; omega
  unfold PubPost
  unfold ParPost at q
  generalize (⟨l.toArray⟩ : ByteArray) = t at q hs ⊢
  cases hv : hvL l 0 with
  | some v =>
    rw [hv] at q
    clear hv
    go_enter Tryz.func144, Tryz.ntmps144
    go_wp2_with fail
    refine q.mono ?_
    rintro e w1 ⟨rfl, hb⟩
    have HB := Lib.hid hb
    clear q hb
    go_wp2
    go_ret2
    exact ⟨rfl, HB.out⟩
  | none =>
    rw [hv] at q
    clear hv
    obtain ⟨_, ⟨a, h2⟩, _⟩ := id hM
    have HM := Lib.hid hM
    clear hM
    go_enter Tryz.func144, Tryz.ntmps144
    go_wp2_with fail
    refine q.mono ?_
    rintro e w1 ⟨rfl, hb⟩
    have HB := Lib.hid hb
    have hM1 := HM.out.below hb
    clear q hb h2
    obtain ⟨_, ⟨a, h2⟩, _⟩ := hM1
    have c2 : w1.cell? ⟨1, 0, none⟩ = some (.iface 363 (.pointer (some a))) := by simpa using World.var?_cell gSyn h2 0
    clear h2
    have q2 := Any.strconv_toError_syntax { Tryz.laysC172 with } ⟨#[80, 97, 114, 115, 101, 85, 105, 110, 116]⟩ t 16 16 _ w1 hs c2 (.inr ⟨_, _, rfl⟩)
    go_wp2_with fail
    refine q2.mono ?_
    rintro e w2 ⟨N, rfl, _, _, hb⟩
    have HB2 := Lib.hid (HB.out.trans (hb.mono HB.out.size))
    clear q2 hb
    go_wp2
    go_ret2
    exact ⟨⟨_, _, rfl⟩, HB2.out⟩
def LpRes (l : List UInt8) : Value := match parseL l with
  | some (a, x) => .tuple #[(.agg #[.int .i64 (a), .int .u16 ((x : Nat) : Int)]), .int .i64 0]
  | none => .tuple #[(.agg #[.int .i64 (0), .int .u16 ((0 : Nat) : Int)]), .int .i64 3]
/-- a label's box -/
def LBx (b : Nat) (a : Int) (x : Nat) (w : World) : Prop :=
  b < w.heap.size ∧ w.cell? ⟨b, 0, none⟩ = some (.int .i64 a) ∧ w.cell? ⟨b, 1, none⟩ = some (.int .u16 (x : Int)) ∧ w.frozen? ⟨b, 0, none⟩ = false ∧ w.frozen? ⟨b, 1, none⟩ = false
theorem LBx.below {b : Nat} {a : Int} {x : Nat} {w w' : World} (h : LBx b a x w) (hb : Below w.heap.size w w') : LBx b a x w' := by
  obtain ⟨h0, h1, h2, h3, h4⟩ := h
  exact ⟨Nat.lt_of_lt_of_le h0 hb.size, (hb.cell (p := ⟨b, 0, none⟩) h0).trans h1, (hb.cell (p := ⟨b, 1, none⟩) h0).trans h2, (hb.frozen (p := ⟨b, 0, none⟩) h0).trans h3, (hb.frozen (p := ⟨b, 1, none⟩) h0).trans h4⟩
theorem LBx.mk (w : World) (a : Int) (x : Nat) : LBx w.heap.size a x (w.alloc (.cells #[.int .i64 a, .int .u16 (x : Int)] 56)) := by
  refine ⟨by simp, ?_, ?_, ?_, ?_⟩ <;> go_simp
theorem LBx.mk2 {b : Nat} (w : World) (a : Int) (x : Nat) (h : w.heap.size = b) : LBx b a x (w.alloc (.cells #[.int .i64 a, .int .u16 (x : Int)] 56)) := by
  subst h
  exact LBx.mk w a x
set_option maxRecDepth 100000 in
set_option maxHeartbeats 4000000 in
theorem labelParse (l : List UInt8) (w : World) (hM : Met w) : Calls Tryz.prog 95 #[.string ⟨l.toArray⟩] w fun e w' => e = .returned (LpRes l) ∧ Below w.heap.size w w' := by
  obtain ⟨t, ht⟩ : ∃ t : ByteArray, t = ⟨l.toArray⟩ := ⟨_, rfl⟩
  rw [← ht]
  have hts : t.size = l.length := by rw [ht]; rfl
  by_cases hl : l.length = 6
  · have hex : t.extract 2 t.size = ⟨(l.drop 2).toArray⟩ := by
      rw [ht]
      apply ByteArray.ext
      simp [ByteArray.size]
      exact List.take_of_length_le (by simp)
    have hix : ∀ h : 0 < t.size, (t[0]'h) = l[0]! := fun h => by
      subst ht
      match l, hl with
      | [_, _, _, _, _, _], _ => rfl
    rw [hl] at hts
    rw [hts] at hex
    have q := parseUint (l.drop 2) (by simp [hl])
    rw [← hex] at q
    obtain ⟨R, hR⟩ : ∃ R, R = LpRes l := ⟨_, rfl⟩
    rw [← hR]
    have hb0 : (l[0]!).toNat < 256 := (l[0]!).toNat_lt
    generalize hc : (l[0]!) = c at hix hb0
    have HM := Lib.hid hM
    clear hM
    unfold PubPost at q
    cases hv : hvL (l.drop 2) 0 with
    | none =>
      have hr' := Lib.hid (show LpRes l = .tuple #[(.agg #[.int .i64 (0), .int .u16 ((0 : Nat) : Int)]), .int .i64 3] by unfold LpRes parseL; rw [if_pos hl, hv])
      rw [hv] at q
      rw [← hR] at hr'
      clear hv ht hR hl hc hex
      go_enter Tryz.func95, Tryz.ntmps95
      go_wp2_with fail
      refine (q _ (HM.out.below (below1 _ _))).mono ?_
      rintro e w1 ⟨⟨t0, p0, rfl⟩, hb⟩
      have HB := Lib.hid ((below1 w (.cells #[.int .i64 0, .int .u16 0] 56)).trans (hb.mono (below1 w (.cells #[.int .i64 0, .int .u16 0] 56)).size))
      obtain ⟨bz, bc0, bc1, bf0, bf1⟩ := (LBx.mk w 0 0).below hb
      have bne : w.heap.size ≠ w1.heap.size := by omega
      clear q hb
      have hix' := hix (by omega)
      clear hix
      go_wp2
      refine bodyPost_ret (v := .tuple #[(.agg #[.int .i64 (0), .int .u16 ((0 : Nat) : Int)]), .int .i64 3]) (by rw [results_cell_tmp rfl]; go_simp) rfl ⟨by rw [hr'.out], ?_⟩
      exact ((HB.out.setCell (p := ⟨w.heap.size, 0, none⟩) (Nat.le_refl _) _).setCell (p := ⟨w.heap.size, 1, none⟩) (Nat.le_refl _) _).alloc (by simpa using HB.out.size) _
    | some v =>
      have hv6 : v < 65536 := by
        have := hvL_lt _ _ _ hv
        rw [List.length_drop, hl] at this
        omega
      have hr' := Lib.hid (show LpRes l = if txtL ((c.toNat : Int) - 48) v = l then .tuple #[(.agg #[.int .i64 ((c.toNat : Int) - 48), .int .u16 ((v : Nat) : Int)]), .int .i64 0] else .tuple #[(.agg #[.int .i64 (0), .int .u16 ((0 : Nat) : Int)]), .int .i64 3] by
        unfold LpRes parseL
        rw [if_pos hl, hv, hc]
        by_cases h : txtL ((c.toNat : Int) - 48) v = l
        · rw [if_pos h]; simp only [if_pos h]
        · rw [if_neg h]; simp only [if_neg h])
      have hw1 : IntKind.u16.wrap (v : Int) = (v : Int) := by simp [IntKind.wrap, IntKind.signed, IntKind.bits]; omega
      have hTl := Lib.hid (show ((⟨(txtL ((c.toNat : Int) - 48) v).toArray⟩ : ByteArray).toList == t.toList) = decide (txtL ((c.toNat : Int) - 48) v = l) by
        rw [ht]
        by_cases h : txtL ((c.toNat : Int) - 48) v = l
        · rw [h]; simp
        · rw [decide_eq_false h]
          simpa using h)
      have qt := labelText ((c.toNat : Int) - 48) v hv6
      generalize (⟨(txtL ((c.toNat : Int) - 48) v).toArray⟩ : ByteArray) = T at hTl qt
      generalize hdq : decide (txtL ((c.toNat : Int) - 48) v = l) = dq at hTl
      have hr2 : Hid (R = if dq = true then .tuple #[(.agg #[.int .i64 ((c.toNat : Int) - 48), .int .u16 ((v : Nat) : Int)]), .int .i64 0] else .tuple #[(.agg #[.int .i64 (0), .int .u16 ((0 : Nat) : Int)]), .int .i64 3]) := Lib.hid (by
        rw [hR, hr'.out, ← hdq]
        by_cases h : txtL ((c.toNat : Int) - 48) v = l
        · rw [if_pos h, decide_eq_true h]; rfl
        · rw [if_neg h, decide_eq_false h]; rfl)
      rw [hv] at q
      clear hv ht hR hl hc hex hr' hdq hv6
      go_enter Tryz.func95, Tryz.ntmps95
      go_wp2_with fail
      refine (q _ (HM.out.below (below1 _ _))).mono ?_
      rintro e w1 ⟨rfl, hb⟩
      have HB := Lib.hid ((below1 w (.cells #[.int .i64 0, .int .u16 0] 56)).trans (hb.mono (below1 w (.cells #[.int .i64 0, .int .u16 0] 56)).size))
      have hbx := (LBx.mk w 0 0).below hb
      have hz : w.heap.size < w1.heap.size := hbx.1
      clear q hb
      have hix' := hix (by omega)
      clear hix
      go_wp2_with fail
      have HB1 := Lib.hid (HB.out.alloc HB.out.size (.cells #[.int .i64 ((c.toNat : Int) - 48), .int .u16 (v : Int)] 56))
      have hbx1 := hbx.below (below1 w1 (.cells #[.int .i64 ((c.toNat : Int) - 48), .int .u16 (v : Int)] 56))
      have hby := LBx.mk w1 ((c.toNat : Int) - 48) v
      refine (qt _ (HM.out.below HB1.out)).mono ?_
      rintro e w2 ⟨rfl, hb⟩
      have HB2 := Lib.hid (HB1.out.trans (hb.mono HB1.out.size))
      obtain ⟨bz, bc0, bc1, bf0, bf1⟩ := hbx1.below hb
      obtain ⟨cz, cc0, cc1, cf0, cf1⟩ := hby.below hb
      have hne : w.heap.size ≠ w1.heap.size := by omega
      clear qt hb hbx hbx1 hby HB1
      have hT := hTl.out
      clear hTl
      cases dq with
      | true =>
        go_wp2
        refine bodyPost_ret (v := .tuple #[(.agg #[.int .i64 ((c.toNat : Int) - 48), .int .u16 ((v : Nat) : Int)]), .int .i64 0]) (by rw [results_cell_tmp rfl]; go_simp) rfl ⟨by rw [hr2.out]; rfl, ?_⟩
        exact (HB2.out.setCell (p := ⟨w.heap.size, 0, none⟩) (Nat.le_refl _) _).setCell (p := ⟨w.heap.size, 1, none⟩) (Nat.le_refl _) _
      | false =>
        go_wp2
        refine bodyPost_ret (v := .tuple #[(.agg #[.int .i64 (0), .int .u16 ((0 : Nat) : Int)]), .int .i64 3]) (by rw [results_cell_tmp rfl]; go_simp) rfl ⟨by rw [hr2.out]; rfl, ?_⟩
        exact (HB2.out.setCell (p := ⟨w.heap.size, 0, none⟩) (Nat.le_refl _) _).setCell (p := ⟨w.heap.size, 1, none⟩) (Nat.le_refl _) _
  · have hr : LpRes l = .tuple #[(.agg #[.int .i64 (0), .int .u16 ((0 : Nat) : Int)]), .int .i64 3] := by unfold LpRes parseL; rw [if_neg hl]
    have hr' := Lib.hid hr
    have hne : ¬ (t.size : Int) = 6 := by omega
    clear hr hl hts ht hM
    go_enter Tryz.func95, Tryz.ntmps95
    go_wp2
    refine bodyPost_ret (v := .tuple #[(.agg #[.int .i64 (0), .int .u16 ((0 : Nat) : Int)]), .int .i64 3]) (by rw [results_cell_tmp rfl]; go_simp) rfl ⟨by rw [hr'.out], ?_⟩
    exact below1 _ _
end Go.Proofs.YtefnkoofgpmmmaaGreatDoor

/- lexer.Label. -/
import Derived.Test.YtefnkoofgpmmmaaGreatDoorPub
import Derived.Test.YtefnkoofgpmmmaaGreatDoorLxE
namespace Go.Proofs.YtefnkoofgpmmmaaGreatDoor
set_option maxRecDepth 100000
open Go.RowKit

def LabPost (s : ByteArray) (at_ : Int) (w : World) (e : Ending) (w' : World) : Prop := Below w.heap.size w w' ∧ match parseL s.data.toList with
  | some (a, x) => e = .returned (.tuple #[(.agg #[.int .i64 (a), .int .u16 ((x : Nat) : Int)]), .nilIface])
  | none => ∃ err, e = .returned (.tuple #[(.agg #[.int .i64 (0), .int .u16 ((0 : Nat) : Int)]), err]) ∧ ErrAt err (some (at_, 3)) w'
set_option maxHeartbeats 4000000 in
theorem lexLabel (s : ByteArray) (at_ : Int) (w : World) (hM : Met w) : Calls Tryz.prog 40 #[.agg #[.string s, .int .i64 at_]] w (LabPost s at_ w) := by
  have b1 := below1 w (.cells #[.string s, .int .i64 at_] 35)
  have b2 := below2 w (.cells #[.string s, .int .i64 at_] 35) (.cells #[.int .i64 0, .int .u16 0] 56)
  have HB := Lib.hid b2
  have HM := Lib.hid (hM.below b2)
  have HBX := Lib.hid ((BlkIs.alloc w [.string s, .int .i64 at_] 35).below (below1 _ (.cells #[.int .i64 0, .int .u16 0] 56)))
  have hbl := BlkIs.alloc (w.alloc (.cells #[.string s, .int .i64 at_] 35)) [.int .i64 0, .int .u16 0] 56
  rw [World.size_alloc] at hbl
  have HBL := Lib.hid hbl
  clear b1 b2 hM hbl
  have HP := Lib.hid (fun (W : World) (h : Met W) => show Calls Tryz.prog 95 #[.string s] W _ from labelParse s.data.toList W h)
  go_enter Tryz.func40, Tryz.ntmps40
  go_wp2_with fail
  refine (HP.out _ HM.out).mono ?_
  rintro e w2 ⟨rfl, hb⟩
  have HB2 := Lib.hid (HB.out.trans (hb.mono HB.out.size))
  have HBX2 := Lib.hid (HBX.out.below hb)
  have HBL2 := Lib.hid (HBL.out.below hb)
  have HW := Lib.hid hb.size
  have hn : (w.alloc (.cells #[.string s, .int .i64 at_] 35)).heap.size = w.heap.size + 1 := by simp
  cases hpl : parseL s.data.toList with
  | some ax =>
    obtain ⟨a, x⟩ := ax
    have hlp : LpRes s.data.toList = .tuple #[(.agg #[.int .i64 (a), .int .u16 ((x : Nat) : Int)]), .int .i64 0] := by unfold LpRes; rw [hpl]
    rw [hlp]
    have HQ := Lib.hid (fun (X : World) (h : Below w.heap.size w X) => show LabPost s at_ w (.returned (.tuple #[(.agg #[.int .i64 (a), .int .u16 ((x : Nat) : Int)]), .nilIface])) X from ⟨h, by rw [hpl]⟩)
    generalize LabPost s at_ w = GP at *
    have c0 := HBL2.out.cell 0
    have c1 := HBL2.out.cell 1
    have f0 := HBL2.out.frozen 0
    have f1 := HBL2.out.frozen 1
    simp only [List.getElem?_cons_zero, List.getElem?_cons_succ] at c0 c1
    have hlt := HBL2.out.lt
    clear hpl hlp hb hn
    go_wp2_with fail
    refine bodyPost_ret (v := .tuple #[(.agg #[.int .i64 (a), .int .u16 ((x : Nat) : Int)]), .nilIface]) (by rw [results_cell_tmp rfl]; go_simp) rfl ?_
    exact HQ.out _ (((HB2.out.setCell (p := ⟨w.heap.size + 1, 0, none⟩) (Nat.le_succ _) _).setCell (p := ⟨w.heap.size + 1, 1, none⟩) (Nat.le_succ _) _).alloc (by have := HB2.out.size; simp; omega) _)
  | none =>
    have hlp : LpRes s.data.toList = .tuple #[(.agg #[.int .i64 (0), .int .u16 ((0 : Nat) : Int)]), .int .i64 3] := by unfold LpRes; rw [hpl]
    rw [hlp]
    have HQ := Lib.hid (fun (X : World) (err : Value) (h : Below w.heap.size w X) (hE : ErrAt err (some (at_, 3)) X) => show LabPost s at_ w (.returned (.tuple #[(.agg #[.int .i64 (0), .int .u16 ((0 : Nat) : Int)]), err])) X from ⟨h, by rw [hpl]; exact ⟨err, rfl, hE⟩⟩)
    generalize LabPost s at_ w = GP at *
    have c0 := HBL2.out.cell 0
    have c1 := HBL2.out.cell 1
    have f0 := HBL2.out.frozen 0
    have f1 := HBL2.out.frozen 1
    have k1 := HBX2.out.cell 1
    simp only [List.getElem?_cons_zero, List.getElem?_cons_succ] at c0 c1 k1
    have hlt := HBL2.out.lt
    clear hpl hlp hb hn
    have HF := Lib.hid (fun (X : World) => (lexFault at_ 3 X).mono (fun e w' h => show e = .returned (.iface 182 (.pointer (some ⟨X.heap.size, 0, none⟩))) ∧ Below X.heap.size X w' ∧ BlkIs w' X.heap.size [.int .i64 at_, .iface 48 (.int .i64 3)] 186 from ⟨h.1, by rw [h.2]; exact below1 _ _, by rw [h.2]; exact BlkIs.alloc X [.int .i64 at_, .iface 48 (.int .i64 3)] 186⟩))
    have b3 := below1 w2 (.cells #[.int .i64 0, .int .u16 0] 56)
    have HB3 := Lib.hid (HB2.out.trans (b3.mono HB2.out.size))
    have HBL3 := Lib.hid (HBL2.out.below b3)
    have hl3 := BlkIs.alloc w2 [.int .i64 0, .int .u16 0] 56
    have hx3 := (HBX2.out.below b3).cell 1
    have hl30 := hl3.cell 0
    have hl31 := hl3.cell 1
    simp only [List.getElem?_cons_zero, List.getElem?_cons_succ] at hl30 hl31 hx3
    have HT := Lib.hid (And.intro hl30 (And.intro hl31 hx3))
    clear hl3 hx3 hl30 hl31 b3
    go_wp2_with fail
    generalize w2.alloc (.cells #[.int .i64 0, .int .u16 0] 56) = w3 at HT HB3 HBL3 ⊢
    have HSB := Lib.hid (fun (X Y : World) (h : X.cell? ⟨w2.heap.size, 0, none⟩ = some (.int .i64 0) ∧ X.cell? ⟨w2.heap.size, 1, none⟩ = some (.int .u16 0) ∧ X.cell? ⟨w.heap.size, 1, none⟩ = some (.int .i64 at_)) (hb : Below X.heap.size X Y) =>
      show Y.cell? ⟨w2.heap.size, 0, none⟩ = some (.int .i64 0) ∧ Y.cell? ⟨w2.heap.size, 1, none⟩ = some (.int .u16 0) ∧ Y.cell? ⟨w.heap.size, 1, none⟩ = some (.int .i64 at_) from
      ⟨(hb.cell (p := ⟨w2.heap.size, 0, none⟩) (cellW_lt h.1)).trans h.1, (hb.cell (p := ⟨w2.heap.size, 1, none⟩) (cellW_lt h.1)).trans h.2.1, (hb.cell (p := ⟨w.heap.size, 1, none⟩) (cellW_lt h.2.2)).trans h.2.2⟩)
    have HS3 := Lib.hid (HSB.out w3 w3.drew HT.out (Below.refl _ _).drew)
    have HLT := Lib.hid hlt
    have h3n : w.heap.size + 1 < w3.heap.size := HBL3.out.lt
    have H3N := Lib.hid h3n
    clear h3n
    refine wp_region_held_drew (S := (fun X => X.cell? ⟨w2.heap.size, 0, none⟩ = some (.int .i64 0) ∧ X.cell? ⟨w2.heap.size, 1, none⟩ = some (.int .u16 0) ∧ X.cell? ⟨w.heap.size, 1, none⟩ = some (.int .i64 at_))) (by kernel_rfl) HS3.out (fun hHeld => ?_)
    try dsimp only [List.size_toArray, List.length_cons, List.length_nil]
    refine takeL (i := 1) rfl (v := ?vz1) (by kernel_rfl) (by kernel_rfl) (by kernel_rfl) (fun _ _ _ h => h) (Or.inl ⟨by rfl, fun _w _hSw => ?hyz1⟩) (by assumption) ?restz1
    case hyz1 =>
      (try dsimp only at _hSw)
      go_simp
      try with_reducible rfl
    try simp only [Act.put, List.setIfInBounds_toArray, List.set_cons_zero, List.set_cons_succ]
    refine takeL (i := 2) rfl (v := ?vz2) (by kernel_rfl) (by kernel_rfl) (by kernel_rfl) (fun _ _ _ h => h) (Or.inl ⟨by rfl, fun _w _hSw => ?hyz2⟩) (by assumption) ?restz2
    case hyz2 =>
      (try dsimp only at _hSw)
      go_simp
      try with_reducible rfl
    try simp only [Act.put, List.setIfInBounds_toArray, List.set_cons_zero, List.set_cons_succ]
    refine takeL (i := 3) rfl (v := ?vz3) (by kernel_rfl) (by kernel_rfl) (by kernel_rfl) (fun _ _ _ h => h) (Or.inl ⟨by rfl, fun _w _hSw => ?hyz3⟩) (by assumption) ?restz3
    case hyz3 =>
      (try dsimp only at _hSw)
      go_simp
      try with_reducible rfl
    try simp only [Act.put, List.setIfInBounds_toArray, List.set_cons_zero, List.set_cons_succ]
    refine takeL (i := 0) rfl (v := ?vz4) (by kernel_rfl) (by kernel_rfl) (by kernel_rfl) (fun _ _ _ h => h) (Or.inl ⟨by rfl, fun _w _hSw => ?hyz4⟩) (by assumption) ?restz4
    case hyz4 =>
      (try dsimp only at _hSw)
      go_simp
      try with_reducible rfl
    try simp only [Act.put, List.setIfInBounds_toArray, List.set_cons_zero, List.set_cons_succ]
    refine wpAnyH_ready (rs := [4]) (by kernel_rfl) (by simp) (readyL rfl (fun K1 hK => ?_) AllReadyH.nil)
    go_simp
    with_reducible refine (HF.out _).mono ?_
    rintro e w5 ⟨rfl, hb5, hk5⟩
    have HB5 := Lib.hid (HB3.out.drew.trans (hb5.mono HB3.out.drew.size))
    have HL5 := Lib.hid ((HBL3.out.below (Below.refl _ _).drew).below hb5)
    have HK5 := Lib.hid hk5
    have HS5 := Lib.hid (HSB.out _ _ HS3.out hb5)
    have d0 := HL5.out.cell 0
    have d1 := HL5.out.cell 1
    have g0 := HL5.out.frozen 0
    have g1 := HL5.out.frozen 1
    simp only [List.getElem?_cons_zero, List.getElem?_cons_succ] at d0 d1
    have hne1 : w2.heap.size ≠ w.heap.size + 1 := Nat.ne_of_gt HLT.out
    have e6 : ∀ k, k ≠ w.heap.size + 1 → ((w5.setCell ⟨w.heap.size + 1, 0, none⟩ (.int .i64 0)).setCell ⟨w.heap.size + 1, 1, none⟩ (.int .u16 0)).heap[k]? = w5.heap[k]? := fun k hk => (Below.heap_setCell _ _ _ _ hk).trans (Below.heap_setCell _ _ _ _ hk)
    have HS6 := Lib.hid (And.intro ((World.cell?_of_block (w := w5) (e6 _ hne1)).trans HS5.out.1) (And.intro ((World.cell?_of_block (w := w5) (e6 _ hne1)).trans HS5.out.2.1) ((World.cell?_of_block (w := w5) (e6 w.heap.size (Nat.ne_of_lt (Nat.lt_succ_self _)))).trans HS5.out.2.2)))
    have HE6 := Lib.hid e6
    have hnh : w3.drew.heap.size = w3.heap.size := rfl
    clear hb5 hk5 e6 hne1
    try dsimp only
    refine hK.out _ _ HS5.out (fun hHeld => ?_)
    clear hK K1
    try simp only [Act.put, List.setIfInBounds_toArray, List.set_cons_zero, List.set_cons_succ]
    refine wpAnyH_ready (rs := [5]) (by kernel_rfl) (by simp) (readyL rfl (fun K1 hK => ?_) AllReadyH.nil)
    go_simp
    refine hK.out _ _ HS6.out (fun _ => ?_)
    clear hK K1
    try simp only [Act.put, List.setIfInBounds_toArray, List.set_cons_zero, List.set_cons_succ]
    refine takeL (i := 6) rfl (v := ?vz5) (by kernel_rfl) (by kernel_rfl) (by kernel_rfl) (fun _ _ _ h => h) (Or.inl ⟨by rfl, fun _w _hSw => ?hyz5⟩) (by assumption) ?restz5
    case hyz5 =>
      (try dsimp only at _hSw)
      go_simp
      try with_reducible rfl
    try simp only [Act.put, List.setIfInBounds_toArray, List.set_cons_zero, List.set_cons_succ]
    refine wpAnyH_done (by kernel_rfl) ?_ _
    go_wp2
    refine bodyPost_ret (v := .tuple #[(.agg #[.int .i64 (0), .int .u16 ((0 : Nat) : Int)]), .iface 182 (.pointer (some ⟨w3.heap.size, 0, none⟩))]) (by rw [results_cell_tmp rfl]; go_simp) rfl ?_
    exact HQ.out _ _ ((HB5.out.setCell (p := ⟨w.heap.size + 1, 0, none⟩) (Nat.le_succ _) _).setCell (p := ⟨w.heap.size + 1, 1, none⟩) (Nat.le_succ _) _) ⟨w3.heap.size, rfl, (HE6.out _ (Nat.ne_of_gt H3N.out)).trans HK5.out⟩
end Go.Proofs.YtefnkoofgpmmmaaGreatDoor

/- lexer.Number. -/
import Derived.Test.YtefnkoofgpmmmaaGreatDoorN2
import Derived.Test.YtefnkoofgpmmmaaGreatDoorTk
import Derived.Test.YtefnkoofgpmmmaaGreatDoorNam
import Derived.Test.YtefnkoofgpmmmaaGreatDoorBlk
import Derived.Test.YtefnkoofgpmmmaaGreatDoorN5
namespace Go.Proofs.YtefnkoofgpmmmaaGreatDoor
set_option maxRecDepth 100000
open Go.RowKit

def maxI (lo : Int) : Int := if lo < 0 then 0 else lo
/-- a text as a number within bounds -/
def numM (s : ByteArray) (lo hi : Int) : Option Int := match Lib.atoiAll s.data.toList with
  | .ok v => if s.size ≤ 9 ∧ Lib.itoa v = s.data.toList ∧ max lo 0 ≤ v ∧ v ≤ hi then some v else none
  | _ => none
def numErr (s : ByteArray) (at_ lo hi : Int) : Option (Int × Int) := if numM s lo hi = none then some (at_, 16) else none
def NumPost (s : ByteArray) (at_ lo hi : Int) (w : World) (e : Ending) (w' : World) : Prop := Below w.heap.size w w' ∧ ∃ err, e = .returned (.tuple #[.int .i64 ((numM s lo hi).getD 0), err]) ∧ ErrAt err (numErr s at_ lo hi) w'
theorem NumPost.none {s : ByteArray} {at_ lo hi : Int} {w w1 : World} (h : numM s lo hi = none) (hb : Below w.heap.size w w1) :
    NumPost s at_ lo hi w (.returned (.tuple #[.int .i64 0, .iface 182 (.pointer (some ⟨w1.heap.size, 0, none⟩))])) (w1.alloc (.cells #[.int .i64 at_, .iface 48 (.int .i64 16)] 186)) := by
  refine ⟨hb.trans ((below1 w1 _).mono hb.size), _, by rw [h]; rfl, ?_⟩
  unfold numErr
  rw [if_pos h]
  exact ErrAt.mk w1 at_ 16
theorem NumPost.some {s : ByteArray} {at_ lo hi v : Int} {w w1 : World} (h : numM s lo hi = some v) (hb : Below w.heap.size w w1) :
    NumPost s at_ lo hi w (.returned (.tuple #[.int .i64 v, .nilIface])) w1 := by
  refine ⟨hb, .nilIface, by rw [h]; rfl, ?_⟩
  unfold numErr
  rw [h]
  rfl
set_option maxHeartbeats 4000000 in
theorem lexNumber (s : ByteArray) (at_ lo hi : Int) (w : World) (hM : Met w) (hs : s.size ≤ 100000) : Calls Tryz.prog 38 #[.agg #[.string s, .int .i64 at_], .int .i64 lo, .int .i64 hi] w (NumPost s at_ lo hi w) := by
  have hb0 := below1 w (.cells #[.string s, .int .i64 at_] 35)
  have HB0 := Lib.hid hb0
  have HM0 := Lib.hid (hM.below hb0)
  have HBX0 := Lib.hid (BlkIs.alloc w [.string s, .int .i64 at_] 35)
  clear hb0 hM
  have HNO := Lib.hid (fun (w1 : World) (h : numM s lo hi = none) (hb : Below w.heap.size w w1) => NumPost.none (at_ := at_) h hb)
  have HYE := Lib.hid (fun (v : Int) (w1 : World) (h : numM s lo hi = some v) (hb : Below w.heap.size w w1) => NumPost.some (at_ := at_) h hb)
  generalize NumPost s at_ lo hi w = GP at *
  have hss : (⟨s.data.toList.toArray⟩ : ByteArray) = s := rfl
  have HAT := Lib.hid (fun (W : World) (h : Met W) => show Calls Tryz.prog 92 #[.string s] W _ from atoiC s.data.toList W h (by simp; omega))
  go_enter Tryz.func38, Tryz.ntmps38
  go_wp2_with fail
  refine (HAT.out _ HM0.out).mono ?_
  rintro e w2 ⟨hb, hq⟩
  have HB2 := Lib.hid (HB0.out.trans (hb.mono HB0.out.size))
  have HM2 := Lib.hid (HM0.out.below hb)
  have HBX2 := Lib.hid (HBX0.out.below hb)
  have HBW := Lib.hid hb
  clear hb
  have c0 := HBX2.out.cell 0
  have c1 := HBX2.out.cell 1
  simp only [List.getElem?_cons_zero, List.getElem?_cons_succ] at c0 c1
  have HS0 := Lib.hid (show w2.drew.cell? ⟨w.heap.size, 0, none⟩ = some (.string s) ∧ Met w2.drew ∧ Below w.heap.size w w2.drew ∧ w2.drew.cell? ⟨w.heap.size, 1, none⟩ = some (.int .i64 at_) from
    ⟨(HBX2.out.below (Below.refl _ _).drew).cell 0, HM2.out.below (Below.refl _ _).drew, HB2.out.drew, (HBX2.out.below (Below.refl _ _).drew).cell 1⟩)
  have HSB := Lib.hid (fun (X Y : World) (h : X.cell? ⟨w.heap.size, 0, none⟩ = some (.string s) ∧ Met X ∧ Below w.heap.size w X ∧ X.cell? ⟨w.heap.size, 1, none⟩ = some (.int .i64 at_)) (hb : Below X.heap.size X Y) =>
    show Y.cell? ⟨w.heap.size, 0, none⟩ = some (.string s) ∧ Met Y ∧ Below w.heap.size w Y ∧ Y.cell? ⟨w.heap.size, 1, none⟩ = some (.int .i64 at_) from ⟨(hb.cell (p := ⟨w.heap.size, 0, none⟩) (cellW_lt h.1)).trans h.1, h.2.1.below hb, h.2.2.1.trans (hb.mono h.2.2.1.size), (hb.cell (p := ⟨w.heap.size, 1, none⟩) (cellW_lt h.1)).trans h.2.2.2⟩)
  rcases ha : Lib.atoiAll s.data.toList with v | _ | _
  rotate_left
  · skip
    rw [ha] at hq
    obtain ⟨v, N, rfl⟩ := hq
    have HN := Lib.hid (HNO.out w2.drew (by unfold numM; rw [ha]) HB2.out.drew)
    clear ha
    go_wp2_with fail
    refine wp_region_held_drew (S := (fun X => X.cell? ⟨w.heap.size, 0, none⟩ = some (.string s) ∧ Met X ∧ Below w.heap.size w X ∧ X.cell? ⟨w.heap.size, 1, none⟩ = some (.int .i64 at_))) (by kernel_rfl) (HS0.out) (fun hHeld => ?_)
    try dsimp only [List.size_toArray, List.length_cons, List.length_nil]
    refine takeL (i := 0) rfl (v := ?vz1) (by kernel_rfl) (by kernel_rfl) (by kernel_rfl) (fun _ _ _ h => h) (Or.inl ⟨by rfl, fun _w _hSw => ?hyz1⟩) (by assumption) ?restz1
    case hyz1 =>
      (try dsimp only at _hSw)
      go_simp
      try with_reducible rfl
    try simp only [Act.put, List.setIfInBounds_toArray, List.set_cons_zero, List.set_cons_succ]
    refine takeL (i := 1) rfl (v := ?vz2) (by kernel_rfl) (by kernel_rfl) (by kernel_rfl) (fun _ _ _ h => h) (Or.inl ⟨by rfl, fun _w _hSw => ?hyz2⟩) (by assumption) ?restz2
    case hyz2 =>
      (try dsimp only at _hSw)
      go_simp
      try with_reducible rfl
    try simp only [Act.put, List.setIfInBounds_toArray, List.set_cons_zero, List.set_cons_succ]
    refine takeL (i := 2) rfl (v := ?vz3) (by kernel_rfl) (by kernel_rfl) (by kernel_rfl) (fun _ _ _ h => h) (Or.inl ⟨by rfl, fun _w _hSw => ?hyz3⟩) (by assumption) ?restz3
    case hyz3 =>
      (try dsimp only at _hSw)
      go_simp
      try with_reducible rfl
    try simp only [Act.put, List.setIfInBounds_toArray, List.set_cons_zero, List.set_cons_succ]
    refine takeL (i := 3) rfl (v := undef) (by kernel_rfl) (by kernel_rfl) (by kernel_rfl) (fun _ _ _ h => h) (Or.inr ⟨by rfl, rfl⟩) (by assumption) ?_
    try simp only [Act.put, List.setIfInBounds_toArray, List.set_cons_zero, List.set_cons_succ]
    refine takeL (i := 4) rfl (v := undef) (by kernel_rfl) (by kernel_rfl) (by kernel_rfl) (fun _ _ _ h => h) (Or.inr ⟨by rfl, rfl⟩) (by assumption) ?_
    try simp only [Act.put, List.setIfInBounds_toArray, List.set_cons_zero, List.set_cons_succ]
    refine takeL (i := 5) rfl (v := undef) (by kernel_rfl) (by kernel_rfl) (by kernel_rfl) (fun _ _ _ h => h) (Or.inr ⟨by rfl, rfl⟩) (by assumption) ?_
    try simp only [Act.put, List.setIfInBounds_toArray, List.set_cons_zero, List.set_cons_succ]
    refine takeL (i := 6) rfl (v := undef) (by kernel_rfl) (by kernel_rfl) (by kernel_rfl) (fun _ _ _ h => h) (Or.inr ⟨by rfl, rfl⟩) (by assumption) ?_
    try simp only [Act.put, List.setIfInBounds_toArray, List.set_cons_zero, List.set_cons_succ]
    refine takeL (i := 7) rfl (v := ?vz4) (by kernel_rfl) (by kernel_rfl) (by kernel_rfl) (fun _ _ _ h => h) (Or.inl ⟨by rfl, fun _w _hSw => ?hyz4⟩) (by assumption) ?restz4
    case hyz4 =>
      (try dsimp only at _hSw)
      go_simp
      try with_reducible rfl
    try simp only [Act.put, List.setIfInBounds_toArray, List.set_cons_zero, List.set_cons_succ]
    refine takeL (i := 8) rfl (v := ?vz5) (by kernel_rfl) (by kernel_rfl) (by kernel_rfl) (fun _ _ _ h => h) (Or.inl ⟨by rfl, fun _w _hSw => ?hyz5⟩) (by assumption) ?restz5
    case hyz5 =>
      (try dsimp only at _hSw)
      go_simp
      try with_reducible rfl
    try simp only [Act.put, List.setIfInBounds_toArray, List.set_cons_zero, List.set_cons_succ]
    refine takeL (i := 9) rfl (v := undef) (by kernel_rfl) (by kernel_rfl) (by kernel_rfl) (fun _ _ _ h => h) (Or.inr ⟨by rfl, rfl⟩) (by assumption) ?_
    try simp only [Act.put, List.setIfInBounds_toArray, List.set_cons_zero, List.set_cons_succ]
    refine takeL (i := 10) rfl (v := undef) (by kernel_rfl) (by kernel_rfl) (by kernel_rfl) (fun _ _ _ h => h) (Or.inr ⟨by rfl, rfl⟩) (by assumption) ?_
    try simp only [Act.put, List.setIfInBounds_toArray, List.set_cons_zero, List.set_cons_succ]
    refine takeL (i := 11) rfl (v := undef) (by kernel_rfl) (by kernel_rfl) (by kernel_rfl) (fun _ _ _ h => h) (Or.inr ⟨by rfl, rfl⟩) (by assumption) ?_
    try simp only [Act.put, List.setIfInBounds_toArray, List.set_cons_zero, List.set_cons_succ]
    refine takeL (i := 12) rfl (v := undef) (by kernel_rfl) (by kernel_rfl) (by kernel_rfl) (fun _ _ _ h => h) (Or.inr ⟨by rfl, rfl⟩) (by assumption) ?_
    try simp only [Act.put, List.setIfInBounds_toArray, List.set_cons_zero, List.set_cons_succ]
    refine takeL (i := 13) rfl (v := undef) (by kernel_rfl) (by kernel_rfl) (by kernel_rfl) (fun _ _ _ h => h) (Or.inr ⟨by rfl, rfl⟩) (by assumption) ?_
    try simp only [Act.put, List.setIfInBounds_toArray, List.set_cons_zero, List.set_cons_succ]
    refine takeL (i := 14) rfl (v := ?vz6) (by kernel_rfl) (by kernel_rfl) (by kernel_rfl) (fun _ _ _ h => h) (Or.inl ⟨by rfl, fun _w _hSw => ?hyz6⟩) (by assumption) ?restz6
    case hyz6 =>
      (try dsimp only at _hSw)
      go_simp
      try with_reducible rfl
    try simp only [Act.put, List.setIfInBounds_toArray, List.set_cons_zero, List.set_cons_succ]
    refine takeL (i := 15) rfl (v := ?vz7) (by kernel_rfl) (by kernel_rfl) (by kernel_rfl) (fun _ _ _ h => h) (Or.inl ⟨by rfl, fun _w _hSw => ?hyz7⟩) (by assumption) ?restz7
    case hyz7 =>
      (try dsimp only at _hSw)
      go_simp
      try with_reducible rfl
    try simp only [Act.put, List.setIfInBounds_toArray, List.set_cons_zero, List.set_cons_succ]
    refine takeL (i := 16) rfl (v := undef) (by kernel_rfl) (by kernel_rfl) (by kernel_rfl) (fun _ _ _ h => h) (Or.inr ⟨by rfl, rfl⟩) (by assumption) ?_
    try simp only [Act.put, List.setIfInBounds_toArray, List.set_cons_zero, List.set_cons_succ]
    refine takeL (i := 17) rfl (v := undef) (by kernel_rfl) (by kernel_rfl) (by kernel_rfl) (fun _ _ _ h => h) (Or.inr ⟨by rfl, rfl⟩) (by assumption) ?_
    try simp only [Act.put, List.setIfInBounds_toArray, List.set_cons_zero, List.set_cons_succ]
    refine takeL (i := 18) rfl (v := undef) (by kernel_rfl) (by kernel_rfl) (by kernel_rfl) (fun _ _ _ h => h) (Or.inr ⟨by rfl, rfl⟩) (by assumption) ?_
    try simp only [Act.put, List.setIfInBounds_toArray, List.set_cons_zero, List.set_cons_succ]
    refine takeL (i := 19) rfl (v := undef) (by kernel_rfl) (by kernel_rfl) (by kernel_rfl) (fun _ _ _ h => h) (Or.inr ⟨by rfl, rfl⟩) (by assumption) ?_
    try simp only [Act.put, List.setIfInBounds_toArray, List.set_cons_zero, List.set_cons_succ]
    refine takeL (i := 20) rfl (v := ?vz8) (by kernel_rfl) (by kernel_rfl) (by kernel_rfl) (fun _ _ _ h => h) (Or.inl ⟨by rfl, fun _w _hSw => ?hyz8⟩) (by assumption) ?restz8
    case hyz8 =>
      (try dsimp only at _hSw)
      go_simp
      try with_reducible rfl
    try simp only [Act.put, List.setIfInBounds_toArray, List.set_cons_zero, List.set_cons_succ]
    refine takeL (i := 21) rfl (v := ?vz9) (by kernel_rfl) (by kernel_rfl) (by kernel_rfl) (fun _ _ _ h => h) (Or.inl ⟨by rfl, fun _w _hSw => ?hyz9⟩) (by assumption) ?restz9
    case hyz9 =>
      (try dsimp only at _hSw)
      go_simp
      try with_reducible rfl
    try simp only [Act.put, List.setIfInBounds_toArray, List.set_cons_zero, List.set_cons_succ]
    refine takeL (i := 22) rfl (v := undef) (by kernel_rfl) (by kernel_rfl) (by kernel_rfl) (fun _ _ _ h => h) (Or.inr ⟨by rfl, rfl⟩) (by assumption) ?_
    try simp only [Act.put, List.setIfInBounds_toArray, List.set_cons_zero, List.set_cons_succ]
    refine takeL (i := 23) rfl (v := undef) (by kernel_rfl) (by kernel_rfl) (by kernel_rfl) (fun _ _ _ h => h) (Or.inr ⟨by rfl, rfl⟩) (by assumption) ?_
    try simp only [Act.put, List.setIfInBounds_toArray, List.set_cons_zero, List.set_cons_succ]
    refine takeL (i := 24) rfl (v := undef) (by kernel_rfl) (by kernel_rfl) (by kernel_rfl) (fun _ _ _ h => h) (Or.inr ⟨by rfl, rfl⟩) (by assumption) ?_
    try simp only [Act.put, List.setIfInBounds_toArray, List.set_cons_zero, List.set_cons_succ]
    refine takeL (i := 25) rfl (v := ?vz10) (by kernel_rfl) (by kernel_rfl) (by kernel_rfl) (fun _ _ _ h => h) (Or.inl ⟨by rfl, fun _w _hSw => ?hyz10⟩) (by assumption) ?restz10
    case hyz10 =>
      (try dsimp only at _hSw)
      go_simp
      try with_reducible rfl
    try simp only [Act.put, List.setIfInBounds_toArray, List.set_cons_zero, List.set_cons_succ]
    refine wpAnyH_done (by kernel_rfl) ?_ _
    go_wp2_with (go_at_call 43; refine (lexFault _ _ _).mono ?_; rintro e w1 ⟨rfl, rfl⟩)
    exact HN.out
  · skip
    rw [ha] at hq
    obtain ⟨v, N, rfl⟩ := hq
    have HN := Lib.hid (HNO.out w2.drew (by unfold numM; rw [ha]) HB2.out.drew)
    clear ha
    go_wp2_with fail
    refine wp_region_held_drew (S := (fun X => X.cell? ⟨w.heap.size, 0, none⟩ = some (.string s) ∧ Met X ∧ Below w.heap.size w X ∧ X.cell? ⟨w.heap.size, 1, none⟩ = some (.int .i64 at_))) (by kernel_rfl) (HS0.out) (fun hHeld => ?_)
    try dsimp only [List.size_toArray, List.length_cons, List.length_nil]
    refine takeL (i := 0) rfl (v := ?vz11) (by kernel_rfl) (by kernel_rfl) (by kernel_rfl) (fun _ _ _ h => h) (Or.inl ⟨by rfl, fun _w _hSw => ?hyz11⟩) (by assumption) ?restz11
    case hyz11 =>
      (try dsimp only at _hSw)
      go_simp
      try with_reducible rfl
    try simp only [Act.put, List.setIfInBounds_toArray, List.set_cons_zero, List.set_cons_succ]
    refine takeL (i := 1) rfl (v := ?vz12) (by kernel_rfl) (by kernel_rfl) (by kernel_rfl) (fun _ _ _ h => h) (Or.inl ⟨by rfl, fun _w _hSw => ?hyz12⟩) (by assumption) ?restz12
    case hyz12 =>
      (try dsimp only at _hSw)
      go_simp
      try with_reducible rfl
    try simp only [Act.put, List.setIfInBounds_toArray, List.set_cons_zero, List.set_cons_succ]
    refine takeL (i := 2) rfl (v := ?vz13) (by kernel_rfl) (by kernel_rfl) (by kernel_rfl) (fun _ _ _ h => h) (Or.inl ⟨by rfl, fun _w _hSw => ?hyz13⟩) (by assumption) ?restz13
    case hyz13 =>
      (try dsimp only at _hSw)
      go_simp
      try with_reducible rfl
    try simp only [Act.put, List.setIfInBounds_toArray, List.set_cons_zero, List.set_cons_succ]
    refine takeL (i := 3) rfl (v := undef) (by kernel_rfl) (by kernel_rfl) (by kernel_rfl) (fun _ _ _ h => h) (Or.inr ⟨by rfl, rfl⟩) (by assumption) ?_
    try simp only [Act.put, List.setIfInBounds_toArray, List.set_cons_zero, List.set_cons_succ]
    refine takeL (i := 4) rfl (v := undef) (by kernel_rfl) (by kernel_rfl) (by kernel_rfl) (fun _ _ _ h => h) (Or.inr ⟨by rfl, rfl⟩) (by assumption) ?_
    try simp only [Act.put, List.setIfInBounds_toArray, List.set_cons_zero, List.set_cons_succ]
    refine takeL (i := 5) rfl (v := undef) (by kernel_rfl) (by kernel_rfl) (by kernel_rfl) (fun _ _ _ h => h) (Or.inr ⟨by rfl, rfl⟩) (by assumption) ?_
    try simp only [Act.put, List.setIfInBounds_toArray, List.set_cons_zero, List.set_cons_succ]
    refine takeL (i := 6) rfl (v := undef) (by kernel_rfl) (by kernel_rfl) (by kernel_rfl) (fun _ _ _ h => h) (Or.inr ⟨by rfl, rfl⟩) (by assumption) ?_
    try simp only [Act.put, List.setIfInBounds_toArray, List.set_cons_zero, List.set_cons_succ]
    refine takeL (i := 7) rfl (v := ?vz14) (by kernel_rfl) (by kernel_rfl) (by kernel_rfl) (fun _ _ _ h => h) (Or.inl ⟨by rfl, fun _w _hSw => ?hyz14⟩) (by assumption) ?restz14
    case hyz14 =>
      (try dsimp only at _hSw)
      go_simp
      try with_reducible rfl
    try simp only [Act.put, List.setIfInBounds_toArray, List.set_cons_zero, List.set_cons_succ]
    refine takeL (i := 8) rfl (v := ?vz15) (by kernel_rfl) (by kernel_rfl) (by kernel_rfl) (fun _ _ _ h => h) (Or.inl ⟨by rfl, fun _w _hSw => ?hyz15⟩) (by assumption) ?restz15
    case hyz15 =>
      (try dsimp only at _hSw)
      go_simp
      try with_reducible rfl
    try simp only [Act.put, List.setIfInBounds_toArray, List.set_cons_zero, List.set_cons_succ]
    refine takeL (i := 9) rfl (v := undef) (by kernel_rfl) (by kernel_rfl) (by kernel_rfl) (fun _ _ _ h => h) (Or.inr ⟨by rfl, rfl⟩) (by assumption) ?_
    try simp only [Act.put, List.setIfInBounds_toArray, List.set_cons_zero, List.set_cons_succ]
    refine takeL (i := 10) rfl (v := undef) (by kernel_rfl) (by kernel_rfl) (by kernel_rfl) (fun _ _ _ h => h) (Or.inr ⟨by rfl, rfl⟩) (by assumption) ?_
    try simp only [Act.put, List.setIfInBounds_toArray, List.set_cons_zero, List.set_cons_succ]
    refine takeL (i := 11) rfl (v := undef) (by kernel_rfl) (by kernel_rfl) (by kernel_rfl) (fun _ _ _ h => h) (Or.inr ⟨by rfl, rfl⟩) (by assumption) ?_
    try simp only [Act.put, List.setIfInBounds_toArray, List.set_cons_zero, List.set_cons_succ]
    refine takeL (i := 12) rfl (v := undef) (by kernel_rfl) (by kernel_rfl) (by kernel_rfl) (fun _ _ _ h => h) (Or.inr ⟨by rfl, rfl⟩) (by assumption) ?_
    try simp only [Act.put, List.setIfInBounds_toArray, List.set_cons_zero, List.set_cons_succ]
    refine takeL (i := 13) rfl (v := undef) (by kernel_rfl) (by kernel_rfl) (by kernel_rfl) (fun _ _ _ h => h) (Or.inr ⟨by rfl, rfl⟩) (by assumption) ?_
    try simp only [Act.put, List.setIfInBounds_toArray, List.set_cons_zero, List.set_cons_succ]
    refine takeL (i := 14) rfl (v := ?vz16) (by kernel_rfl) (by kernel_rfl) (by kernel_rfl) (fun _ _ _ h => h) (Or.inl ⟨by rfl, fun _w _hSw => ?hyz16⟩) (by assumption) ?restz16
    case hyz16 =>
      (try dsimp only at _hSw)
      go_simp
      try with_reducible rfl
    try simp only [Act.put, List.setIfInBounds_toArray, List.set_cons_zero, List.set_cons_succ]
    refine takeL (i := 15) rfl (v := ?vz17) (by kernel_rfl) (by kernel_rfl) (by kernel_rfl) (fun _ _ _ h => h) (Or.inl ⟨by rfl, fun _w _hSw => ?hyz17⟩) (by assumption) ?restz17
    case hyz17 =>
      (try dsimp only at _hSw)
      go_simp
      try with_reducible rfl
    try simp only [Act.put, List.setIfInBounds_toArray, List.set_cons_zero, List.set_cons_succ]
    refine takeL (i := 16) rfl (v := undef) (by kernel_rfl) (by kernel_rfl) (by kernel_rfl) (fun _ _ _ h => h) (Or.inr ⟨by rfl, rfl⟩) (by assumption) ?_
    try simp only [Act.put, List.setIfInBounds_toArray, List.set_cons_zero, List.set_cons_succ]
    refine takeL (i := 17) rfl (v := undef) (by kernel_rfl) (by kernel_rfl) (by kernel_rfl) (fun _ _ _ h => h) (Or.inr ⟨by rfl, rfl⟩) (by assumption) ?_
    try simp only [Act.put, List.setIfInBounds_toArray, List.set_cons_zero, List.set_cons_succ]
    refine takeL (i := 18) rfl (v := undef) (by kernel_rfl) (by kernel_rfl) (by kernel_rfl) (fun _ _ _ h => h) (Or.inr ⟨by rfl, rfl⟩) (by assumption) ?_
    try simp only [Act.put, List.setIfInBounds_toArray, List.set_cons_zero, List.set_cons_succ]
    refine takeL (i := 19) rfl (v := undef) (by kernel_rfl) (by kernel_rfl) (by kernel_rfl) (fun _ _ _ h => h) (Or.inr ⟨by rfl, rfl⟩) (by assumption) ?_
    try simp only [Act.put, List.setIfInBounds_toArray, List.set_cons_zero, List.set_cons_succ]
    refine takeL (i := 20) rfl (v := ?vz18) (by kernel_rfl) (by kernel_rfl) (by kernel_rfl) (fun _ _ _ h => h) (Or.inl ⟨by rfl, fun _w _hSw => ?hyz18⟩) (by assumption) ?restz18
    case hyz18 =>
      (try dsimp only at _hSw)
      go_simp
      try with_reducible rfl
    try simp only [Act.put, List.setIfInBounds_toArray, List.set_cons_zero, List.set_cons_succ]
    refine takeL (i := 21) rfl (v := ?vz19) (by kernel_rfl) (by kernel_rfl) (by kernel_rfl) (fun _ _ _ h => h) (Or.inl ⟨by rfl, fun _w _hSw => ?hyz19⟩) (by assumption) ?restz19
    case hyz19 =>
      (try dsimp only at _hSw)
      go_simp
      try with_reducible rfl
    try simp only [Act.put, List.setIfInBounds_toArray, List.set_cons_zero, List.set_cons_succ]
    refine takeL (i := 22) rfl (v := undef) (by kernel_rfl) (by kernel_rfl) (by kernel_rfl) (fun _ _ _ h => h) (Or.inr ⟨by rfl, rfl⟩) (by assumption) ?_
    try simp only [Act.put, List.setIfInBounds_toArray, List.set_cons_zero, List.set_cons_succ]
    refine takeL (i := 23) rfl (v := undef) (by kernel_rfl) (by kernel_rfl) (by kernel_rfl) (fun _ _ _ h => h) (Or.inr ⟨by rfl, rfl⟩) (by assumption) ?_
    try simp only [Act.put, List.setIfInBounds_toArray, List.set_cons_zero, List.set_cons_succ]
    refine takeL (i := 24) rfl (v := undef) (by kernel_rfl) (by kernel_rfl) (by kernel_rfl) (fun _ _ _ h => h) (Or.inr ⟨by rfl, rfl⟩) (by assumption) ?_
    try simp only [Act.put, List.setIfInBounds_toArray, List.set_cons_zero, List.set_cons_succ]
    refine takeL (i := 25) rfl (v := ?vz20) (by kernel_rfl) (by kernel_rfl) (by kernel_rfl) (fun _ _ _ h => h) (Or.inl ⟨by rfl, fun _w _hSw => ?hyz20⟩) (by assumption) ?restz20
    case hyz20 =>
      (try dsimp only at _hSw)
      go_simp
      try with_reducible rfl
    try simp only [Act.put, List.setIfInBounds_toArray, List.set_cons_zero, List.set_cons_succ]
    refine wpAnyH_done (by kernel_rfl) ?_ _
    go_wp2_with (go_at_call 43; refine (lexFault _ _ _).mono ?_; rintro e w1 ⟨rfl, rfl⟩)
    exact HN.out
  · skip
    rw [ha] at hq
    subst hq
    have hv := Lib.atoiAll_bounds ha
    have HIT := Lib.hid (fun (X : World) (h : X.cell? ⟨w.heap.size, 0, none⟩ = some (.string s) ∧ Met X ∧ Below w.heap.size w X ∧ X.cell? ⟨w.heap.size, 1, none⟩ = some (.int .i64 at_)) => itoaC v hv X h.2.1)
    have hnm : numM s lo hi = if s.size ≤ 9 ∧ Lib.itoa v = s.data.toList ∧ max lo 0 ≤ v ∧ v ≤ hi then some v else none := by unfold numM; rw [ha]
    have HNM := Lib.hid hnm
    clear ha hv hnm
    cases t1 : decide ((9 : Int) < (s.size : Int)) with
    | true =>
      have HN := Lib.hid (HNO.out w2.drew (by rw [HNM.out, if_neg (fun h => by have := of_decide_eq_true t1; omega)]) HB2.out.drew)
      go_wp2_with fail
      refine wp_region_held_drew (S := (fun X => X.cell? ⟨w.heap.size, 0, none⟩ = some (.string s) ∧ Met X ∧ Below w.heap.size w X ∧ X.cell? ⟨w.heap.size, 1, none⟩ = some (.int .i64 at_))) (by kernel_rfl) (HS0.out) (fun hHeld => ?_)
      try dsimp only [List.size_toArray, List.length_cons, List.length_nil]
      refine takeL (i := 0) rfl (v := ?vz21) (by kernel_rfl) (by kernel_rfl) (by kernel_rfl) (fun _ _ _ h => h) (Or.inl ⟨by rfl, fun _w _hSw => ?hyz21⟩) (by assumption) ?restz21
      case hyz21 =>
        (try dsimp only at _hSw)
        go_simp
        try with_reducible rfl
      try simp only [Act.put, List.setIfInBounds_toArray, List.set_cons_zero, List.set_cons_succ]
      refine takeL (i := 1) rfl (v := ?vz22) (by kernel_rfl) (by kernel_rfl) (by kernel_rfl) (fun _ _ _ h => h) (Or.inl ⟨by rfl, fun _w _hSw => ?hyz22⟩) (by assumption) ?restz22
      case hyz22 =>
        (try dsimp only at _hSw)
        go_simp
        try with_reducible rfl
      try simp only [Act.put, List.setIfInBounds_toArray, List.set_cons_zero, List.set_cons_succ]
      refine takeL (i := 2) rfl (v := ?vz23) (by kernel_rfl) (by kernel_rfl) (by kernel_rfl) (fun _ _ _ h => h) (Or.inl ⟨by rfl, fun _w _hSw => ?hyz23⟩) (by assumption) ?restz23
      case hyz23 =>
        (try dsimp only at _hSw)
        go_simp
        try with_reducible rfl
      try simp only [Act.put, List.setIfInBounds_toArray, List.set_cons_zero, List.set_cons_succ]
      refine takeL (i := 3) rfl (v := ?vz24) (by kernel_rfl) (by kernel_rfl) (by kernel_rfl) (fun _ _ _ h => h) (Or.inl ⟨by rfl, fun _w _hSw => ?hyz24⟩) (by assumption) ?restz24
      case hyz24 =>
        (try dsimp only at _hSw)
        go_simp
        try with_reducible rfl
      try simp only [Act.put, List.setIfInBounds_toArray, List.set_cons_zero, List.set_cons_succ]
      refine takeL (i := 4) rfl (v := ?vz25) (by kernel_rfl) (by kernel_rfl) (by kernel_rfl) (fun _ _ _ h => h) (Or.inl ⟨by rfl, fun _w _hSw => ?hyz25⟩) (by assumption) ?restz25
      case hyz25 =>
        (try dsimp only at _hSw)
        go_simp
        try with_reducible rfl
      try simp only [Act.put, List.setIfInBounds_toArray, List.set_cons_zero, List.set_cons_succ]
      refine takeL (i := 5) rfl (v := ?vz26) (by kernel_rfl) (by kernel_rfl) (by kernel_rfl) (fun _ _ _ h => h) (Or.inl ⟨by rfl, fun _w _hSw => ?hyz26⟩) (by assumption) ?restz26
      case hyz26 =>
        (try dsimp only at _hSw)
        go_simp
        try with_reducible rfl
      try simp only [Act.put, List.setIfInBounds_toArray, List.set_cons_zero, List.set_cons_succ]
      refine takeL (i := 6) rfl (v := ?vz27) (by kernel_rfl) (by kernel_rfl) (by kernel_rfl) (fun _ _ _ h => h) (Or.inl ⟨by rfl, fun _w _hSw => ?hyz27⟩) (by assumption) ?restz27
      case hyz27 =>
        (try dsimp only at _hSw)
        go_simp
        try with_reducible rfl
      try simp only [Act.put, List.setIfInBounds_toArray, List.set_cons_zero, List.set_cons_succ]
      refine takeL (i := 7) rfl (v := ?vz28) (by kernel_rfl) (by kernel_rfl) (by kernel_rfl) (fun _ _ _ h => h) (Or.inl ⟨by rfl, fun _w _hSw => ?hyz28⟩) (by assumption) ?restz28
      case hyz28 =>
        (try dsimp only at _hSw)
        go_simp
        try with_reducible rfl
      try simp only [Act.put, List.setIfInBounds_toArray, List.set_cons_zero, List.set_cons_succ]
      refine takeL (i := 8) rfl (v := ?vz29) (by kernel_rfl) (by kernel_rfl) (by kernel_rfl) (fun _ _ _ h => h) (Or.inl ⟨by rfl, fun _w _hSw => ?hyz29⟩) (by assumption) ?restz29
      case hyz29 =>
        (try dsimp only at _hSw)
        go_simp
        try with_reducible rfl
      try simp only [Act.put, List.setIfInBounds_toArray, List.set_cons_zero, List.set_cons_succ]
      refine takeL (i := 9) rfl (v := undef) (by kernel_rfl) (by kernel_rfl) (by kernel_rfl) (fun _ _ _ h => h) (Or.inr ⟨by rfl, rfl⟩) (by assumption) ?_
      try simp only [Act.put, List.setIfInBounds_toArray, List.set_cons_zero, List.set_cons_succ]
      refine takeL (i := 10) rfl (v := undef) (by kernel_rfl) (by kernel_rfl) (by kernel_rfl) (fun _ _ _ h => h) (Or.inr ⟨by rfl, rfl⟩) (by assumption) ?_
      try simp only [Act.put, List.setIfInBounds_toArray, List.set_cons_zero, List.set_cons_succ]
      refine takeL (i := 11) rfl (v := undef) (by kernel_rfl) (by kernel_rfl) (by kernel_rfl) (fun _ _ _ h => h) (Or.inr ⟨by rfl, rfl⟩) (by assumption) ?_
      try simp only [Act.put, List.setIfInBounds_toArray, List.set_cons_zero, List.set_cons_succ]
      refine takeL (i := 12) rfl (v := undef) (by kernel_rfl) (by kernel_rfl) (by kernel_rfl) (fun _ _ _ h => h) (Or.inr ⟨by rfl, rfl⟩) (by assumption) ?_
      try simp only [Act.put, List.setIfInBounds_toArray, List.set_cons_zero, List.set_cons_succ]
      refine takeL (i := 13) rfl (v := undef) (by kernel_rfl) (by kernel_rfl) (by kernel_rfl) (fun _ _ _ h => h) (Or.inr ⟨by rfl, rfl⟩) (by assumption) ?_
      try simp only [Act.put, List.setIfInBounds_toArray, List.set_cons_zero, List.set_cons_succ]
      refine takeL (i := 14) rfl (v := ?vz30) (by kernel_rfl) (by kernel_rfl) (by kernel_rfl) (fun _ _ _ h => h) (Or.inl ⟨by rfl, fun _w _hSw => ?hyz30⟩) (by assumption) ?restz30
      case hyz30 =>
        (try dsimp only at _hSw)
        go_simp
        try with_reducible rfl
      try simp only [Act.put, List.setIfInBounds_toArray, List.set_cons_zero, List.set_cons_succ]
      refine takeL (i := 15) rfl (v := ?vz31) (by kernel_rfl) (by kernel_rfl) (by kernel_rfl) (fun _ _ _ h => h) (Or.inl ⟨by rfl, fun _w _hSw => ?hyz31⟩) (by assumption) ?restz31
      case hyz31 =>
        (try dsimp only at _hSw)
        go_simp
        try with_reducible rfl
      try simp only [Act.put, List.setIfInBounds_toArray, List.set_cons_zero, List.set_cons_succ]
      refine takeL (i := 16) rfl (v := undef) (by kernel_rfl) (by kernel_rfl) (by kernel_rfl) (fun _ _ _ h => h) (Or.inr ⟨by rfl, rfl⟩) (by assumption) ?_
      try simp only [Act.put, List.setIfInBounds_toArray, List.set_cons_zero, List.set_cons_succ]
      refine takeL (i := 17) rfl (v := undef) (by kernel_rfl) (by kernel_rfl) (by kernel_rfl) (fun _ _ _ h => h) (Or.inr ⟨by rfl, rfl⟩) (by assumption) ?_
      try simp only [Act.put, List.setIfInBounds_toArray, List.set_cons_zero, List.set_cons_succ]
      refine takeL (i := 18) rfl (v := undef) (by kernel_rfl) (by kernel_rfl) (by kernel_rfl) (fun _ _ _ h => h) (Or.inr ⟨by rfl, rfl⟩) (by assumption) ?_
      try simp only [Act.put, List.setIfInBounds_toArray, List.set_cons_zero, List.set_cons_succ]
      refine takeL (i := 19) rfl (v := undef) (by kernel_rfl) (by kernel_rfl) (by kernel_rfl) (fun _ _ _ h => h) (Or.inr ⟨by rfl, rfl⟩) (by assumption) ?_
      try simp only [Act.put, List.setIfInBounds_toArray, List.set_cons_zero, List.set_cons_succ]
      refine takeL (i := 20) rfl (v := ?vz32) (by kernel_rfl) (by kernel_rfl) (by kernel_rfl) (fun _ _ _ h => h) (Or.inl ⟨by rfl, fun _w _hSw => ?hyz32⟩) (by assumption) ?restz32
      case hyz32 =>
        (try dsimp only at _hSw)
        go_simp
        try with_reducible rfl
      try simp only [Act.put, List.setIfInBounds_toArray, List.set_cons_zero, List.set_cons_succ]
      refine takeL (i := 21) rfl (v := ?vz33) (by kernel_rfl) (by kernel_rfl) (by kernel_rfl) (fun _ _ _ h => h) (Or.inl ⟨by rfl, fun _w _hSw => ?hyz33⟩) (by assumption) ?restz33
      case hyz33 =>
        (try dsimp only at _hSw)
        go_simp
        try with_reducible rfl
      try simp only [Act.put, List.setIfInBounds_toArray, List.set_cons_zero, List.set_cons_succ]
      refine takeL (i := 22) rfl (v := undef) (by kernel_rfl) (by kernel_rfl) (by kernel_rfl) (fun _ _ _ h => h) (Or.inr ⟨by rfl, rfl⟩) (by assumption) ?_
      try simp only [Act.put, List.setIfInBounds_toArray, List.set_cons_zero, List.set_cons_succ]
      refine takeL (i := 23) rfl (v := undef) (by kernel_rfl) (by kernel_rfl) (by kernel_rfl) (fun _ _ _ h => h) (Or.inr ⟨by rfl, rfl⟩) (by assumption) ?_
      try simp only [Act.put, List.setIfInBounds_toArray, List.set_cons_zero, List.set_cons_succ]
      refine takeL (i := 24) rfl (v := undef) (by kernel_rfl) (by kernel_rfl) (by kernel_rfl) (fun _ _ _ h => h) (Or.inr ⟨by rfl, rfl⟩) (by assumption) ?_
      try simp only [Act.put, List.setIfInBounds_toArray, List.set_cons_zero, List.set_cons_succ]
      refine takeL (i := 25) rfl (v := ?vz34) (by kernel_rfl) (by kernel_rfl) (by kernel_rfl) (fun _ _ _ h => h) (Or.inl ⟨by rfl, fun _w _hSw => ?hyz34⟩) (by assumption) ?restz34
      case hyz34 =>
        (try dsimp only at _hSw)
        go_simp
        try with_reducible rfl
      try simp only [Act.put, List.setIfInBounds_toArray, List.set_cons_zero, List.set_cons_succ]
      refine wpAnyH_done (by kernel_rfl) ?_ _
      go_wp2_with (go_at_call 43; refine (lexFault _ _ _).mono ?_; rintro e w1 ⟨rfl, rfl⟩)
      exact HN.out
    | false =>
      have hl9 : s.size ≤ 9 := by have := of_decide_eq_false t1; omega
      have HL9 := Lib.hid hl9
      clear hl9
      by_cases he : Lib.itoa v = s.data.toList
      · have hes : (⟨(Lib.itoa v).toArray⟩ : ByteArray) = s := by rw [he]
        have HHE := Lib.hid he
        rw [hes] at HIT
        clear hes he
        cases t2 : decide (v < max lo 0) with
        | true =>
          have HN := Lib.hid (show numM s lo hi = none by rw [HNM.out, if_neg (fun h => by have := of_decide_eq_true t2; omega)])
          go_wp2_with fail
          refine wp_region_held_drew (S := (fun X => X.cell? ⟨w.heap.size, 0, none⟩ = some (.string s) ∧ Met X ∧ Below w.heap.size w X ∧ X.cell? ⟨w.heap.size, 1, none⟩ = some (.int .i64 at_))) (by kernel_rfl) (HS0.out) (fun hHeld => ?_)
          try dsimp only [List.size_toArray, List.length_cons, List.length_nil]
          refine takeL (i := 0) rfl (v := ?vz35) (by kernel_rfl) (by kernel_rfl) (by kernel_rfl) (fun _ _ _ h => h) (Or.inl ⟨by rfl, fun _w _hSw => ?hyz35⟩) (by assumption) ?restz35
          case hyz35 =>
            (try dsimp only at _hSw)
            go_simp
            try with_reducible rfl
          try simp only [Act.put, List.setIfInBounds_toArray, List.set_cons_zero, List.set_cons_succ]
          refine takeL (i := 1) rfl (v := ?vz36) (by kernel_rfl) (by kernel_rfl) (by kernel_rfl) (fun _ _ _ h => h) (Or.inl ⟨by rfl, fun _w _hSw => ?hyz36⟩) (by assumption) ?restz36
          case hyz36 =>
            (try dsimp only at _hSw)
            go_simp
            try with_reducible rfl
          try simp only [Act.put, List.setIfInBounds_toArray, List.set_cons_zero, List.set_cons_succ]
          refine takeL (i := 2) rfl (v := ?vz37) (by kernel_rfl) (by kernel_rfl) (by kernel_rfl) (fun _ _ _ h => h) (Or.inl ⟨by rfl, fun _w _hSw => ?hyz37⟩) (by assumption) ?restz37
          case hyz37 =>
            (try dsimp only at _hSw)
            go_simp
            try with_reducible rfl
          try simp only [Act.put, List.setIfInBounds_toArray, List.set_cons_zero, List.set_cons_succ]
          refine takeL (i := 3) rfl (v := ?vz38) (by kernel_rfl) (by kernel_rfl) (by kernel_rfl) (fun _ _ _ h => h) (Or.inl ⟨by rfl, fun _w _hSw => ?hyz38⟩) (by assumption) ?restz38
          case hyz38 =>
            (try dsimp only at _hSw)
            go_simp
            try with_reducible rfl
          try simp only [Act.put, List.setIfInBounds_toArray, List.set_cons_zero, List.set_cons_succ]
          refine takeL (i := 4) rfl (v := ?vz39) (by kernel_rfl) (by kernel_rfl) (by kernel_rfl) (fun _ _ _ h => h) (Or.inl ⟨by rfl, fun _w _hSw => ?hyz39⟩) (by assumption) ?restz39
          case hyz39 =>
            (try dsimp only at _hSw)
            go_simp
            try with_reducible rfl
          try simp only [Act.put, List.setIfInBounds_toArray, List.set_cons_zero, List.set_cons_succ]
          refine takeL (i := 5) rfl (v := ?vz40) (by kernel_rfl) (by kernel_rfl) (by kernel_rfl) (fun _ _ _ h => h) (Or.inl ⟨by rfl, fun _w _hSw => ?hyz40⟩) (by assumption) ?restz40
          case hyz40 =>
            (try dsimp only at _hSw)
            go_simp
            try with_reducible rfl
          try simp only [Act.put, List.setIfInBounds_toArray, List.set_cons_zero, List.set_cons_succ]
          refine takeL (i := 6) rfl (v := ?vz41) (by kernel_rfl) (by kernel_rfl) (by kernel_rfl) (fun _ _ _ h => h) (Or.inl ⟨by rfl, fun _w _hSw => ?hyz41⟩) (by assumption) ?restz41
          case hyz41 =>
            (try dsimp only at _hSw)
            go_simp
            try with_reducible rfl
          try simp only [Act.put, List.setIfInBounds_toArray, List.set_cons_zero, List.set_cons_succ]
          refine takeL (i := 7) rfl (v := ?vz42) (by kernel_rfl) (by kernel_rfl) (by kernel_rfl) (fun _ _ _ h => h) (Or.inl ⟨by rfl, fun _w _hSw => ?hyz42⟩) (by assumption) ?restz42
          case hyz42 =>
            (try dsimp only at _hSw)
            go_simp
            try with_reducible rfl
          try simp only [Act.put, List.setIfInBounds_toArray, List.set_cons_zero, List.set_cons_succ]
          refine takeL (i := 8) rfl (v := ?vz43) (by kernel_rfl) (by kernel_rfl) (by kernel_rfl) (fun _ _ _ h => h) (Or.inl ⟨by rfl, fun _w _hSw => ?hyz43⟩) (by assumption) ?restz43
          case hyz43 =>
            (try dsimp only at _hSw)
            go_simp
            try with_reducible rfl
          try simp only [Act.put, List.setIfInBounds_toArray, List.set_cons_zero, List.set_cons_succ]
          refine takeL (i := 9) rfl (v := ?vz44) (by kernel_rfl) (by kernel_rfl) (by kernel_rfl) (fun _ _ _ h => h) (Or.inl ⟨by rfl, fun _w _hSw => ?hyz44⟩) (by assumption) ?restz44
          case hyz44 =>
            (try dsimp only at _hSw)
            go_simp
            try with_reducible rfl
          try simp only [Act.put, List.setIfInBounds_toArray, List.set_cons_zero, List.set_cons_succ]
          refine takeL (i := 11) rfl (v := ?vz45) (by kernel_rfl) (by kernel_rfl) (by kernel_rfl) (fun _ _ _ h => h) (Or.inl ⟨by rfl, fun _w _hSw => ?hyz45⟩) (by assumption) ?restz45
          case hyz45 =>
            (try dsimp only at _hSw)
            go_simp
            try with_reducible rfl
          try simp only [Act.put, List.setIfInBounds_toArray, List.set_cons_zero, List.set_cons_succ]
          refine takeL (i := 12) rfl (v := ?vz46) (by kernel_rfl) (by kernel_rfl) (by kernel_rfl) (fun _ _ _ h => h) (Or.inl ⟨by rfl, fun _w _hSw => ?hyz46⟩) (by assumption) ?restz46
          case hyz46 =>
            (try dsimp only at _hSw)
            go_simp
            try with_reducible rfl
          try simp only [Act.put, List.setIfInBounds_toArray, List.set_cons_zero, List.set_cons_succ]
          refine wpAnyH_ready (rs := [10]) (by kernel_rfl) (by simp) (readyL rfl (fun K1 hK => ?_) AllReadyH.nil)
          go_simp
          with_reducible refine (HIT.out _ ‹_›).mono ?_
          rintro e w5 ⟨rfl, hb5⟩
          have hS5 := HSB.out _ _ ‹_› hb5
          have HS5 := Lib.hid hS5
          have hd5 := hb5.size
          try dsimp only
          refine hK.out _ _ hS5 (fun hHeld => ?_)
          clear hK K1
          try simp only [Act.put, List.setIfInBounds_toArray, List.set_cons_zero, List.set_cons_succ]
          refine takeL (i := 13) rfl (v := ?vz47) (by kernel_rfl) (by kernel_rfl) (by kernel_rfl) (fun _ _ _ h => h) (Or.inl ⟨by rfl, fun _w _hSw => ?hyz47⟩) (by assumption) ?restz47
          case hyz47 =>
            (try dsimp only at _hSw)
            go_simp
            try with_reducible rfl
          try simp only [Act.put, List.setIfInBounds_toArray, List.set_cons_zero, List.set_cons_succ]
          refine takeL (i := 14) rfl (v := ?vz48) (by kernel_rfl) (by kernel_rfl) (by kernel_rfl) (fun _ _ _ h => h) (Or.inl ⟨by rfl, fun _w _hSw => ?hyz48⟩) (by assumption) ?restz48
          case hyz48 =>
            (try dsimp only at _hSw)
            go_simp
            try with_reducible rfl
          try simp only [Act.put, List.setIfInBounds_toArray, List.set_cons_zero, List.set_cons_succ]
          refine takeL (i := 15) rfl (v := ?vz49) (by kernel_rfl) (by kernel_rfl) (by kernel_rfl) (fun _ _ _ h => h) (Or.inl ⟨by rfl, fun _w _hSw => ?hyz49⟩) (by assumption) ?restz49
          case hyz49 =>
            (try dsimp only at _hSw)
            go_simp
            try with_reducible rfl
          try simp only [Act.put, List.setIfInBounds_toArray, List.set_cons_zero, List.set_cons_succ]
          refine takeL (i := 16) rfl (v := ?vz50) (by kernel_rfl) (by kernel_rfl) (by kernel_rfl) (fun _ _ _ h => h) (Or.inl ⟨by rfl, fun _w _hSw => ?hyz50⟩) (by assumption) ?restz50
          case hyz50 =>
            (try dsimp only at _hSw)
            go_simp
            try with_reducible rfl
          try simp only [Act.put, List.setIfInBounds_toArray, List.set_cons_zero, List.set_cons_succ]
          refine takeL (i := 17) rfl (v := ?vz51) (by kernel_rfl) (by kernel_rfl) (by kernel_rfl) (fun _ _ _ h => h) (Or.inl ⟨by rfl, fun _w _hSw => ?hyz51⟩) (by assumption) ?restz51
          case hyz51 =>
            (try dsimp only at _hSw)
            go_simp
            try with_reducible rfl
          try simp only [Act.put, List.setIfInBounds_toArray, List.set_cons_zero, List.set_cons_succ]
          refine takeL (i := 18) rfl (v := ?vz52) (by kernel_rfl) (by kernel_rfl) (by kernel_rfl) (fun _ _ _ h => h) (Or.inl ⟨by rfl, fun _w _hSw => ?hyz52⟩) (by assumption) ?restz52
          case hyz52 =>
            (try dsimp only at _hSw)
            go_simp
            try with_reducible rfl
          try simp only [Act.put, List.setIfInBounds_toArray, List.set_cons_zero, List.set_cons_succ]
          refine takeL (i := 19) rfl (v := ?vz53) (by kernel_rfl) (by kernel_rfl) (by kernel_rfl) (fun _ _ _ h => h) (Or.inl ⟨by rfl, fun _w _hSw => ?hyz53⟩) (by assumption) ?restz53
          case hyz53 =>
            (try dsimp only at _hSw)
            go_simp
            try with_reducible rfl
          try simp only [Act.put, List.setIfInBounds_toArray, List.set_cons_zero, List.set_cons_succ]
          refine takeL (i := 20) rfl (v := ?vz54) (by kernel_rfl) (by kernel_rfl) (by kernel_rfl) (fun _ _ _ h => h) (Or.inl ⟨by rfl, fun _w _hSw => ?hyz54⟩) (by assumption) ?restz54
          case hyz54 =>
            (try dsimp only at _hSw)
            go_simp
            try with_reducible rfl
          try simp only [Act.put, List.setIfInBounds_toArray, List.set_cons_zero, List.set_cons_succ]
          refine takeL (i := 21) rfl (v := ?vz55) (by kernel_rfl) (by kernel_rfl) (by kernel_rfl) (fun _ _ _ h => h) (Or.inl ⟨by rfl, fun _w _hSw => ?hyz55⟩) (by assumption) ?restz55
          case hyz55 =>
            (try dsimp only at _hSw)
            go_simp
            try with_reducible rfl
          try simp only [Act.put, List.setIfInBounds_toArray, List.set_cons_zero, List.set_cons_succ]
          refine takeL (i := 22) rfl (v := undef) (by kernel_rfl) (by kernel_rfl) (by kernel_rfl) (fun _ _ _ h => h) (Or.inr ⟨by rfl, rfl⟩) (by assumption) ?_
          try simp only [Act.put, List.setIfInBounds_toArray, List.set_cons_zero, List.set_cons_succ]
          refine takeL (i := 23) rfl (v := undef) (by kernel_rfl) (by kernel_rfl) (by kernel_rfl) (fun _ _ _ h => h) (Or.inr ⟨by rfl, rfl⟩) (by assumption) ?_
          try simp only [Act.put, List.setIfInBounds_toArray, List.set_cons_zero, List.set_cons_succ]
          refine takeL (i := 24) rfl (v := undef) (by kernel_rfl) (by kernel_rfl) (by kernel_rfl) (fun _ _ _ h => h) (Or.inr ⟨by rfl, rfl⟩) (by assumption) ?_
          try simp only [Act.put, List.setIfInBounds_toArray, List.set_cons_zero, List.set_cons_succ]
          refine takeL (i := 25) rfl (v := ?vz56) (by kernel_rfl) (by kernel_rfl) (by kernel_rfl) (fun _ _ _ h => h) (Or.inl ⟨by rfl, fun _w _hSw => ?hyz56⟩) (by assumption) ?restz56
          case hyz56 =>
            (try dsimp only at _hSw)
            go_simp
            try with_reducible rfl
          try simp only [Act.put, List.setIfInBounds_toArray, List.set_cons_zero, List.set_cons_succ]
          refine wpAnyH_done (by kernel_rfl) ?_ _
          have c0 := HS5.out.1
          have c1 := HS5.out.2.2.2
          go_wp2_with (go_at_call 43; refine (lexFault _ _ _).mono ?_; rintro e w1 ⟨rfl, rfl⟩)
          exact HNO.out _ HN.out HS5.out.2.2.1
        | false =>
          cases t3 : decide (hi < v) with
          | true =>
            have HN := Lib.hid (show numM s lo hi = none by rw [HNM.out, if_neg (fun h => by have := of_decide_eq_true t3; omega)])
            go_wp2_with fail
            refine wp_region_held_drew (S := (fun X => X.cell? ⟨w.heap.size, 0, none⟩ = some (.string s) ∧ Met X ∧ Below w.heap.size w X ∧ X.cell? ⟨w.heap.size, 1, none⟩ = some (.int .i64 at_))) (by kernel_rfl) (HS0.out) (fun hHeld => ?_)
            try dsimp only [List.size_toArray, List.length_cons, List.length_nil]
            refine takeL (i := 0) rfl (v := ?vz57) (by kernel_rfl) (by kernel_rfl) (by kernel_rfl) (fun _ _ _ h => h) (Or.inl ⟨by rfl, fun _w _hSw => ?hyz57⟩) (by assumption) ?restz57
            case hyz57 =>
              (try dsimp only at _hSw)
              go_simp
              try with_reducible rfl
            try simp only [Act.put, List.setIfInBounds_toArray, List.set_cons_zero, List.set_cons_succ]
            refine takeL (i := 1) rfl (v := ?vz58) (by kernel_rfl) (by kernel_rfl) (by kernel_rfl) (fun _ _ _ h => h) (Or.inl ⟨by rfl, fun _w _hSw => ?hyz58⟩) (by assumption) ?restz58
            case hyz58 =>
              (try dsimp only at _hSw)
              go_simp
              try with_reducible rfl
            try simp only [Act.put, List.setIfInBounds_toArray, List.set_cons_zero, List.set_cons_succ]
            refine takeL (i := 2) rfl (v := ?vz59) (by kernel_rfl) (by kernel_rfl) (by kernel_rfl) (fun _ _ _ h => h) (Or.inl ⟨by rfl, fun _w _hSw => ?hyz59⟩) (by assumption) ?restz59
            case hyz59 =>
              (try dsimp only at _hSw)
              go_simp
              try with_reducible rfl
            try simp only [Act.put, List.setIfInBounds_toArray, List.set_cons_zero, List.set_cons_succ]
            refine takeL (i := 3) rfl (v := ?vz60) (by kernel_rfl) (by kernel_rfl) (by kernel_rfl) (fun _ _ _ h => h) (Or.inl ⟨by rfl, fun _w _hSw => ?hyz60⟩) (by assumption) ?restz60
            case hyz60 =>
              (try dsimp only at _hSw)
              go_simp
              try with_reducible rfl
            try simp only [Act.put, List.setIfInBounds_toArray, List.set_cons_zero, List.set_cons_succ]
            refine takeL (i := 4) rfl (v := ?vz61) (by kernel_rfl) (by kernel_rfl) (by kernel_rfl) (fun _ _ _ h => h) (Or.inl ⟨by rfl, fun _w _hSw => ?hyz61⟩) (by assumption) ?restz61
            case hyz61 =>
              (try dsimp only at _hSw)
              go_simp
              try with_reducible rfl
            try simp only [Act.put, List.setIfInBounds_toArray, List.set_cons_zero, List.set_cons_succ]
            refine takeL (i := 5) rfl (v := ?vz62) (by kernel_rfl) (by kernel_rfl) (by kernel_rfl) (fun _ _ _ h => h) (Or.inl ⟨by rfl, fun _w _hSw => ?hyz62⟩) (by assumption) ?restz62
            case hyz62 =>
              (try dsimp only at _hSw)
              go_simp
              try with_reducible rfl
            try simp only [Act.put, List.setIfInBounds_toArray, List.set_cons_zero, List.set_cons_succ]
            refine takeL (i := 6) rfl (v := ?vz63) (by kernel_rfl) (by kernel_rfl) (by kernel_rfl) (fun _ _ _ h => h) (Or.inl ⟨by rfl, fun _w _hSw => ?hyz63⟩) (by assumption) ?restz63
            case hyz63 =>
              (try dsimp only at _hSw)
              go_simp
              try with_reducible rfl
            try simp only [Act.put, List.setIfInBounds_toArray, List.set_cons_zero, List.set_cons_succ]
            refine takeL (i := 7) rfl (v := ?vz64) (by kernel_rfl) (by kernel_rfl) (by kernel_rfl) (fun _ _ _ h => h) (Or.inl ⟨by rfl, fun _w _hSw => ?hyz64⟩) (by assumption) ?restz64
            case hyz64 =>
              (try dsimp only at _hSw)
              go_simp
              try with_reducible rfl
            try simp only [Act.put, List.setIfInBounds_toArray, List.set_cons_zero, List.set_cons_succ]
            refine takeL (i := 8) rfl (v := ?vz65) (by kernel_rfl) (by kernel_rfl) (by kernel_rfl) (fun _ _ _ h => h) (Or.inl ⟨by rfl, fun _w _hSw => ?hyz65⟩) (by assumption) ?restz65
            case hyz65 =>
              (try dsimp only at _hSw)
              go_simp
              try with_reducible rfl
            try simp only [Act.put, List.setIfInBounds_toArray, List.set_cons_zero, List.set_cons_succ]
            refine takeL (i := 9) rfl (v := ?vz66) (by kernel_rfl) (by kernel_rfl) (by kernel_rfl) (fun _ _ _ h => h) (Or.inl ⟨by rfl, fun _w _hSw => ?hyz66⟩) (by assumption) ?restz66
            case hyz66 =>
              (try dsimp only at _hSw)
              go_simp
              try with_reducible rfl
            try simp only [Act.put, List.setIfInBounds_toArray, List.set_cons_zero, List.set_cons_succ]
            refine takeL (i := 11) rfl (v := ?vz67) (by kernel_rfl) (by kernel_rfl) (by kernel_rfl) (fun _ _ _ h => h) (Or.inl ⟨by rfl, fun _w _hSw => ?hyz67⟩) (by assumption) ?restz67
            case hyz67 =>
              (try dsimp only at _hSw)
              go_simp
              try with_reducible rfl
            try simp only [Act.put, List.setIfInBounds_toArray, List.set_cons_zero, List.set_cons_succ]
            refine takeL (i := 12) rfl (v := ?vz68) (by kernel_rfl) (by kernel_rfl) (by kernel_rfl) (fun _ _ _ h => h) (Or.inl ⟨by rfl, fun _w _hSw => ?hyz68⟩) (by assumption) ?restz68
            case hyz68 =>
              (try dsimp only at _hSw)
              go_simp
              try with_reducible rfl
            try simp only [Act.put, List.setIfInBounds_toArray, List.set_cons_zero, List.set_cons_succ]
            refine wpAnyH_ready (rs := [10]) (by kernel_rfl) (by simp) (readyL rfl (fun K1 hK => ?_) AllReadyH.nil)
            go_simp
            with_reducible refine (HIT.out _ ‹_›).mono ?_
            rintro e w5 ⟨rfl, hb5⟩
            have hS5 := HSB.out _ _ ‹_› hb5
            have HS5 := Lib.hid hS5
            have hd5 := hb5.size
            try dsimp only
            refine hK.out _ _ hS5 (fun hHeld => ?_)
            clear hK K1
            try simp only [Act.put, List.setIfInBounds_toArray, List.set_cons_zero, List.set_cons_succ]
            refine takeL (i := 13) rfl (v := ?vz69) (by kernel_rfl) (by kernel_rfl) (by kernel_rfl) (fun _ _ _ h => h) (Or.inl ⟨by rfl, fun _w _hSw => ?hyz69⟩) (by assumption) ?restz69
            case hyz69 =>
              (try dsimp only at _hSw)
              go_simp
              try with_reducible rfl
            try simp only [Act.put, List.setIfInBounds_toArray, List.set_cons_zero, List.set_cons_succ]
            refine takeL (i := 14) rfl (v := ?vz70) (by kernel_rfl) (by kernel_rfl) (by kernel_rfl) (fun _ _ _ h => h) (Or.inl ⟨by rfl, fun _w _hSw => ?hyz70⟩) (by assumption) ?restz70
            case hyz70 =>
              (try dsimp only at _hSw)
              go_simp
              try with_reducible rfl
            try simp only [Act.put, List.setIfInBounds_toArray, List.set_cons_zero, List.set_cons_succ]
            refine takeL (i := 15) rfl (v := ?vz71) (by kernel_rfl) (by kernel_rfl) (by kernel_rfl) (fun _ _ _ h => h) (Or.inl ⟨by rfl, fun _w _hSw => ?hyz71⟩) (by assumption) ?restz71
            case hyz71 =>
              (try dsimp only at _hSw)
              go_simp
              try with_reducible rfl
            try simp only [Act.put, List.setIfInBounds_toArray, List.set_cons_zero, List.set_cons_succ]
            refine takeL (i := 16) rfl (v := ?vz72) (by kernel_rfl) (by kernel_rfl) (by kernel_rfl) (fun _ _ _ h => h) (Or.inl ⟨by rfl, fun _w _hSw => ?hyz72⟩) (by assumption) ?restz72
            case hyz72 =>
              (try dsimp only at _hSw)
              go_simp
              try with_reducible rfl
            try simp only [Act.put, List.setIfInBounds_toArray, List.set_cons_zero, List.set_cons_succ]
            refine takeL (i := 17) rfl (v := ?vz73) (by kernel_rfl) (by kernel_rfl) (by kernel_rfl) (fun _ _ _ h => h) (Or.inl ⟨by rfl, fun _w _hSw => ?hyz73⟩) (by assumption) ?restz73
            case hyz73 =>
              (try dsimp only at _hSw)
              go_simp
              try with_reducible rfl
            try simp only [Act.put, List.setIfInBounds_toArray, List.set_cons_zero, List.set_cons_succ]
            refine takeL (i := 18) rfl (v := ?vz74) (by kernel_rfl) (by kernel_rfl) (by kernel_rfl) (fun _ _ _ h => h) (Or.inl ⟨by rfl, fun _w _hSw => ?hyz74⟩) (by assumption) ?restz74
            case hyz74 =>
              (try dsimp only at _hSw)
              go_simp
              try with_reducible rfl
            try simp only [Act.put, List.setIfInBounds_toArray, List.set_cons_zero, List.set_cons_succ]
            refine takeL (i := 19) rfl (v := ?vz75) (by kernel_rfl) (by kernel_rfl) (by kernel_rfl) (fun _ _ _ h => h) (Or.inl ⟨by rfl, fun _w _hSw => ?hyz75⟩) (by assumption) ?restz75
            case hyz75 =>
              (try dsimp only at _hSw)
              go_simp
              try with_reducible rfl
            try simp only [Act.put, List.setIfInBounds_toArray, List.set_cons_zero, List.set_cons_succ]
            refine takeL (i := 20) rfl (v := ?vz76) (by kernel_rfl) (by kernel_rfl) (by kernel_rfl) (fun _ _ _ h => h) (Or.inl ⟨by rfl, fun _w _hSw => ?hyz76⟩) (by assumption) ?restz76
            case hyz76 =>
              (try dsimp only at _hSw)
              go_simp
              try with_reducible rfl
            try simp only [Act.put, List.setIfInBounds_toArray, List.set_cons_zero, List.set_cons_succ]
            refine takeL (i := 21) rfl (v := ?vz77) (by kernel_rfl) (by kernel_rfl) (by kernel_rfl) (fun _ _ _ h => h) (Or.inl ⟨by rfl, fun _w _hSw => ?hyz77⟩) (by assumption) ?restz77
            case hyz77 =>
              (try dsimp only at _hSw)
              go_simp
              try with_reducible rfl
            try simp only [Act.put, List.setIfInBounds_toArray, List.set_cons_zero, List.set_cons_succ]
            refine takeL (i := 22) rfl (v := ?vz78) (by kernel_rfl) (by kernel_rfl) (by kernel_rfl) (fun _ _ _ h => h) (Or.inl ⟨by rfl, fun _w _hSw => ?hyz78⟩) (by assumption) ?restz78
            case hyz78 =>
              (try dsimp only at _hSw)
              go_simp
              try with_reducible rfl
            try simp only [Act.put, List.setIfInBounds_toArray, List.set_cons_zero, List.set_cons_succ]
            refine takeL (i := 23) rfl (v := ?vz79) (by kernel_rfl) (by kernel_rfl) (by kernel_rfl) (fun _ _ _ h => h) (Or.inl ⟨by rfl, fun _w _hSw => ?hyz79⟩) (by assumption) ?restz79
            case hyz79 =>
              (try dsimp only at _hSw)
              go_simp
              try with_reducible rfl
            try simp only [Act.put, List.setIfInBounds_toArray, List.set_cons_zero, List.set_cons_succ]
            refine takeL (i := 24) rfl (v := ?vz80) (by kernel_rfl) (by kernel_rfl) (by kernel_rfl) (fun _ _ _ h => h) (Or.inl ⟨by rfl, fun _w _hSw => ?hyz80⟩) (by assumption) ?restz80
            case hyz80 =>
              (try dsimp only at _hSw)
              go_simp
              try with_reducible rfl
            try simp only [Act.put, List.setIfInBounds_toArray, List.set_cons_zero, List.set_cons_succ]
            refine takeL (i := 25) rfl (v := ?vz81) (by kernel_rfl) (by kernel_rfl) (by kernel_rfl) (fun _ _ _ h => h) (Or.inl ⟨by rfl, fun _w _hSw => ?hyz81⟩) (by assumption) ?restz81
            case hyz81 =>
              (try dsimp only at _hSw)
              go_simp
              try with_reducible rfl
            try simp only [Act.put, List.setIfInBounds_toArray, List.set_cons_zero, List.set_cons_succ]
            refine wpAnyH_done (by kernel_rfl) ?_ _
            have c0 := HS5.out.1
            have c1 := HS5.out.2.2.2
            go_wp2_with (go_at_call 43; refine (lexFault _ _ _).mono ?_; rintro e w1 ⟨rfl, rfl⟩)
            exact HNO.out _ HN.out HS5.out.2.2.1
          | false =>
            have HN := Lib.hid (show numM s lo hi = some v by rw [HNM.out, if_pos ⟨HL9.out, HHE.out, by have := of_decide_eq_false t2; omega, by have := of_decide_eq_false t3; omega⟩])
            go_wp2_with fail
            refine wp_region_held_drew (S := (fun X => X.cell? ⟨w.heap.size, 0, none⟩ = some (.string s) ∧ Met X ∧ Below w.heap.size w X ∧ X.cell? ⟨w.heap.size, 1, none⟩ = some (.int .i64 at_))) (by kernel_rfl) (HS0.out) (fun hHeld => ?_)
            try dsimp only [List.size_toArray, List.length_cons, List.length_nil]
            refine takeL (i := 0) rfl (v := ?vz82) (by kernel_rfl) (by kernel_rfl) (by kernel_rfl) (fun _ _ _ h => h) (Or.inl ⟨by rfl, fun _w _hSw => ?hyz82⟩) (by assumption) ?restz82
            case hyz82 =>
              (try dsimp only at _hSw)
              go_simp
              try with_reducible rfl
            try simp only [Act.put, List.setIfInBounds_toArray, List.set_cons_zero, List.set_cons_succ]
            refine takeL (i := 1) rfl (v := ?vz83) (by kernel_rfl) (by kernel_rfl) (by kernel_rfl) (fun _ _ _ h => h) (Or.inl ⟨by rfl, fun _w _hSw => ?hyz83⟩) (by assumption) ?restz83
            case hyz83 =>
              (try dsimp only at _hSw)
              go_simp
              try with_reducible rfl
            try simp only [Act.put, List.setIfInBounds_toArray, List.set_cons_zero, List.set_cons_succ]
            refine takeL (i := 2) rfl (v := ?vz84) (by kernel_rfl) (by kernel_rfl) (by kernel_rfl) (fun _ _ _ h => h) (Or.inl ⟨by rfl, fun _w _hSw => ?hyz84⟩) (by assumption) ?restz84
            case hyz84 =>
              (try dsimp only at _hSw)
              go_simp
              try with_reducible rfl
            try simp only [Act.put, List.setIfInBounds_toArray, List.set_cons_zero, List.set_cons_succ]
            refine takeL (i := 3) rfl (v := ?vz85) (by kernel_rfl) (by kernel_rfl) (by kernel_rfl) (fun _ _ _ h => h) (Or.inl ⟨by rfl, fun _w _hSw => ?hyz85⟩) (by assumption) ?restz85
            case hyz85 =>
              (try dsimp only at _hSw)
              go_simp
              try with_reducible rfl
            try simp only [Act.put, List.setIfInBounds_toArray, List.set_cons_zero, List.set_cons_succ]
            refine takeL (i := 4) rfl (v := ?vz86) (by kernel_rfl) (by kernel_rfl) (by kernel_rfl) (fun _ _ _ h => h) (Or.inl ⟨by rfl, fun _w _hSw => ?hyz86⟩) (by assumption) ?restz86
            case hyz86 =>
              (try dsimp only at _hSw)
              go_simp
              try with_reducible rfl
            try simp only [Act.put, List.setIfInBounds_toArray, List.set_cons_zero, List.set_cons_succ]
            refine takeL (i := 5) rfl (v := ?vz87) (by kernel_rfl) (by kernel_rfl) (by kernel_rfl) (fun _ _ _ h => h) (Or.inl ⟨by rfl, fun _w _hSw => ?hyz87⟩) (by assumption) ?restz87
            case hyz87 =>
              (try dsimp only at _hSw)
              go_simp
              try with_reducible rfl
            try simp only [Act.put, List.setIfInBounds_toArray, List.set_cons_zero, List.set_cons_succ]
            refine takeL (i := 6) rfl (v := ?vz88) (by kernel_rfl) (by kernel_rfl) (by kernel_rfl) (fun _ _ _ h => h) (Or.inl ⟨by rfl, fun _w _hSw => ?hyz88⟩) (by assumption) ?restz88
            case hyz88 =>
              (try dsimp only at _hSw)
              go_simp
              try with_reducible rfl
            try simp only [Act.put, List.setIfInBounds_toArray, List.set_cons_zero, List.set_cons_succ]
            refine takeL (i := 7) rfl (v := ?vz89) (by kernel_rfl) (by kernel_rfl) (by kernel_rfl) (fun _ _ _ h => h) (Or.inl ⟨by rfl, fun _w _hSw => ?hyz89⟩) (by assumption) ?restz89
            case hyz89 =>
              (try dsimp only at _hSw)
              go_simp
              try with_reducible rfl
            try simp only [Act.put, List.setIfInBounds_toArray, List.set_cons_zero, List.set_cons_succ]
            refine takeL (i := 8) rfl (v := ?vz90) (by kernel_rfl) (by kernel_rfl) (by kernel_rfl) (fun _ _ _ h => h) (Or.inl ⟨by rfl, fun _w _hSw => ?hyz90⟩) (by assumption) ?restz90
            case hyz90 =>
              (try dsimp only at _hSw)
              go_simp
              try with_reducible rfl
            try simp only [Act.put, List.setIfInBounds_toArray, List.set_cons_zero, List.set_cons_succ]
            refine takeL (i := 9) rfl (v := ?vz91) (by kernel_rfl) (by kernel_rfl) (by kernel_rfl) (fun _ _ _ h => h) (Or.inl ⟨by rfl, fun _w _hSw => ?hyz91⟩) (by assumption) ?restz91
            case hyz91 =>
              (try dsimp only at _hSw)
              go_simp
              try with_reducible rfl
            try simp only [Act.put, List.setIfInBounds_toArray, List.set_cons_zero, List.set_cons_succ]
            refine takeL (i := 11) rfl (v := ?vz92) (by kernel_rfl) (by kernel_rfl) (by kernel_rfl) (fun _ _ _ h => h) (Or.inl ⟨by rfl, fun _w _hSw => ?hyz92⟩) (by assumption) ?restz92
            case hyz92 =>
              (try dsimp only at _hSw)
              go_simp
              try with_reducible rfl
            try simp only [Act.put, List.setIfInBounds_toArray, List.set_cons_zero, List.set_cons_succ]
            refine takeL (i := 12) rfl (v := ?vz93) (by kernel_rfl) (by kernel_rfl) (by kernel_rfl) (fun _ _ _ h => h) (Or.inl ⟨by rfl, fun _w _hSw => ?hyz93⟩) (by assumption) ?restz93
            case hyz93 =>
              (try dsimp only at _hSw)
              go_simp
              try with_reducible rfl
            try simp only [Act.put, List.setIfInBounds_toArray, List.set_cons_zero, List.set_cons_succ]
            refine wpAnyH_ready (rs := [10]) (by kernel_rfl) (by simp) (readyL rfl (fun K1 hK => ?_) AllReadyH.nil)
            go_simp
            with_reducible refine (HIT.out _ ‹_›).mono ?_
            rintro e w5 ⟨rfl, hb5⟩
            have hS5 := HSB.out _ _ ‹_› hb5
            have HS5 := Lib.hid hS5
            have hd5 := hb5.size
            try dsimp only
            refine hK.out _ _ hS5 (fun hHeld => ?_)
            clear hK K1
            try simp only [Act.put, List.setIfInBounds_toArray, List.set_cons_zero, List.set_cons_succ]
            refine takeL (i := 13) rfl (v := ?vz94) (by kernel_rfl) (by kernel_rfl) (by kernel_rfl) (fun _ _ _ h => h) (Or.inl ⟨by rfl, fun _w _hSw => ?hyz94⟩) (by assumption) ?restz94
            case hyz94 =>
              (try dsimp only at _hSw)
              go_simp
              try with_reducible rfl
            try simp only [Act.put, List.setIfInBounds_toArray, List.set_cons_zero, List.set_cons_succ]
            refine takeL (i := 14) rfl (v := ?vz95) (by kernel_rfl) (by kernel_rfl) (by kernel_rfl) (fun _ _ _ h => h) (Or.inl ⟨by rfl, fun _w _hSw => ?hyz95⟩) (by assumption) ?restz95
            case hyz95 =>
              (try dsimp only at _hSw)
              go_simp
              try with_reducible rfl
            try simp only [Act.put, List.setIfInBounds_toArray, List.set_cons_zero, List.set_cons_succ]
            refine takeL (i := 15) rfl (v := ?vz96) (by kernel_rfl) (by kernel_rfl) (by kernel_rfl) (fun _ _ _ h => h) (Or.inl ⟨by rfl, fun _w _hSw => ?hyz96⟩) (by assumption) ?restz96
            case hyz96 =>
              (try dsimp only at _hSw)
              go_simp
              try with_reducible rfl
            try simp only [Act.put, List.setIfInBounds_toArray, List.set_cons_zero, List.set_cons_succ]
            refine takeL (i := 16) rfl (v := ?vz97) (by kernel_rfl) (by kernel_rfl) (by kernel_rfl) (fun _ _ _ h => h) (Or.inl ⟨by rfl, fun _w _hSw => ?hyz97⟩) (by assumption) ?restz97
            case hyz97 =>
              (try dsimp only at _hSw)
              go_simp
              try with_reducible rfl
            try simp only [Act.put, List.setIfInBounds_toArray, List.set_cons_zero, List.set_cons_succ]
            refine takeL (i := 17) rfl (v := ?vz98) (by kernel_rfl) (by kernel_rfl) (by kernel_rfl) (fun _ _ _ h => h) (Or.inl ⟨by rfl, fun _w _hSw => ?hyz98⟩) (by assumption) ?restz98
            case hyz98 =>
              (try dsimp only at _hSw)
              go_simp
              try with_reducible rfl
            try simp only [Act.put, List.setIfInBounds_toArray, List.set_cons_zero, List.set_cons_succ]
            refine takeL (i := 18) rfl (v := ?vz99) (by kernel_rfl) (by kernel_rfl) (by kernel_rfl) (fun _ _ _ h => h) (Or.inl ⟨by rfl, fun _w _hSw => ?hyz99⟩) (by assumption) ?restz99
            case hyz99 =>
              (try dsimp only at _hSw)
              go_simp
              try with_reducible rfl
            try simp only [Act.put, List.setIfInBounds_toArray, List.set_cons_zero, List.set_cons_succ]
            refine takeL (i := 19) rfl (v := ?vz100) (by kernel_rfl) (by kernel_rfl) (by kernel_rfl) (fun _ _ _ h => h) (Or.inl ⟨by rfl, fun _w _hSw => ?hyz100⟩) (by assumption) ?restz100
            case hyz100 =>
              (try dsimp only at _hSw)
              go_simp
              try with_reducible rfl
            try simp only [Act.put, List.setIfInBounds_toArray, List.set_cons_zero, List.set_cons_succ]
            refine takeL (i := 20) rfl (v := ?vz101) (by kernel_rfl) (by kernel_rfl) (by kernel_rfl) (fun _ _ _ h => h) (Or.inl ⟨by rfl, fun _w _hSw => ?hyz101⟩) (by assumption) ?restz101
            case hyz101 =>
              (try dsimp only at _hSw)
              go_simp
              try with_reducible rfl
            try simp only [Act.put, List.setIfInBounds_toArray, List.set_cons_zero, List.set_cons_succ]
            refine takeL (i := 21) rfl (v := ?vz102) (by kernel_rfl) (by kernel_rfl) (by kernel_rfl) (fun _ _ _ h => h) (Or.inl ⟨by rfl, fun _w _hSw => ?hyz102⟩) (by assumption) ?restz102
            case hyz102 =>
              (try dsimp only at _hSw)
              go_simp
              try with_reducible rfl
            try simp only [Act.put, List.setIfInBounds_toArray, List.set_cons_zero, List.set_cons_succ]
            refine takeL (i := 22) rfl (v := ?vz103) (by kernel_rfl) (by kernel_rfl) (by kernel_rfl) (fun _ _ _ h => h) (Or.inl ⟨by rfl, fun _w _hSw => ?hyz103⟩) (by assumption) ?restz103
            case hyz103 =>
              (try dsimp only at _hSw)
              go_simp
              try with_reducible rfl
            try simp only [Act.put, List.setIfInBounds_toArray, List.set_cons_zero, List.set_cons_succ]
            refine takeL (i := 23) rfl (v := ?vz104) (by kernel_rfl) (by kernel_rfl) (by kernel_rfl) (fun _ _ _ h => h) (Or.inl ⟨by rfl, fun _w _hSw => ?hyz104⟩) (by assumption) ?restz104
            case hyz104 =>
              (try dsimp only at _hSw)
              go_simp
              try with_reducible rfl
            try simp only [Act.put, List.setIfInBounds_toArray, List.set_cons_zero, List.set_cons_succ]
            refine takeL (i := 24) rfl (v := ?vz105) (by kernel_rfl) (by kernel_rfl) (by kernel_rfl) (fun _ _ _ h => h) (Or.inl ⟨by rfl, fun _w _hSw => ?hyz105⟩) (by assumption) ?restz105
            case hyz105 =>
              (try dsimp only at _hSw)
              go_simp
              try with_reducible rfl
            try simp only [Act.put, List.setIfInBounds_toArray, List.set_cons_zero, List.set_cons_succ]
            refine takeL (i := 25) rfl (v := ?vz106) (by kernel_rfl) (by kernel_rfl) (by kernel_rfl) (fun _ _ _ h => h) (Or.inl ⟨by rfl, fun _w _hSw => ?hyz106⟩) (by assumption) ?restz106
            case hyz106 =>
              (try dsimp only at _hSw)
              go_simp
              try with_reducible rfl
            try simp only [Act.put, List.setIfInBounds_toArray, List.set_cons_zero, List.set_cons_succ]
            refine wpAnyH_done (by kernel_rfl) ?_ _
            go_wp2
            exact HYE.out _ _ HN.out HS5.out.2.2.1
      · have HN := Lib.hid (show numM s lo hi = none by rw [HNM.out, if_neg (fun h => he h.2.1)])
        have e1 : ¬ ((⟨(Lib.itoa v).toArray⟩ : ByteArray).toList = s.toList) := by
          rw [ByteArray.toList_eq, ByteArray.toList_eq]
          simpa using he
        have e3 : ((⟨(Lib.itoa v).toArray⟩ : ByteArray).toList == s.toList) = false := beq_eq_false_iff_ne.2 e1
        clear he
        generalize (⟨(Lib.itoa v).toArray⟩ : ByteArray) = sx at e1 e3 HIT
        go_wp2_with fail
        refine wp_region_held_drew (S := (fun X => X.cell? ⟨w.heap.size, 0, none⟩ = some (.string s) ∧ Met X ∧ Below w.heap.size w X ∧ X.cell? ⟨w.heap.size, 1, none⟩ = some (.int .i64 at_))) (by kernel_rfl) (HS0.out) (fun hHeld => ?_)
        try dsimp only [List.size_toArray, List.length_cons, List.length_nil]
        refine takeL (i := 0) rfl (v := ?vz107) (by kernel_rfl) (by kernel_rfl) (by kernel_rfl) (fun _ _ _ h => h) (Or.inl ⟨by rfl, fun _w _hSw => ?hyz107⟩) (by assumption) ?restz107
        case hyz107 =>
          (try dsimp only at _hSw)
          go_simp
          try with_reducible rfl
        try simp only [Act.put, List.setIfInBounds_toArray, List.set_cons_zero, List.set_cons_succ]
        refine takeL (i := 1) rfl (v := ?vz108) (by kernel_rfl) (by kernel_rfl) (by kernel_rfl) (fun _ _ _ h => h) (Or.inl ⟨by rfl, fun _w _hSw => ?hyz108⟩) (by assumption) ?restz108
        case hyz108 =>
          (try dsimp only at _hSw)
          go_simp
          try with_reducible rfl
        try simp only [Act.put, List.setIfInBounds_toArray, List.set_cons_zero, List.set_cons_succ]
        refine takeL (i := 2) rfl (v := ?vz109) (by kernel_rfl) (by kernel_rfl) (by kernel_rfl) (fun _ _ _ h => h) (Or.inl ⟨by rfl, fun _w _hSw => ?hyz109⟩) (by assumption) ?restz109
        case hyz109 =>
          (try dsimp only at _hSw)
          go_simp
          try with_reducible rfl
        try simp only [Act.put, List.setIfInBounds_toArray, List.set_cons_zero, List.set_cons_succ]
        refine takeL (i := 3) rfl (v := ?vz110) (by kernel_rfl) (by kernel_rfl) (by kernel_rfl) (fun _ _ _ h => h) (Or.inl ⟨by rfl, fun _w _hSw => ?hyz110⟩) (by assumption) ?restz110
        case hyz110 =>
          (try dsimp only at _hSw)
          go_simp
          try with_reducible rfl
        try simp only [Act.put, List.setIfInBounds_toArray, List.set_cons_zero, List.set_cons_succ]
        refine takeL (i := 4) rfl (v := ?vz111) (by kernel_rfl) (by kernel_rfl) (by kernel_rfl) (fun _ _ _ h => h) (Or.inl ⟨by rfl, fun _w _hSw => ?hyz111⟩) (by assumption) ?restz111
        case hyz111 =>
          (try dsimp only at _hSw)
          go_simp
          try with_reducible rfl
        try simp only [Act.put, List.setIfInBounds_toArray, List.set_cons_zero, List.set_cons_succ]
        refine takeL (i := 5) rfl (v := ?vz112) (by kernel_rfl) (by kernel_rfl) (by kernel_rfl) (fun _ _ _ h => h) (Or.inl ⟨by rfl, fun _w _hSw => ?hyz112⟩) (by assumption) ?restz112
        case hyz112 =>
          (try dsimp only at _hSw)
          go_simp
          try with_reducible rfl
        try simp only [Act.put, List.setIfInBounds_toArray, List.set_cons_zero, List.set_cons_succ]
        refine takeL (i := 6) rfl (v := ?vz113) (by kernel_rfl) (by kernel_rfl) (by kernel_rfl) (fun _ _ _ h => h) (Or.inl ⟨by rfl, fun _w _hSw => ?hyz113⟩) (by assumption) ?restz113
        case hyz113 =>
          (try dsimp only at _hSw)
          go_simp
          try with_reducible rfl
        try simp only [Act.put, List.setIfInBounds_toArray, List.set_cons_zero, List.set_cons_succ]
        refine takeL (i := 7) rfl (v := ?vz114) (by kernel_rfl) (by kernel_rfl) (by kernel_rfl) (fun _ _ _ h => h) (Or.inl ⟨by rfl, fun _w _hSw => ?hyz114⟩) (by assumption) ?restz114
        case hyz114 =>
          (try dsimp only at _hSw)
          go_simp
          try with_reducible rfl
        try simp only [Act.put, List.setIfInBounds_toArray, List.set_cons_zero, List.set_cons_succ]
        refine takeL (i := 8) rfl (v := ?vz115) (by kernel_rfl) (by kernel_rfl) (by kernel_rfl) (fun _ _ _ h => h) (Or.inl ⟨by rfl, fun _w _hSw => ?hyz115⟩) (by assumption) ?restz115
        case hyz115 =>
          (try dsimp only at _hSw)
          go_simp
          try with_reducible rfl
        try simp only [Act.put, List.setIfInBounds_toArray, List.set_cons_zero, List.set_cons_succ]
        refine takeL (i := 9) rfl (v := ?vz116) (by kernel_rfl) (by kernel_rfl) (by kernel_rfl) (fun _ _ _ h => h) (Or.inl ⟨by rfl, fun _w _hSw => ?hyz116⟩) (by assumption) ?restz116
        case hyz116 =>
          (try dsimp only at _hSw)
          go_simp
          try with_reducible rfl
        try simp only [Act.put, List.setIfInBounds_toArray, List.set_cons_zero, List.set_cons_succ]
        refine takeL (i := 11) rfl (v := ?vz117) (by kernel_rfl) (by kernel_rfl) (by kernel_rfl) (fun _ _ _ h => h) (Or.inl ⟨by rfl, fun _w _hSw => ?hyz117⟩) (by assumption) ?restz117
        case hyz117 =>
          (try dsimp only at _hSw)
          go_simp
          try with_reducible rfl
        try simp only [Act.put, List.setIfInBounds_toArray, List.set_cons_zero, List.set_cons_succ]
        refine takeL (i := 12) rfl (v := ?vz118) (by kernel_rfl) (by kernel_rfl) (by kernel_rfl) (fun _ _ _ h => h) (Or.inl ⟨by rfl, fun _w _hSw => ?hyz118⟩) (by assumption) ?restz118
        case hyz118 =>
          (try dsimp only at _hSw)
          go_simp
          try with_reducible rfl
        try simp only [Act.put, List.setIfInBounds_toArray, List.set_cons_zero, List.set_cons_succ]
        refine wpAnyH_ready (rs := [10]) (by kernel_rfl) (by simp) (readyL rfl (fun K1 hK => ?_) AllReadyH.nil)
        go_simp
        with_reducible refine (HIT.out _ ‹_›).mono ?_
        rintro e w5 ⟨rfl, hb5⟩
        have hS5 := HSB.out _ _ ‹_› hb5
        have HS5 := Lib.hid hS5
        have hd5 := hb5.size
        try dsimp only
        refine hK.out _ _ hS5 (fun hHeld => ?_)
        clear hK K1
        try simp only [Act.put, List.setIfInBounds_toArray, List.set_cons_zero, List.set_cons_succ]
        refine takeL (i := 13) rfl (v := ?vz119) (by kernel_rfl) (by kernel_rfl) (by kernel_rfl) (fun _ _ _ h => h) (Or.inl ⟨by rfl, fun _w _hSw => ?hyz119⟩) (by assumption) ?restz119
        case hyz119 =>
          (try dsimp only at _hSw)
          go_simp
          try with_reducible rfl
        try simp only [Act.put, List.setIfInBounds_toArray, List.set_cons_zero, List.set_cons_succ]
        refine takeL (i := 14) rfl (v := ?vz120) (by kernel_rfl) (by kernel_rfl) (by kernel_rfl) (fun _ _ _ h => h) (Or.inl ⟨by rfl, fun _w _hSw => ?hyz120⟩) (by assumption) ?restz120
        case hyz120 =>
          (try dsimp only at _hSw)
          go_simp
          try with_reducible rfl
        try simp only [Act.put, List.setIfInBounds_toArray, List.set_cons_zero, List.set_cons_succ]
        refine takeL (i := 15) rfl (v := ?vz121) (by kernel_rfl) (by kernel_rfl) (by kernel_rfl) (fun _ _ _ h => h) (Or.inl ⟨by rfl, fun _w _hSw => ?hyz121⟩) (by assumption) ?restz121
        case hyz121 =>
          (try dsimp only at _hSw)
          go_simp
          try with_reducible rfl
        try simp only [Act.put, List.setIfInBounds_toArray, List.set_cons_zero, List.set_cons_succ]
        refine takeL (i := 16) rfl (v := undef) (by kernel_rfl) (by kernel_rfl) (by kernel_rfl) (fun _ _ _ h => h) (Or.inr ⟨by rfl, rfl⟩) (by assumption) ?_
        try simp only [Act.put, List.setIfInBounds_toArray, List.set_cons_zero, List.set_cons_succ]
        refine takeL (i := 17) rfl (v := undef) (by kernel_rfl) (by kernel_rfl) (by kernel_rfl) (fun _ _ _ h => h) (Or.inr ⟨by rfl, rfl⟩) (by assumption) ?_
        try simp only [Act.put, List.setIfInBounds_toArray, List.set_cons_zero, List.set_cons_succ]
        refine takeL (i := 18) rfl (v := undef) (by kernel_rfl) (by kernel_rfl) (by kernel_rfl) (fun _ _ _ h => h) (Or.inr ⟨by rfl, rfl⟩) (by assumption) ?_
        try simp only [Act.put, List.setIfInBounds_toArray, List.set_cons_zero, List.set_cons_succ]
        refine takeL (i := 19) rfl (v := undef) (by kernel_rfl) (by kernel_rfl) (by kernel_rfl) (fun _ _ _ h => h) (Or.inr ⟨by rfl, rfl⟩) (by assumption) ?_
        try simp only [Act.put, List.setIfInBounds_toArray, List.set_cons_zero, List.set_cons_succ]
        refine takeL (i := 20) rfl (v := ?vz122) (by kernel_rfl) (by kernel_rfl) (by kernel_rfl) (fun _ _ _ h => h) (Or.inl ⟨by rfl, fun _w _hSw => ?hyz122⟩) (by assumption) ?restz122
        case hyz122 =>
          (try dsimp only at _hSw)
          go_simp
          try with_reducible rfl
        try simp only [Act.put, List.setIfInBounds_toArray, List.set_cons_zero, List.set_cons_succ]
        refine takeL (i := 21) rfl (v := ?vz123) (by kernel_rfl) (by kernel_rfl) (by kernel_rfl) (fun _ _ _ h => h) (Or.inl ⟨by rfl, fun _w _hSw => ?hyz123⟩) (by assumption) ?restz123
        case hyz123 =>
          (try dsimp only at _hSw)
          go_simp
          try with_reducible rfl
        try simp only [Act.put, List.setIfInBounds_toArray, List.set_cons_zero, List.set_cons_succ]
        refine takeL (i := 22) rfl (v := undef) (by kernel_rfl) (by kernel_rfl) (by kernel_rfl) (fun _ _ _ h => h) (Or.inr ⟨by rfl, rfl⟩) (by assumption) ?_
        try simp only [Act.put, List.setIfInBounds_toArray, List.set_cons_zero, List.set_cons_succ]
        refine takeL (i := 23) rfl (v := undef) (by kernel_rfl) (by kernel_rfl) (by kernel_rfl) (fun _ _ _ h => h) (Or.inr ⟨by rfl, rfl⟩) (by assumption) ?_
        try simp only [Act.put, List.setIfInBounds_toArray, List.set_cons_zero, List.set_cons_succ]
        refine takeL (i := 24) rfl (v := undef) (by kernel_rfl) (by kernel_rfl) (by kernel_rfl) (fun _ _ _ h => h) (Or.inr ⟨by rfl, rfl⟩) (by assumption) ?_
        try simp only [Act.put, List.setIfInBounds_toArray, List.set_cons_zero, List.set_cons_succ]
        refine takeL (i := 25) rfl (v := ?vz124) (by kernel_rfl) (by kernel_rfl) (by kernel_rfl) (fun _ _ _ h => h) (Or.inl ⟨by rfl, fun _w _hSw => ?hyz124⟩) (by assumption) ?restz124
        case hyz124 =>
          (try dsimp only at _hSw)
          go_simp
          try with_reducible rfl
        try simp only [Act.put, List.setIfInBounds_toArray, List.set_cons_zero, List.set_cons_succ]
        refine wpAnyH_done (by kernel_rfl) ?_ _
        have c0 := HS5.out.1
        have c1 := HS5.out.2.2.2
        go_wp2_with (go_at_call 43; refine (lexFault _ _ _).mono ?_; rintro e w1 ⟨rfl, rfl⟩)
        exact HNO.out _ HN.out HS5.out.2.2.1
end Go.Proofs.YtefnkoofgpmmmaaGreatDoor

/- Seen's order of releases. No condition. -/
import Derived.Test.YtbbcicengfmhiaaDoorIn9
import Derived.Deep.RegionHeld3
namespace Go.Proofs.YtbbcicengfmhiaaDoor
set_option maxRecDepth 100000
open Go.RowKit

theorem stayAD (W : World) (o : Obj) : (∀ b q, b < W.heap.size → (W.alloc o).drew.cell? ⟨b, q, none⟩ = W.cell? ⟨b, q, none⟩) ∧ Below W.heap.size W (W.alloc o).drew :=
  ⟨fun b q h => (below1 W o).cell (p := ⟨b, q, none⟩) h, (below1 W o).drew⟩
theorem cmpOr4 (x y z t : Int) (W : World) : Calls Tryd.prog 97 #[.slice (some ⟨W.heap.size, 0, none⟩) 4 4] (W.alloc (.cells #[.int .i64 x, .int .i64 y, .int .i64 z, .int .i64 t] 3)).drew fun e w' => e = .returned (.int .i64 (orI [x, y, z, t])) ∧ (W.alloc (.cells #[.int .i64 x, .int .i64 y, .int .i64 z, .int .i64 t] 3)).drew = w' := by
  refine cmpOr _ [x, y, z, t] _ ⟨some ⟨W.heap.size, 0, none⟩, 4, rfl, ⟨by simp, fun h => nomatch h⟩, fun _ => ⟨W.heap.size, 0, rfl, by simp, fun j hj i u hu => ?_⟩⟩ (by simp)
  have hi : i = 0 := by
    have := (List.getElem?_eq_some_iff.1 hu).1
    simp [encI] at this
    exact this
  subst hi
  simp only [encI, List.getElem?_cons_zero, Option.some.injEq] at hu
  subst hu
  match j, hj with
  | 0, _ => go_simp
  | 1, _ => go_simp
  | 2, _ => go_simp
  | 3, _ => go_simp
set_option maxHeartbeats 4000000 in
theorem cmpRel (a b : Rel) (w : World) : Calls Tryd.prog 96 #[.agg (encR a).toArray, .agg (encR b).toArray] w fun e w' => e = .returned (.int .i64 (cmpR a b)) ∧ Below w.heap.size w w' := by
  obtain ⟨a1, a2, a3, a4, s⟩ := a
  obtain ⟨b1, b2, b3, b4, t⟩ := b
  show Calls Tryd.prog 96 _ w fun e w' => e = .returned (.int .i64 (orI [cmpI a1 b1, cmpI a2 b2, cmpI a3 b3, cmpI a4 b4])) ∧ Below w.heap.size w w'
  have HB := Lib.hid (below2 w (.cells #[.int .i64 a1, .int .i64 a2, .int .i64 a3, .int .i64 a4, .string s] 75) (.cells #[.int .i64 b1, .int .i64 b2, .int .i64 b3, .int .i64 b4, .string t] 75))
  have qa := (BlkIs.alloc w [.int .i64 a1, .int .i64 a2, .int .i64 a3, .int .i64 a4, .string s] 75).below (below1 _ (.cells #[.int .i64 b1, .int .i64 b2, .int .i64 b3, .int .i64 b4, .string t] 75))
  have qb := BlkIs.alloc (w.alloc (.cells #[.int .i64 a1, .int .i64 a2, .int .i64 a3, .int .i64 a4, .string s] 75)) [.int .i64 b1, .int .i64 b2, .int .i64 b3, .int .i64 b4, .string t] 75
  have hz : (w.alloc (.cells #[.int .i64 a1, .int .i64 a2, .int .i64 a3, .int .i64 a4, .string s] 75)).heap.size = w.heap.size + 1 := Array.size_push _
  rw [hz] at qb
  have ca0 := qa.cell 0
  have ca1 := qa.cell 1
  have ca2 := qa.cell 2
  have ca3 := qa.cell 3
  have cb0 := qb.cell 0
  have cb1 := qb.cell 1
  have cb2 := qb.cell 2
  have cb3 := qb.cell 3
  have la := qa.lt
  have lb := qb.lt
  simp only [List.getElem?_cons_zero, List.getElem?_cons_succ] at ca0 ca1 ca2 ca3 cb0 cb1 cb2 cb3
  clear qa qb hz
  simp only [encR]
  go_enter Tryd.func96, Tryd.ntmps96
  go_wp2_with fail
  generalize (w.alloc (.cells #[.int .i64 a1, .int .i64 a2, .int .i64 a3, .int .i64 a4, .string s] 75)).alloc (.cells #[.int .i64 b1, .int .i64 b2, .int .i64 b3, .int .i64 b4, .string t] 75) = W at *
  go_region_held3 (fun w' => (∀ b o, b < (W).heap.size → w'.cell? ⟨b, o, none⟩ = (W).cell? ⟨b, o, none⟩) ∧ Below (W).heap.size (W) w') (first | exact stay0 _ | exact stayAD _ _) (first
    | (go_at_call 98; refine (cmpCompare _ _ _).mono ?_; rintro e w' ⟨rfl, rfl⟩)
    | (go_at_call 97; refine (cmpOr4 _ _ _ _ _).mono ?_; rintro e w' ⟨rfl, rfl⟩))
  go_wp2
  go_ret
  exact ⟨rfl, HB.out.trans (((below1 W _).drew).mono HB.out.size)⟩
end Go.Proofs.YtbbcicengfmhiaaDoor

/- The library's clone of releases; Inbox.All. Conditions: sizes. -/
import Derived.Test.YtbbcicengfmhiaaDoorIn3
namespace Go.Proofs.YtbbcicengfmhiaaDoor
set_option maxRecDepth 100000
open Go.RowKit

theorem info_cloneR : ∃ (i : TypeInfo) (z : Value), Tryd.prog.info? 75 = some i ∧ i.zero = some z ∧ i.size = 5 ∧ i.bytes = 48 ∧ z.cells.size = 5 := by
  have h : ((Tryd.prog.info? 75).map fun i => (i.size, i.bytes, i.zero.map fun z => z.cells.size)) = some (5, 48, some 5) := by kernel_rfl
  cases hi : Tryd.prog.info? 75 with
  | none => rw [hi] at h; cases h
  | some i =>
    rw [hi] at h
    simp only [Option.map_some, Option.some.injEq, Prod.mk.injEq] at h
    obtain ⟨h1, h2, h3⟩ := h
    cases hz : i.zero with
    | none => rw [hz] at h3; cases h3
    | some z => rw [hz] at h3; exact ⟨i, z, rfl, hz, h1, h2, by simpa using h3⟩
theorem one_encR (xs : List Rel) : ∀ u ∈ flat encR xs, u.oneCell' = true := by
  intro u hu
  simp only [flat, List.mem_flatMap] at hu
  obtain ⟨x, _, hx⟩ := hu
  simp [encR] at hx
  rcases hx with rfl | rfl | rfl | rfl | rfl <;> rfl

set_option maxHeartbeats 1000000 in
theorem cloneR (v : Value) (xs : List Rel) (w : World) (hS : SlAt 5 encR w v xs) (hbig : xs.length ≤ 1000) :
    Calls Tryd.prog 92 #[v] w fun e w' => ∃ v', e = .returned v' ∧ SlAt 5 encR w' v' xs ∧ Below w.heap.size w w' := by
  obtain ⟨pp, c, rfl, hn, hcell⟩ := hS
  have q71 : ∀ (w : World) (a : Option Addr) (n c n' c' : Nat), (binOp .eql 71 (.slice a n c) (.slice none n' c')).run Tryd.prog w = .ok (.bool a.isNone) w := fun w a n c n' c' => Lib.run_eql_slice_nil w _ _ a n c n' c' Tryd.underlying71
  obtain ⟨i0, z, hi, hz0, hz1, hz2, hzs⟩ := info_cloneR
  have HI := Lib.hid hi
  have HZ := Lib.hid hz0
  have HC := Lib.hid hcell
  have HNI := Lib.hid hn
  clear hi hz0 hcell hn
  have hlen : (flat encR xs).length = xs.length * 5 := flat_length (enc := encR) (fun _ => rfl) xs
  go_enter Tryd.func92, Tryd.ntmps92
  cases pp with
  | none =>
    obtain ⟨rfl, rfl⟩ := HNI.out.2 rfl
    go_wp2
    go_ret
    exact ⟨_, rfl, SlAt.nil _ _ _, Below.refl _ _⟩
  | some ad =>
    go_wp2_with (at_builtin; refine wpList_append_own _ rfl _ _ 71 rfl w.heap.size 75 i0 z 5 48 Tryd.underlying71 HI.out HZ.out hz1 hz2 hzs (by decide) _ _ _ rfl (World.ownsRow_made w #[] 0 (Nat.le_refl _) (Nat.zero_le _) (by simp)) ad xs.length c (flat encR xs) rfl ?qc1 ?qc2 ?qc3 ?qc4 ?qc5 ?qc6 ?_)
    case qc1 => exact hlen
    case qc2 =>
      intro j u hj
      have hpos : 0 < xs.length := by
        have := (List.getElem?_eq_some_iff.1 hj).1
        omega
      obtain ⟨b, off, hp, hb, hc⟩ := HC.out hpos
      obtain rfl : ad = ⟨b, off, none⟩ := by simpa using hp
      rw [Go.WideShapes.add_plain]
      exact Lib.cell?_alloc_some _ (SlAt.flat_cells (enc := encR) (by decide) (fun _ => rfl) hc j u hj)
    case qc3 => exact one_encR xs
    case qc4 => rw [Nat.zero_add]; unfold maxLen; omega
    case qc5 => omega
    case qc6 => simp
    intro v' w1 hown hgrow hnil
    go_wp2
    go_ret
    refine ⟨v', rfl, SlAt.of_owns (enc := encR) (fun _ => rfl) (by simpa using hown), ?_⟩
    exact ((Below.refl _ w).alloc (Nat.le_refl _) _).grown hgrow (by simp) (by intro k hk; simp [Value.ownBlock] at hk; omega)

theorem inbAll (b : Nat) (cv : Value) (l : List Rel) (w : World) (h : IbAt b cv l w) (hl : l.length ≤ 1000) :
    Calls Tryd.prog 43 #[.pointer (some ⟨b, 0, none⟩)] w fun e w' => ∃ v', e = .returned v' ∧ SlAt 5 encR w' v' l ∧ Below w.heap.size w w' := by
  have HK := Lib.hid (cloneR cv l w h.sl hl)
  have c0 := h.1.cell 0
  simp only [List.getElem?_cons_zero] at c0
  clear h
  go_enter Tryd.func43, Tryd.ntmps43
  go_wp2_with fail
  refine HK.out.mono ?_
  rintro e w1 ⟨v', rfl, hs, hb⟩
  clear c0
  obtain ⟨p, c, rfl, _⟩ := id hs
  go_wp2
  go_ret
  exact ⟨_, rfl, hs, hb⟩
end Go.Proofs.YtbbcicengfmhiaaDoor

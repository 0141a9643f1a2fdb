/- run's part.fail, Vote; of none. Conditions: few votes. run.Let; of none. Conditions: what a task comes behind is there; a gate comes behind one task. run.Input; of none. Conditions: outputs are short. run.may. Conditions: a pipeline that may be held. run.clone. Conditions: a pipeline with tasks, not too many. run.New. Conditions: a pipeline. Run.Pipe. Conditions: a run. A writer at work, for a run's writing. Conditions: blocks that lie before it. Run.Write. Conditions: numbers that are machine words, a text not too long. A run's text (lockagelaw13.text). -/
import Derived.Test.YtbbcicengfmhiaaGreatDoorM6
import Derived.Test.YtbbcicengfmhiaaGreatDoorM7
import Derived.Test.YtbbcicengfmhiaaGreatDoorM4
import Derived.Test.YtbbcicengfmhiaaGreatDoorRou
import Derived.Test.YtbbcicengfmhiaaGreatDoorM9
namespace Go.Proofs.YtbbcicengfmhiaaGreatDoor
set_option maxRecDepth 100000
open Go.RowKit

def failT (t : TryV) : TryV := ⟨4, 0, t.missed, 0, 0, 0⟩
set_option maxHeartbeats 2000000 in
theorem partFail (b g : Nat) (tv : Value) (c : Nat) (J : List Value) (R : RunM) (k : Nat) (w : World) (h : RAt b g tv c J R w) (hk : k < R.ps.length) :
    Calls Tryz.prog 59 #[.pointer (some ⟨g, k * 9, none⟩)] w fun e w' => e = .returned (.tuple #[]) ∧ RAt b g tv c J (putT R k (failT R.ps[k]!.try_)) w' ∧ KeptG g w w' := by
  obtain ⟨c0, c1, c2, c3, c4, c5, _, _, _⟩ := h.cells hk
  have fr := fun o => BlkIs.frozen h.row o
  obtain ⟨f0, f1, f2, f3, f4, f5⟩ : w.frozen? ⟨g, k * 9, none⟩ = false ∧ w.frozen? ⟨g, k * 9 + 1, none⟩ = false ∧ w.frozen? ⟨g, k * 9 + 2, none⟩ = false ∧ w.frozen? ⟨g, k * 9 + 3, none⟩ = false ∧ w.frozen? ⟨g, k * 9 + 4, none⟩ = false ∧ w.frozen? ⟨g, k * 9 + 5, none⟩ = false := ⟨fr _, fr _, fr _, fr _, fr _, fr _⟩
  have HN := Lib.hid (h.setTry hk (failT R.ps[k]!.try_))
  have HK := Lib.hid (KeptG.sets g (k * 9) w (encTry (failT R.ps[k]!.try_)))
  clear fr h
  generalize R.ps[k]!.try_ = pt at *
  obtain ⟨s, si, mi, wkk, ls, ti⟩ := pt
  go_enter Tryz.func59, Tryz.ntmps59
  go_wp2
  go_end0
  exact ⟨rfl, HN.out, HK.out⟩
def putV (R : RunM) (k : Nat) (vs : Value) (ys : List Int) (no : Bool) : RunM := { R with ps := R.ps.set k { R.ps[k]! with vs := vs, yes := ys, no := no } }
theorem RunAt.setVotes {TR TP : TypeId} {b g : Nat} {tv : Value} {c : Nat} {J : List Value} {R : RunM} {w : World} (h : RunAt TR TP b g tv c J R w) {j : Nat} (hj : j < R.ps.length) (vs : Value) (ys : List Int) (no : Bool) (hs : SlAt 1 encI w vs ys) (ha : Apart b g vs) :
    RunAt TR TP b g tv c J (putV R j vs ys no) (w.setCells g (j * 9 + 7) [vs, .bool no]) :=
  h.set hj { R.ps[j]! with vs := vs, yes := ys, no := no } 7 [vs, .bool no] (fun M => by
    generalize R.ps[j]! = p
    obtain ⟨⟨a1, a2, a3, a4, a5, a6⟩, o', vs, ys, no⟩ := p
    rfl) hs ha
/-- a vote at a gate: may it go, its number; the run behind it (and the slice that holds the votes) -/
def voteE (R : RunM) (i who : Int) (yes : Bool) : Int := if stE R i true 1 = 0 then (if (yes && R.ps[i.toNat]!.yes.any fun y => who == y) = true then 7 else 0) else stE R i true 1
def voteMay (R : RunM) (i who : Int) (yes : Bool) : Bool := !(R.ps[i.toNat]!.no || !yes) && decide (R.ts[i.toNat]!.need ≤ ((voteL R.ps[i.toNat]!.yes who yes).length : Int))
def voteR (R : RunM) (i who : Int) (yes : Bool) (vs : Value) : RunM :=
  let R1 := putV R i.toNat vs (voteL R.ps[i.toNat]!.yes who yes) (R.ps[i.toNat]!.no || !yes)
  if yes = true then R1 else putT R1 i.toNat (failT R1.ps[i.toNat]!.try_)
def VtPost (b g : Nat) (tv : Value) (c : Nat) (J : List Value) (R : RunM) (i who : Int) (yes : Bool) (w : World) (e : Ending) (w' : World) : Prop :=
  if voteE R i who yes = 0 then ∃ vs, e = .returned (.tuple #[.bool (voteMay R i who yes), .int .i64 0]) ∧ RAt b g tv c J (voteR R i who yes vs) w' ∧ KeptB g w w'
  else e = .returned (.tuple #[.bool false, .int .i64 (voteE R i who yes)]) ∧ RAt b g tv c J R w' ∧ KeptB g w w'
theorem runVoteNil (i who : Int) (yes : Bool) (w : World) : Calls Tryz.prog 29 #[.pointer none, .int .i64 i, .int .i64 who, .bool yes] w fun e w' => e = .returned (.tuple #[.bool false, .int .i64 8]) ∧ w = w' := by
  go_enter Tryz.func29, Tryz.ntmps29
  go_wp2_with fail
  refine (runOpenNil i w).mono ?_
  rintro e w1 ⟨rfl, rfl⟩
  go_wp2
  go_ret2
  exact ⟨rfl, rfl⟩
theorem votesF {b g k : Nat} {tv : Value} {c : Nat} {J : List Value} {R : RunM} {w : World} (h : RAt b g tv c J R w) (hk : k < R.ps.length) (X : World) (hb : Below w.heap.size w X) :
    (∃ v, X.cell? ⟨g, k * 9 + 7, none⟩ = some v) ∧ (∃ v, X.cell? ⟨g, k * 9 + 8, none⟩ = some v) ∧ X.frozen? ⟨g, k * 9 + 7, none⟩ = false ∧ X.frozen? ⟨g, k * 9 + 8, none⟩ = false := by
  have h2 := h.below hb
  obtain ⟨_, _, _, _, _, _, _, m7, m8⟩ := h2.cells hk
  exact ⟨⟨_, m7⟩, ⟨_, m8⟩, BlkIs.frozen h2.row _, BlkIs.frozen h2.row _⟩
set_option maxHeartbeats 8000000 in
theorem runVote (b g tb tf tc c : Nat) (J : List Value) (R : RunM) (i who : Int) (yes : Bool) (w : World) (h : RAt b g (tvOf tb tf tc R) c J R w) (hn : R.ps.length ≤ 1000) (hy : ∀ j, j < R.ps.length → R.ps[j]!.yes.length ≤ 900) :
    Calls Tryz.prog 29 #[.pointer (some ⟨b, 0, none⟩), .int .i64 i, .int .i64 who, .bool yes] w (VtPost b g (tvOf tb tf tc R) c J R i who yes w) := by
  have KH := Lib.hid (runOpen b g tb tf tc c J R i w h hn)
  have HR := Lib.hid h
  have hgz := h.row.lt
  by_cases he : stE R i true 1 = 0
  · obtain ⟨k, rfl, hk, -, -, hf, -⟩ := stE_in he
    have HYL := Lib.hid (hy k hk)
    have HVE := Lib.hid (show voteE R (k : Int) who yes = if (yes && R.ps[k]!.yes.any fun y => who == y) = true then 7 else 0 by unfold voteE; rw [if_pos he, Int.toNat_natCast])
    have HMY := Lib.hid (show voteMay R (k : Int) who yes = (!(R.ps[k]!.no || !yes) && decide (R.ts[k]!.need ≤ ((voteL R.ps[k]!.yes who yes).length : Int))) from rfl)
    have HVR := Lib.hid (fun vs => (show voteR R (k : Int) who yes vs = if yes = true then putV R k vs (voteL R.ps[k]!.yes who yes) (R.ps[k]!.no || !yes) else putT (putV R k vs (voteL R.ps[k]!.yes who yes) (R.ps[k]!.no || !yes)) k (failT (putV R k vs (voteL R.ps[k]!.yes who yes) (R.ps[k]!.no || !yes)).ps[k]!.try_) from rfl))
    have HNO := Lib.hid (fun (hv : voteE R (k : Int) who yes = 7) (w' : World) (hb : Below w.heap.size w w') => (show VtPost b g (tvOf tb tf tc R) c J R (k : Int) who yes w (.returned (.tuple #[.bool false, .int .i64 7])) w' from by
      unfold VtPost
      rw [hv, if_neg (by decide)]
      exact ⟨rfl, HR.out.below hb, keptB_of hgz hb⟩))
    have HYES := Lib.hid (fun (hv : voteE R (k : Int) who yes = 0) (vs : Value) (w' : World) (h1 : RAt b g (tvOf tb tf tc R) c J (voteR R (k : Int) who yes vs) w') (h2 : KeptB g w w') => (show VtPost b g (tvOf tb tf tc R) c J R (k : Int) who yes w (.returned (.tuple #[.bool (voteMay R (k : Int) who yes), .int .i64 0])) w' from by
      unfold VtPost
      rw [if_pos hv]
      exact ⟨vs, rfl, h1, h2⟩))
    rw [he, hf] at KH
    clear h he hf hy
    generalize hmay : voteMay R (k : Int) who yes = may at *
    clear hmay
    go_enter Tryz.func29, Tryz.ntmps29
    go_wp2_with fail
    refine KH.out.mono ?_
    rintro e w1 hp
    unfold HeldPost at hp
    rw [if_pos rfl, if_pos rfl, Int.toNat_natCast] at hp
    obtain ⟨rfl, hb⟩ := hp
    have HR1 := Lib.hid (HR.out.below hb)
    have HB1 := Lib.hid hb
    clear hb
    obtain ⟨_, _, _, _, _, _, _, c7, c8⟩ := HR1.out.cells hk
    obtain ⟨qv, mv, ccv, hvs⟩ := HR1.out.vsl hk
    have HVS := Lib.hid (HR1.out.votes k hk).1
    rw [hvs] at c7 HVS
    clear hvs
    cases yes with
    | true =>
      have KHas := Lib.hid (fun W (hs : SlAt 1 encI W (.slice qv mv ccv) R.ps[k]!.yes) => gateHas who (.slice qv mv ccv) R.ps[k]!.no R.ps[k]!.yes W hs (by have := HYL.out; omega))
      have HVS2 := Lib.hid (fun (hh : (R.ps[k]!.yes.any fun y => who == y) = true) => (show voteE R (k : Int) who true = 7 by rw [HVE.out, hh]; rfl))
      have HVS3 := Lib.hid (fun (hh : (R.ps[k]!.yes.any fun y => who == y) = false) => (show voteE R (k : Int) who true = 0 by rw [HVE.out, hh]; rfl))
      cases hany : (R.ps[k]!.yes.any fun y => who == y) with
      | true =>
        rw [hany] at KHas
        have HVV := Lib.hid (HVS2.out hany)
        clear hany
        generalize R.ps[k]!.no = no at *
        go_wp2_with fail
        refine (KHas.out _ HVS.out).mono ?_
        rintro e w2 ⟨rfl, hb2⟩
        have HB2 := Lib.hid (HB1.out.trans (hb2.mono HB1.out.size))
        clear hb2
        go_wp2
        go_ret2
        exact HNO.out HVV.out _ HB2.out
      | false =>
        rw [hany] at KHas
        have HVV := Lib.hid (HVS3.out hany)
        have HVR2 := Lib.hid (fun vs => (show voteR R (k : Int) who true vs = putV R k vs (voteL R.ps[k]!.yes who true) R.ps[k]!.no by rw [HVR.out vs, if_pos rfl, Bool.not_true, Bool.or_false]))
        obtain ⟨no1, hno1⟩ : ∃ no1, R.ps[k]!.no = no1 := ⟨_, rfl⟩
        rw [hno1] at c8 KHas
        clear hany hno1
        go_wp2_with fail
        refine (KHas.out _ HVS.out).mono ?_
        rintro e w2 ⟨rfl, hb2⟩
        have HR1 := Lib.hid (HR1.out.below hb2)
        have HVS := Lib.hid (HVS.out.below hb2)
        have HB1 := Lib.hid (HB1.out.trans (hb2.mono HB1.out.size))
        clear hb2 c7 c8
        obtain ⟨_, _, _, _, _, _, _, c7, c8⟩ := HR1.out.cells hk
        obtain ⟨qv2, mv2, ccv2, hvs⟩ := HR1.out.vsl hk
        have HVS := Lib.hid (HR1.out.votes k hk).1
        rw [hvs] at c7 HVS
        clear hvs
        have ht := taskF HR1.out hk
        have htz := ht.1
        have t4 := ht.cells.2.2.2.2.1
        have hnt := (task_ne HR1.out).1
        have hgz1 : g < w2.heap.size := HR1.out.row.lt
        have hbz1 : b < w2.heap.size := HR1.out.blk.lt
        have KV := Lib.hid (fun (W : World) (hs : SlAt 1 encI W (.slice qv2 mv2 ccv2) R.ps[k]!.yes) => gateVote (.slice qv2 mv2 ccv2) R.ps[k]!.no R.ps[k]!.yes who true R.ts[k]!.need W hs HYL.out)
        have HVF := Lib.hid (votesF HR1.out hk)
        have HMY := Lib.hid HMY.out
        generalize R.ts[k]!.need = nd at *
        have HTS := Lib.hid (taskS (g := g) t4 htz hnt)
        have HSV := Lib.hid (fun (X : World) (hb : Below w2.heap.size w2 X) (vs : Value) (hs : SlAt 1 encI X vs (voteL R.ps[k]!.yes who true)) (ha : Apart b g vs) => (HR1.out.below hb).setVotes hk vs (voteL R.ps[k]!.yes who true) (R.ps[k]!.no) hs ha)
        generalize R.ps[k]!.yes = ys at *
        generalize R.ps[k]!.no = no at *
        clear ht
        go_wp2_with fail
        refine wp_region_held_drew (S := (fun X => X.cell? ⟨tb, tf + k * 7 + 4, none⟩ = some (.int .i64 nd))) (by kernel_rfl) (show w2.drew.cell? ⟨tb, tf + k * 7 + 4, none⟩ = some (.int .i64 nd) from t4) (fun hHeld => ?_)
        try dsimp only [List.size_toArray, List.length_cons, List.length_nil]
        refine takeL (i := 0) rfl (v := ?vz1) (by kernel_rfl) (by kernel_rfl) (by kernel_rfl) (fun _ _ _ h => h) (Or.inl ⟨by rfl, fun _w _hSw => ?hyz1⟩) (by assumption) ?restz1
        case hyz1 =>
          (try dsimp only at _hSw)
          go_simp
          try with_reducible rfl
        try simp only [Act.put, List.setIfInBounds_toArray, List.set_cons_zero, List.set_cons_succ]
        refine takeL (i := 1) rfl (v := ?vz2) (by kernel_rfl) (by kernel_rfl) (by kernel_rfl) (fun _ _ _ h => h) (Or.inl ⟨by rfl, fun _w _hSw => ?hyz2⟩) (by assumption) ?restz2
        case hyz2 =>
          (try dsimp only at _hSw)
          go_simp
          try with_reducible rfl
        try simp only [Act.put, List.setIfInBounds_toArray, List.set_cons_zero, List.set_cons_succ]
        refine takeL (i := 2) rfl (v := ?vz3) (by kernel_rfl) (by kernel_rfl) (by kernel_rfl) (fun _ _ _ h => h) (Or.inl ⟨by rfl, fun _w _hSw => ?hyz3⟩) (by assumption) ?restz3
        case hyz3 =>
          (try dsimp only at _hSw)
          go_simp
          try with_reducible rfl
        try simp only [Act.put, List.setIfInBounds_toArray, List.set_cons_zero, List.set_cons_succ]
        refine takeL (i := 3) rfl (v := ?vz4) (by kernel_rfl) (by kernel_rfl) (by kernel_rfl) (fun _ _ _ h => h) (Or.inl ⟨by rfl, fun _w _hSw => ?hyz4⟩) (by assumption) ?restz4
        case hyz4 =>
          (try dsimp only at _hSw)
          go_simp
          try with_reducible rfl
        try simp only [Act.put, List.setIfInBounds_toArray, List.set_cons_zero, List.set_cons_succ]
        refine takeL (i := 5) rfl (v := ?vz5) (by kernel_rfl) (by kernel_rfl) (by kernel_rfl) (fun _ _ _ h => h) (Or.inl ⟨by rfl, fun _w _hSw => ?hyz5⟩) (by assumption) ?restz5
        case hyz5 =>
          (try dsimp only at _hSw)
          go_simp
          try with_reducible rfl
        try simp only [Act.put, List.setIfInBounds_toArray, List.set_cons_zero, List.set_cons_succ]
        refine takeL (i := 6) rfl (v := ?vz6) (by kernel_rfl) (by kernel_rfl) (by kernel_rfl) (fun _ _ _ h => h) (Or.inl ⟨by rfl, fun _w _hSw => ?hyz6⟩) (by assumption) ?restz6
        case hyz6 =>
          (try dsimp only at _hSw)
          go_simp
          try with_reducible rfl
        try simp only [Act.put, List.setIfInBounds_toArray, List.set_cons_zero, List.set_cons_succ]
        refine takeL (i := 7) rfl (v := ?vz7) (by kernel_rfl) (by kernel_rfl) (by kernel_rfl) (fun _ _ _ h => h) (Or.inl ⟨by rfl, fun _w _hSw => ?hyz7⟩) (by assumption) ?restz7
        case hyz7 =>
          (try dsimp only at _hSw)
          go_simp
          try with_reducible rfl
        try simp only [Act.put, List.setIfInBounds_toArray, List.set_cons_zero, List.set_cons_succ]
        refine takeL (i := 8) rfl (v := ?vz8) (by kernel_rfl) (by kernel_rfl) (by kernel_rfl) (fun _ _ _ h => h) (Or.inl ⟨by rfl, fun _w _hSw => ?hyz8⟩) (by assumption) ?restz8
        case hyz8 =>
          (try dsimp only at _hSw)
          go_simp
          try with_reducible rfl
        try simp only [Act.put, List.setIfInBounds_toArray, List.set_cons_zero, List.set_cons_succ]
        refine takeL (i := 9) rfl (v := ?vz9) (by kernel_rfl) (by kernel_rfl) (by kernel_rfl) (fun _ _ _ h => h) (Or.inl ⟨by rfl, fun _w _hSw => ?hyz9⟩) (by assumption) ?restz9
        case hyz9 =>
          (try dsimp only at _hSw)
          go_simp
          try with_reducible rfl
        try simp only [Act.put, List.setIfInBounds_toArray, List.set_cons_zero, List.set_cons_succ]
        refine takeL (i := 10) rfl (v := ?vz10) (by kernel_rfl) (by kernel_rfl) (by kernel_rfl) (fun _ _ _ h => h) (Or.inl ⟨by rfl, fun _w _hSw => ?hyz10⟩) (by assumption) ?restz10
        case hyz10 =>
          (try dsimp only at _hSw)
          go_simp
          try with_reducible rfl
        try simp only [Act.put, List.setIfInBounds_toArray, List.set_cons_zero, List.set_cons_succ]
        refine wpAnyH_ready (rs := [4]) (by kernel_rfl) (by simp) (readyL rfl (fun K1 hK => ?_) AllReadyH.nil)
        go_simp
        refine hK.out _ _ ‹_› (fun _ => ?_)
        clear hK K1
        try simp only [Act.put, List.setIfInBounds_toArray, List.set_cons_zero, List.set_cons_succ]
        refine wpAnyH_ready (rs := [11]) (by kernel_rfl) (by simp) (readyL rfl (fun K1 hK => ?_) AllReadyH.nil)
        go_simp
        with_reducible refine (KV.out _ (HVS.out.below (Below.refl _ _).drew)).mono ?_
        rintro e w5 hp
        unfold VotePost at hp
        obtain ⟨v', he5, hs5, hb5, ho5⟩ := hp
        generalize (!(no || !true) && decide (nd ≤ ((voteL ys who true).length : Int))) = mb at *
        generalize voteL ys who true = ys2 at *
        rw [show (no || !true) = no by cases no <;> rfl] at he5
        subst he5
        have HB5 := Lib.hid (show Below w2.heap.size w2 w5 from (Below.refl _ _).drew.trans hb5)
        have HAP := Lib.hid (show Apart b g v' from ⟨fun e => by have := ho5 b e; simp at this; omega, fun e => by have := ho5 g e; simp at this; omega⟩)
        have HS5 := Lib.hid (HSV.out w5 HB5.out v' hs5 HAP.out)
        obtain ⟨vp, vc, rfl, _⟩ := id hs5
        have HSW := Lib.hid ((HTS.out w5 HB5.out).2 (k * 9 + 7) [.slice vp ys2.length vc, .bool no])
        obtain ⟨⟨v7, m7⟩, ⟨v8, m8⟩, q7, q8⟩ := HVF.out w5 HB5.out
        have HKG := Lib.hid (((keptB_of hgz HB1.out).trans (keptB_of hgz1 HB5.out)).trans (keptB_G (KeptG.sets g (k * 9 + 7) w5 [.slice vp ys2.length vc, .bool no])))
        have HMYE := Lib.hid HMY.out
        clear hb5 ho5 hs5
        try dsimp only
        refine hK.out _ _ (HTS.out w5 HB5.out).1 (fun hHeld => ?_)
        clear hK K1
        try simp only [Act.put, List.setIfInBounds_toArray, List.set_cons_zero, List.set_cons_succ]
        refine takeL (i := 12) rfl (v := ?vz11) (by kernel_rfl) (by kernel_rfl) (by kernel_rfl) (fun _ _ _ h => h) (Or.inl ⟨by rfl, fun _w _hSw => ?hyz11⟩) (by assumption) ?restz11
        case hyz11 =>
          (try dsimp only at _hSw)
          go_simp
          try with_reducible rfl
        try simp only [Act.put, List.setIfInBounds_toArray, List.set_cons_zero, List.set_cons_succ]
        refine takeL (i := 13) rfl (v := ?vz12) (by kernel_rfl) (by kernel_rfl) (by kernel_rfl) (fun _ _ _ h => h) (Or.inl ⟨by rfl, fun _w _hSw => ?hyz12⟩) (by assumption) ?restz12
        case hyz12 =>
          (try dsimp only at _hSw)
          go_simp
          try with_reducible rfl
        try simp only [Act.put, List.setIfInBounds_toArray, List.set_cons_zero, List.set_cons_succ]
        refine takeL (i := 14) rfl (v := ?vz13) (by kernel_rfl) (by kernel_rfl) (by kernel_rfl) (fun _ _ _ h => h) (Or.inl ⟨by rfl, fun _w _hSw => ?hyz13⟩) (by assumption) ?restz13
        case hyz13 =>
          (try dsimp only at _hSw)
          go_simp
          try with_reducible rfl
        try simp only [Act.put, List.setIfInBounds_toArray, List.set_cons_zero, List.set_cons_succ]
        refine takeL (i := 15) rfl (v := ?vz14) (by kernel_rfl) (by kernel_rfl) (by kernel_rfl) (fun _ _ _ h => h) (Or.inl ⟨by rfl, fun _w _hSw => ?hyz14⟩) (by assumption) ?restz14
        case hyz14 =>
          (try dsimp only at _hSw)
          go_simp
          try with_reducible rfl
        try simp only [Act.put, List.setIfInBounds_toArray, List.set_cons_zero, List.set_cons_succ]
        refine takeL (i := 16) rfl (v := ?vz15) (by kernel_rfl) (by kernel_rfl) (by kernel_rfl) (fun _ _ _ h => h) (Or.inl ⟨by rfl, fun _w _hSw => ?hyz15⟩) (by assumption) ?restz15
        case hyz15 =>
          (try dsimp only at _hSw)
          go_simp
          try with_reducible rfl
        try simp only [Act.put, List.setIfInBounds_toArray, List.set_cons_zero, List.set_cons_succ]
        refine wpAnyH_ready (rs := [17]) (by kernel_rfl) (by simp) (readyL rfl (fun K1 hK => ?_) AllReadyH.nil)
        go_simp
        refine hK.out _ _ HSW.out (fun _ => ?_)
        clear hK K1
        try simp only [Act.put, List.setIfInBounds_toArray, List.set_cons_zero, List.set_cons_succ]
        refine takeL (i := 18) rfl (v := ?vz16) (by kernel_rfl) (by kernel_rfl) (by kernel_rfl) (fun _ _ _ h => h) (Or.inl ⟨by rfl, fun _w _hSw => ?hyz16⟩) (by assumption) ?restz16
        case hyz16 =>
          (try dsimp only at _hSw)
          go_simp
          try with_reducible rfl
        try simp only [Act.put, List.setIfInBounds_toArray, List.set_cons_zero, List.set_cons_succ]
        refine wpAnyH_done (by kernel_rfl) ?_ _
        clear m7 m8 q7 q8
        generalize hw6 : w5.setCells g (k * 9 + 7) [.slice vp ys2.length vc, .bool no] = w6 at *
        simp only [World.setCells] at hw6
        rw [hw6]
        clear hw6
        go_wp2
        go_ret2
        rw [show mb = may from HMY.out.symm]
        exact HYES.out HVV.out (.slice vp ys2.length vc) w6 (by rw [HVR2.out]; exact HS5.out) HKG.out
    | false =>
      have HVV := Lib.hid (show voteE R (k : Int) who false = 0 by rw [HVE.out]; rfl)
      have HVR2 := Lib.hid (fun vs => (show voteR R (k : Int) who false vs = putT (putV R k vs (voteL R.ps[k]!.yes who false) true) k (failT (putV R k vs (voteL R.ps[k]!.yes who false) true).ps[k]!.try_) by rw [HVR.out vs, if_neg (by decide), Bool.not_false, Bool.or_true]))
      clear c7 c8
      obtain ⟨_, _, _, _, _, _, _, c7, c8⟩ := HR1.out.cells hk
      obtain ⟨qv2, mv2, ccv2, hvs⟩ := HR1.out.vsl hk
      have HVS := Lib.hid (HR1.out.votes k hk).1
      rw [hvs] at c7 HVS
      clear hvs
      have ht := taskF HR1.out hk
      have htz := ht.1
      have t4 := ht.cells.2.2.2.2.1
      have hnt := (task_ne HR1.out).1
      have hgz1 : g < w1.heap.size := HR1.out.row.lt
      have hbz1 : b < w1.heap.size := HR1.out.blk.lt
      have KV := Lib.hid (fun (W : World) (hs : SlAt 1 encI W (.slice qv2 mv2 ccv2) R.ps[k]!.yes) => gateVote (.slice qv2 mv2 ccv2) R.ps[k]!.no R.ps[k]!.yes who false R.ts[k]!.need W hs HYL.out)
      have HVF := Lib.hid (votesF HR1.out hk)
      have HMY := Lib.hid HMY.out
      generalize R.ts[k]!.need = nd at *
      have HTS := Lib.hid (taskS (g := g) t4 htz hnt)
      have HSV := Lib.hid (fun (X : World) (hb : Below w1.heap.size w1 X) (vs : Value) (hs : SlAt 1 encI X vs (voteL R.ps[k]!.yes who false)) (ha : Apart b g vs) => (HR1.out.below hb).setVotes hk vs (voteL R.ps[k]!.yes who false) (true) hs ha)
      generalize R.ps[k]!.yes = ys at *
      generalize R.ps[k]!.no = no at *
      clear ht
      go_wp2_with fail
      refine wp_region_held_drew (S := (fun X => X.cell? ⟨tb, tf + k * 7 + 4, none⟩ = some (.int .i64 nd))) (by kernel_rfl) (show w1.drew.cell? ⟨tb, tf + k * 7 + 4, none⟩ = some (.int .i64 nd) from t4) (fun hHeld => ?_)
      try dsimp only [List.size_toArray, List.length_cons, List.length_nil]
      refine takeL (i := 0) rfl (v := ?vz17) (by kernel_rfl) (by kernel_rfl) (by kernel_rfl) (fun _ _ _ h => h) (Or.inl ⟨by rfl, fun _w _hSw => ?hyz17⟩) (by assumption) ?restz17
      case hyz17 =>
        (try dsimp only at _hSw)
        go_simp
        try with_reducible rfl
      try simp only [Act.put, List.setIfInBounds_toArray, List.set_cons_zero, List.set_cons_succ]
      refine takeL (i := 1) rfl (v := ?vz18) (by kernel_rfl) (by kernel_rfl) (by kernel_rfl) (fun _ _ _ h => h) (Or.inl ⟨by rfl, fun _w _hSw => ?hyz18⟩) (by assumption) ?restz18
      case hyz18 =>
        (try dsimp only at _hSw)
        go_simp
        try with_reducible rfl
      try simp only [Act.put, List.setIfInBounds_toArray, List.set_cons_zero, List.set_cons_succ]
      refine takeL (i := 2) rfl (v := ?vz19) (by kernel_rfl) (by kernel_rfl) (by kernel_rfl) (fun _ _ _ h => h) (Or.inl ⟨by rfl, fun _w _hSw => ?hyz19⟩) (by assumption) ?restz19
      case hyz19 =>
        (try dsimp only at _hSw)
        go_simp
        try with_reducible rfl
      try simp only [Act.put, List.setIfInBounds_toArray, List.set_cons_zero, List.set_cons_succ]
      refine takeL (i := 3) rfl (v := ?vz20) (by kernel_rfl) (by kernel_rfl) (by kernel_rfl) (fun _ _ _ h => h) (Or.inl ⟨by rfl, fun _w _hSw => ?hyz20⟩) (by assumption) ?restz20
      case hyz20 =>
        (try dsimp only at _hSw)
        go_simp
        try with_reducible rfl
      try simp only [Act.put, List.setIfInBounds_toArray, List.set_cons_zero, List.set_cons_succ]
      refine takeL (i := 5) rfl (v := ?vz21) (by kernel_rfl) (by kernel_rfl) (by kernel_rfl) (fun _ _ _ h => h) (Or.inl ⟨by rfl, fun _w _hSw => ?hyz21⟩) (by assumption) ?restz21
      case hyz21 =>
        (try dsimp only at _hSw)
        go_simp
        try with_reducible rfl
      try simp only [Act.put, List.setIfInBounds_toArray, List.set_cons_zero, List.set_cons_succ]
      refine takeL (i := 6) rfl (v := ?vz22) (by kernel_rfl) (by kernel_rfl) (by kernel_rfl) (fun _ _ _ h => h) (Or.inl ⟨by rfl, fun _w _hSw => ?hyz22⟩) (by assumption) ?restz22
      case hyz22 =>
        (try dsimp only at _hSw)
        go_simp
        try with_reducible rfl
      try simp only [Act.put, List.setIfInBounds_toArray, List.set_cons_zero, List.set_cons_succ]
      refine takeL (i := 7) rfl (v := ?vz23) (by kernel_rfl) (by kernel_rfl) (by kernel_rfl) (fun _ _ _ h => h) (Or.inl ⟨by rfl, fun _w _hSw => ?hyz23⟩) (by assumption) ?restz23
      case hyz23 =>
        (try dsimp only at _hSw)
        go_simp
        try with_reducible rfl
      try simp only [Act.put, List.setIfInBounds_toArray, List.set_cons_zero, List.set_cons_succ]
      refine takeL (i := 8) rfl (v := ?vz24) (by kernel_rfl) (by kernel_rfl) (by kernel_rfl) (fun _ _ _ h => h) (Or.inl ⟨by rfl, fun _w _hSw => ?hyz24⟩) (by assumption) ?restz24
      case hyz24 =>
        (try dsimp only at _hSw)
        go_simp
        try with_reducible rfl
      try simp only [Act.put, List.setIfInBounds_toArray, List.set_cons_zero, List.set_cons_succ]
      refine takeL (i := 9) rfl (v := ?vz25) (by kernel_rfl) (by kernel_rfl) (by kernel_rfl) (fun _ _ _ h => h) (Or.inl ⟨by rfl, fun _w _hSw => ?hyz25⟩) (by assumption) ?restz25
      case hyz25 =>
        (try dsimp only at _hSw)
        go_simp
        try with_reducible rfl
      try simp only [Act.put, List.setIfInBounds_toArray, List.set_cons_zero, List.set_cons_succ]
      refine takeL (i := 10) rfl (v := ?vz26) (by kernel_rfl) (by kernel_rfl) (by kernel_rfl) (fun _ _ _ h => h) (Or.inl ⟨by rfl, fun _w _hSw => ?hyz26⟩) (by assumption) ?restz26
      case hyz26 =>
        (try dsimp only at _hSw)
        go_simp
        try with_reducible rfl
      try simp only [Act.put, List.setIfInBounds_toArray, List.set_cons_zero, List.set_cons_succ]
      refine wpAnyH_ready (rs := [4]) (by kernel_rfl) (by simp) (readyL rfl (fun K1 hK => ?_) AllReadyH.nil)
      go_simp
      refine hK.out _ _ ‹_› (fun _ => ?_)
      clear hK K1
      try simp only [Act.put, List.setIfInBounds_toArray, List.set_cons_zero, List.set_cons_succ]
      refine wpAnyH_ready (rs := [11]) (by kernel_rfl) (by simp) (readyL rfl (fun K1 hK => ?_) AllReadyH.nil)
      go_simp
      with_reducible refine (KV.out _ (HVS.out.below (Below.refl _ _).drew)).mono ?_
      rintro e w5 hp
      unfold VotePost at hp
      obtain ⟨v', he5, hs5, hb5, ho5⟩ := hp
      generalize (!(no || !false) && decide (nd ≤ ((voteL ys who false).length : Int))) = mb at *
      generalize voteL ys who false = ys2 at *
      rw [show (no || !false) = true by cases no <;> rfl] at he5
      subst he5
      have HB5 := Lib.hid (show Below w1.heap.size w1 w5 from (Below.refl _ _).drew.trans hb5)
      have HAP := Lib.hid (show Apart b g v' from ⟨fun e => by have := ho5 b e; simp at this; omega, fun e => by have := ho5 g e; simp at this; omega⟩)
      have HS5 := Lib.hid (HSV.out w5 HB5.out v' hs5 HAP.out)
      obtain ⟨vp, vc, rfl, _⟩ := id hs5
      have HSW := Lib.hid ((HTS.out w5 HB5.out).2 (k * 9 + 7) [.slice vp ys2.length vc, .bool true])
      obtain ⟨⟨v7, m7⟩, ⟨v8, m8⟩, q7, q8⟩ := HVF.out w5 HB5.out
      have HKG := Lib.hid (((keptB_of hgz HB1.out).trans (keptB_of hgz1 HB5.out)).trans (keptB_G (KeptG.sets g (k * 9 + 7) w5 [.slice vp ys2.length vc, .bool true])))
      have HMYE := Lib.hid HMY.out
      clear hb5 ho5 hs5
      try dsimp only
      refine hK.out _ _ (HTS.out w5 HB5.out).1 (fun hHeld => ?_)
      clear hK K1
      try simp only [Act.put, List.setIfInBounds_toArray, List.set_cons_zero, List.set_cons_succ]
      refine takeL (i := 12) rfl (v := ?vz27) (by kernel_rfl) (by kernel_rfl) (by kernel_rfl) (fun _ _ _ h => h) (Or.inl ⟨by rfl, fun _w _hSw => ?hyz27⟩) (by assumption) ?restz27
      case hyz27 =>
        (try dsimp only at _hSw)
        go_simp
        try with_reducible rfl
      try simp only [Act.put, List.setIfInBounds_toArray, List.set_cons_zero, List.set_cons_succ]
      refine takeL (i := 13) rfl (v := ?vz28) (by kernel_rfl) (by kernel_rfl) (by kernel_rfl) (fun _ _ _ h => h) (Or.inl ⟨by rfl, fun _w _hSw => ?hyz28⟩) (by assumption) ?restz28
      case hyz28 =>
        (try dsimp only at _hSw)
        go_simp
        try with_reducible rfl
      try simp only [Act.put, List.setIfInBounds_toArray, List.set_cons_zero, List.set_cons_succ]
      refine takeL (i := 14) rfl (v := ?vz29) (by kernel_rfl) (by kernel_rfl) (by kernel_rfl) (fun _ _ _ h => h) (Or.inl ⟨by rfl, fun _w _hSw => ?hyz29⟩) (by assumption) ?restz29
      case hyz29 =>
        (try dsimp only at _hSw)
        go_simp
        try with_reducible rfl
      try simp only [Act.put, List.setIfInBounds_toArray, List.set_cons_zero, List.set_cons_succ]
      refine takeL (i := 15) rfl (v := ?vz30) (by kernel_rfl) (by kernel_rfl) (by kernel_rfl) (fun _ _ _ h => h) (Or.inl ⟨by rfl, fun _w _hSw => ?hyz30⟩) (by assumption) ?restz30
      case hyz30 =>
        (try dsimp only at _hSw)
        go_simp
        try with_reducible rfl
      try simp only [Act.put, List.setIfInBounds_toArray, List.set_cons_zero, List.set_cons_succ]
      refine takeL (i := 16) rfl (v := ?vz31) (by kernel_rfl) (by kernel_rfl) (by kernel_rfl) (fun _ _ _ h => h) (Or.inl ⟨by rfl, fun _w _hSw => ?hyz31⟩) (by assumption) ?restz31
      case hyz31 =>
        (try dsimp only at _hSw)
        go_simp
        try with_reducible rfl
      try simp only [Act.put, List.setIfInBounds_toArray, List.set_cons_zero, List.set_cons_succ]
      refine wpAnyH_ready (rs := [17]) (by kernel_rfl) (by simp) (readyL rfl (fun K1 hK => ?_) AllReadyH.nil)
      go_simp
      refine hK.out _ _ HSW.out (fun _ => ?_)
      clear hK K1
      try simp only [Act.put, List.setIfInBounds_toArray, List.set_cons_zero, List.set_cons_succ]
      refine takeL (i := 18) rfl (v := ?vz32) (by kernel_rfl) (by kernel_rfl) (by kernel_rfl) (fun _ _ _ h => h) (Or.inl ⟨by rfl, fun _w _hSw => ?hyz32⟩) (by assumption) ?restz32
      case hyz32 =>
        (try dsimp only at _hSw)
        go_simp
        try with_reducible rfl
      try simp only [Act.put, List.setIfInBounds_toArray, List.set_cons_zero, List.set_cons_succ]
      refine wpAnyH_done (by kernel_rfl) ?_ _
      clear m7 m8 q7 q8
      generalize hw6 : w5.setCells g (k * 9 + 7) [.slice vp ys2.length vc, .bool true] = w6 at *
      simp only [World.setCells] at hw6
      rw [hw6]
      clear hw6
      have KFL := Lib.hid (partFail b g _ c J _ k w6 HS5.out (by unfold putV; simpa using hk))
      go_wp2_with fail
      refine KFL.out.mono ?_
      rintro e w7 ⟨rfl, hr7, hk7⟩
      have HR7 := Lib.hid hr7
      have HK7 := Lib.hid (HKG.out.trans (keptB_G hk7))
      clear hr7 hk7
      go_wp2
      go_ret2
      rw [show mb = may from HMY.out.symm]
      exact HYES.out HVV.out (.slice vp ys2.length vc) w7 (by rw [HVR2.out]; exact HR7.out) HK7.out
  · have HVE := Lib.hid (show voteE R i who yes = stE R i true 1 by unfold voteE; rw [if_neg he])
    have HFIN := Lib.hid (fun (w' : World) (hb : Below w.heap.size w w') => (show VtPost b g (tvOf tb tf tc R) c J R i who yes w (.returned (.tuple #[.bool false, .int .i64 (stE R i true 1)])) w' from by
      unfold VtPost
      rw [HVE.out, if_neg he]
      exact ⟨rfl, HR.out.below hb, keptB_of hgz hb⟩))
    have hz : (stE R i true 1 != 0) = true := by simpa using he
    clear he h
    generalize stE R i true 1 = en at *
    by_cases hf : findE R i true = 0
    all_goals
      go_enter Tryz.func29, Tryz.ntmps29
      go_wp2_with fail
      refine KH.out.mono ?_
      rintro e w1 hp
      unfold HeldPost at hp
      first | rw [if_pos hf, if_pos hf] at hp | rw [if_neg hf, if_neg hf] at hp
      obtain ⟨rfl, hb⟩ := hp
      have HB := Lib.hid hb
      clear hb hf
      go_wp2
      go_ret2
      exact HFIN.out _ HB.out
end Go.Proofs.YtbbcicengfmhiaaGreatDoor

namespace Go.Proofs.YtbbcicengfmhiaaGreatDoor
set_option maxRecDepth 100000
open Go.RowKit

def letP (R : RunM) (k : Nat) : PartV := ⟨doneT R.ps[k]!.try_, R.ps[(R.ts[k]!.after[0]!).toNat]!.out, .slice none 0 0, [], false⟩
def setP (R : RunM) (k : Nat) (p : PartV) : RunM := { R with ps := R.ps.set k p }
def letM (R : RunM) (i now : Int) : RunM × ByteArray × Int :=
  if stE R i true 1 = 0 then (advanceM (setP R i.toNat (letP R i.toNat)) now, R.ps[(R.ts[i.toNat]!.after[0]!).toNat]!.out, 0) else (R, ⟨#[]⟩, stE R i true 1)
def LetPost (b g : Nat) (tv : Value) (c : Nat) (J : List Value) (x : RunM × ByteArray × Int) (w : World) (e : Ending) (w' : World) : Prop :=
  e = .returned (.tuple #[.string x.2.1, .int .i64 x.2.2]) ∧ RAt b g tv c J x.1 w' ∧ KeptB g w w'
theorem RunAt.setWhole {TR TP : TypeId} {b g : Nat} {tv : Value} {c : Nat} {J : List Value} {R : RunM} {w : World} (h : RunAt TR TP b g tv c J R w) {j : Nat} (hj : j < R.ps.length) (p : PartV) (hs : SlAt 1 encI w p.vs p.yes) (ha : Apart b g p.vs) :
    RunAt TR TP b g tv c J (setP R j p) (w.setCells g (j * 9) (encPart p)) :=
  h.set hj p 0 (encPart p) (fun M => by
    generalize R.ps[j]! = q
    obtain ⟨⟨a1, a2, a3, a4, a5, a6⟩, o', vs, ys, no⟩ := q
    obtain ⟨⟨b1, b2, b3, b4, b5, b6⟩, p', us, zs, mo⟩ := p
    rfl) hs ha
theorem advP_out (ts : List TaskV) (now : Int) (ps : List PartV) (m : Nat) : ∀ k, k ≤ ps.length → (advP ts now k ps)[m]!.out = ps[m]!.out
  | 0, _ => rfl
  | k + 1, hk => by
    have ih := advP_out ts now ps m k (by omega)
    have hl := advP_len ts now ps k
    unfold advP
    dsimp only
    split
    · exact ih
    · by_cases hm : m < (advP ts now k ps).length
      · rw [getElem!_pos _ m (by simpa using hm), List.getElem_set]
        rw [getElem!_pos _ m hm] at ih
        split
        · rename_i e
          subst e
          rw [getElem!_pos _ k (by omega)]
          exact ih
        · exact ih
      · rw [List.getElem!_eq_getElem?_getD, List.getElem?_eq_none (by simp; omega)]
        rw [List.getElem!_eq_getElem?_getD, List.getElem?_eq_none (by omega)] at ih
        exact ih
theorem runLetNil (i now : Int) (w : World) : Calls Tryz.prog 30 #[.pointer none, .int .i64 i, .int .i64 now] w fun e w' => e = .returned (.tuple #[.string ⟨#[]⟩, .int .i64 8]) ∧ w = w' := by
  go_enter Tryz.func30, Tryz.ntmps30
  go_wp2_with fail
  refine (runOpenNil i w).mono ?_
  rintro e w1 ⟨rfl, rfl⟩
  go_wp2
  go_ret2
  exact ⟨rfl, rfl⟩
theorem partF {b g k : Nat} {tv : Value} {c : Nat} {J : List Value} {R : RunM} {w : World} (h : RAt b g tv c J R w) (hk : k < R.ps.length) (X : World) (hb : Below w.heap.size w X) :
    (∃ v, X.cell? ⟨g, k * 9 + 6, none⟩ = some v) ∧ (∃ v, X.cell? ⟨g, k * 9 + 7, none⟩ = some v) ∧ (∃ v, X.cell? ⟨g, k * 9 + 8, none⟩ = some v) ∧ X.frozen? ⟨g, k * 9 + 6, none⟩ = false ∧ X.frozen? ⟨g, k * 9 + 7, none⟩ = false ∧ X.frozen? ⟨g, k * 9 + 8, none⟩ = false := by
  have h2 := h.below hb
  obtain ⟨_, _, _, _, _, _, m6, m7, m8⟩ := h2.cells hk
  exact ⟨⟨_, m6⟩, ⟨_, m7⟩, ⟨_, m8⟩, BlkIs.frozen h2.row _, BlkIs.frozen h2.row _, BlkIs.frozen h2.row _⟩
theorem letS {b g tb ob ab oa : Nat} {pv sv av : Value} {w : World} (h1 : w.cell? ⟨b, 2, none⟩ = some pv) (h2 : w.cell? ⟨tb, ob, none⟩ = some sv) (h3 : w.cell? ⟨ab, oa, none⟩ = some av) (n1 : b ≠ g) (n2 : tb ≠ g) (n3 : ab ≠ g) (X : World) (hb : Below w.heap.size w X) :
    (X.cell? ⟨b, 2, none⟩ = some pv ∧ X.cell? ⟨tb, ob, none⟩ = some sv ∧ X.cell? ⟨ab, oa, none⟩ = some av) ∧ ∀ o vs, (X.setCells g o vs).cell? ⟨b, 2, none⟩ = some pv ∧ (X.setCells g o vs).cell? ⟨tb, ob, none⟩ = some sv ∧ (X.setCells g o vs).cell? ⟨ab, oa, none⟩ = some av := by
  have a1 := (hb.cell (p := ⟨b, 2, none⟩) (cellW_lt h1)).trans h1
  have a2 := (hb.cell (p := ⟨tb, ob, none⟩) (cellW_lt h2)).trans h2
  have a3 := (hb.cell (p := ⟨ab, oa, none⟩) (cellW_lt h3)).trans h3
  exact ⟨⟨a1, a2, a3⟩, fun o vs => ⟨((KeptG.sets g o X vs).cell n1).trans a1, ((KeptG.sets g o X vs).cell n2).trans a2, ((KeptG.sets g o X vs).cell n3).trans a3⟩⟩
set_option maxHeartbeats 8000000 in
theorem runLet (b g tb tf tc c : Nat) (J : List Value) (R : RunM) (i now : Int) (w : World) (h : RAt b g (tvOf tb tf tc R) c J R w) (hn : R.ps.length ≤ 1000) (haf : AftIn R.ts) (hla : ∀ j, j < R.ts.length → R.ts[j]!.after.length ≤ maxLen) (hga : ∀ j, j < R.ts.length → 0 < R.ts[j]!.need → 0 < R.ts[j]!.after.length) :
    Calls Tryz.prog 30 #[.pointer (some ⟨b, 0, none⟩), .int .i64 i, .int .i64 now] w (LetPost b g (tvOf tb tf tc R) c J (letM R i now) w) := by
  have KH := Lib.hid (runOpen b g tb tf tc c J R i w h hn)
  have HR := Lib.hid h
  have hgz := h.row.lt
  by_cases he : stE R i true 1 = 0
  · obtain ⟨k, rfl, hk, hnd, -, hf, -⟩ := stE_in he
    have hkt : k < R.ts.length := by rw [h.len]; exact hk
    have ha0 := hga k hkt (by simpa using hnd)
    obtain ⟨a, hae⟩ := Int.eq_ofNat_of_zero_le (haf k hkt 0 ha0).1
    have hal : a < R.ps.length := by have := (haf k hkt 0 ha0).2; rw [hae] at this; rw [← h.len]; omega
    have HLP := Lib.hid (show letP R k = ⟨doneT R.ps[k]!.try_, R.ps[a]!.out, .slice none 0 0, [], false⟩ by unfold letP; rw [hae]; rfl)
    have HMD := Lib.hid (show letM R (k : Int) now = (advanceM (setP R k ⟨doneT R.ps[k]!.try_, R.ps[a]!.out, .slice none 0 0, [], false⟩) now, R.ps[a]!.out, 0) by unfold letM; rw [if_pos he, Int.toNat_natCast, HLP.out, hae]; rfl)
    rw [he, hf] at KH
    have HFIN := Lib.hid (fun (w' : World) (h1 : RAt b g (tvOf tb tf tc R) c J (advanceM (setP R k ⟨doneT R.ps[k]!.try_, R.ps[a]!.out, .slice none 0 0, [], false⟩) now) w') (h2 : KeptB g w w') => (show LetPost b g (tvOf tb tf tc R) c J (letM R (k : Int) now) w (.returned (.tuple #[.string R.ps[a]!.out, .int .i64 0])) w' from by rw [HMD.out]; exact ⟨rfl, h1, h2⟩))
    have HOUT := Lib.hid (fun (P : PartV) => (show (advanceM (setP R k P) now).ps[k]!.out = P.out by
      unfold advanceM setP
      dsimp only
      rw [advP_out _ _ _ k _ (by simp), getElem!_pos _ k (by simpa using hk), List.getElem_set, if_pos rfl]))
    have HKL := Lib.hid (fun (P : PartV) => (show k < (advanceM (setP R k P) now).ps.length by unfold advanceM setP; dsimp only; rw [advP_len]; simpa using hk))
    have HADV := Lib.hid (fun (X : World) (P : PartV) (hx : RAt b g (tvOf tb tf tc R) c J (setP R k P) X) => runAdvance b g tb tf tc c J (setP R k P) now X hx (by unfold setP; simpa using hn) haf hla)
    have HAE := Lib.hid hae
    have HA0 := Lib.hid ha0
    clear h he hf hga haf hla hnd hae ha0
    go_enter Tryz.func30, Tryz.ntmps30
    go_wp2_with fail
    refine KH.out.mono ?_
    rintro e w1 hp
    unfold HeldPost at hp
    rw [if_pos rfl, if_pos rfl, Int.toNat_natCast] at hp
    obtain ⟨rfl, hb⟩ := hp
    have HR1 := Lib.hid (HR.out.below hb)
    have HK1 := Lib.hid (keptB_of hgz hb)
    clear hb
    obtain ⟨c0, c1, c2, c3, c4, c5, _, _, _⟩ := HR1.out.cells hk
    have d6 := (HR1.out.cells hal).2.2.2.2.2.2.1
    obtain ⟨_, _, b2, _⟩ := HR1.out.head
    have ht := taskF HR1.out hk
    have t1 := ht.cells.2.1
    obtain ⟨sp, sc, hsl, _, hac⟩ := ht.2.2
    obtain ⟨ab, oa, rfl, habz, hacc⟩ := hac HA0.out
    rw [hsl] at t1
    have a0 : w1.cell? ⟨ab, oa, none⟩ = some (.int .i64 (a : Int)) := by
      have := hacc 0 HA0.out 0 (.int .i64 R.ts[k]!.after[0]!) rfl
      rw [HAE.out] at this
      simpa using this
    have hapS := (HR1.out.apS k hkt).2
    rw [hsl] at hapS
    have hna : ab ≠ g := fun e => hapS (by rw [e]; rfl)
    have hnt := (task_ne HR1.out).1
    have hnb : b ≠ g := HR1.out.ne
    have hpos : 0 < R.ts[k]!.after.length := HA0.out
    have KL := Lib.hid (fun W => leaseDone R.ps[k]!.try_ W)
    have HCF := Lib.hid (cellsF g k HR1.out hk)
    have HPF := Lib.hid (partF HR1.out hk)
    have HSW0 := Lib.hid (letS (g := g) b2 t1 a0 hnb hnt hna)
    have HD6 := Lib.hid (fun (X : World) (hb : Below w1.heap.size w1 X) => (hb.cell (p := ⟨g, a * 9 + 6, none⟩) (HR1.out.row.lt)).trans d6)
    have hgz1 : g < w1.heap.size := HR1.out.row.lt
    have HNXT := Lib.hid (fun (X : World) (hb : Below w1.heap.size w1 X) => (HR1.out.below hb).setWhole hk ⟨doneT R.ps[k]!.try_, R.ps[a]!.out, .slice none 0 0, [], false⟩ (SlAt.nil _ _ _) ⟨by simp [Value.ownBlock], by simp [Value.ownBlock]⟩)
    obtain ⟨nt, hnt0⟩ : ∃ nt, doneT R.ps[k]!.try_ = nt := ⟨_, rfl⟩
    obtain ⟨ou, hou⟩ : ∃ ou, R.ps[a]!.out = ou := ⟨_, rfl⟩
    rw [hnt0] at KL
    rw [hnt0, hou] at HNXT HFIN
    rw [hou] at d6
    rw [hou] at HD6
    clear hnt0 hou ht hsl hacc hac hapS
    have hkz : (k : Int) < (R.ps.length : Int) := by omega
    have haz : (a : Int) < (R.ps.length : Int) := by omega
    have ha1 : (0 : Int) ≤ (a : Int) := by omega
    have hposz : (0 : Int) < (R.ts[k]!.after.length : Int) := by omega
    generalize R.ts[k]!.after.length = al at *
    generalize R.ps[k]!.try_ = pt at *
    obtain ⟨s, si, mi, wkk, ls, ti⟩ := pt
    obtain ⟨n0, n1, n2, n3, n4, n5⟩ := nt
    have HSL := Lib.hid (show ∀ P, R.ps.length = (setP R k P).ps.length from fun P => by unfold setP; simp)
    generalize hpl : R.ps.length = pl at *
    clear hpl
    go_wp2_with fail
    refine wp_region_held_drew (S := (fun X => X.cell? ⟨b, 2, none⟩ = some (.slice (some ⟨g, 0, none⟩) pl c) ∧ X.cell? ⟨tb, tf + k * 7 + 1, none⟩ = some (.slice (some ⟨ab, oa, none⟩) al sc) ∧ X.cell? ⟨ab, oa, none⟩ = some (.int .i64 (a : Int)))) (by kernel_rfl) (HSW0.out w1.drew (Below.refl _ _).drew).1 (fun hHeld => ?_)
    try dsimp only [List.size_toArray, List.length_cons, List.length_nil]
    refine takeL (i := 0) rfl (v := ?vz1) (by kernel_rfl) (by kernel_rfl) (by kernel_rfl) (fun _ _ _ h => h) (Or.inl ⟨by rfl, fun _w _hSw => ?hyz1⟩) (by assumption) ?restz1
    case hyz1 =>
      (try dsimp only at _hSw)
      go_simp
      try with_reducible rfl
    try simp only [Act.put, List.setIfInBounds_toArray, List.set_cons_zero, List.set_cons_succ]
    refine takeL (i := 1) rfl (v := ?vz2) (by kernel_rfl) (by kernel_rfl) (by kernel_rfl) (fun _ _ _ h => h) (Or.inl ⟨by rfl, fun _w _hSw => ?hyz2⟩) (by assumption) ?restz2
    case hyz2 =>
      (try dsimp only at _hSw)
      go_simp
      try with_reducible rfl
    try simp only [Act.put, List.setIfInBounds_toArray, List.set_cons_zero, List.set_cons_succ]
    refine takeL (i := 2) rfl (v := ?vz3) (by kernel_rfl) (by kernel_rfl) (by kernel_rfl) (fun _ _ _ h => h) (Or.inl ⟨by rfl, fun _w _hSw => ?hyz3⟩) (by assumption) ?restz3
    case hyz3 =>
      (try dsimp only at _hSw)
      go_simp
      try with_reducible rfl
    try simp only [Act.put, List.setIfInBounds_toArray, List.set_cons_zero, List.set_cons_succ]
    refine takeL (i := 3) rfl (v := ?vz4) (by kernel_rfl) (by kernel_rfl) (by kernel_rfl) (fun _ _ _ h => h) (Or.inl ⟨by rfl, fun _w _hSw => ?hyz4⟩) (by assumption) ?restz4
    case hyz4 =>
      (try dsimp only at _hSw)
      go_simp
      try with_reducible rfl
    try simp only [Act.put, List.setIfInBounds_toArray, List.set_cons_zero, List.set_cons_succ]
    refine takeL (i := 6) rfl (v := ?vz5) (by kernel_rfl) (by kernel_rfl) (by kernel_rfl) (fun _ _ _ h => h) (Or.inl ⟨by rfl, fun _w _hSw => ?hyz5⟩) (by assumption) ?restz5
    case hyz5 =>
      (try dsimp only at _hSw)
      go_simp
      try with_reducible rfl
    try simp only [Act.put, List.setIfInBounds_toArray, List.set_cons_zero, List.set_cons_succ]
    refine takeL (i := 7) rfl (v := ?vz6) (by kernel_rfl) (by kernel_rfl) (by kernel_rfl) (fun _ _ _ h => h) (Or.inl ⟨by rfl, fun _w _hSw => ?hyz6⟩) (by assumption) ?restz6
    case hyz6 =>
      (try dsimp only at _hSw)
      go_simp
      try with_reducible rfl
    try simp only [Act.put, List.setIfInBounds_toArray, List.set_cons_zero, List.set_cons_succ]
    refine takeL (i := 8) rfl (v := ?vz7) (by kernel_rfl) (by kernel_rfl) (by kernel_rfl) (fun _ _ _ h => h) (Or.inl ⟨by rfl, fun _w _hSw => ?hyz7⟩) (by assumption) ?restz7
    case hyz7 =>
      (try dsimp only at _hSw)
      go_simp
      try with_reducible rfl
    try simp only [Act.put, List.setIfInBounds_toArray, List.set_cons_zero, List.set_cons_succ]
    refine takeL (i := 9) rfl (v := ?vz8) (by kernel_rfl) (by kernel_rfl) (by kernel_rfl) (fun _ _ _ h => h) (Or.inl ⟨by rfl, fun _w _hSw => ?hyz8⟩) (by assumption) ?restz8
    case hyz8 =>
      (try dsimp only at _hSw)
      go_simp
      try with_reducible rfl
    try simp only [Act.put, List.setIfInBounds_toArray, List.set_cons_zero, List.set_cons_succ]
    refine takeL (i := 10) rfl (v := ?vz9) (by kernel_rfl) (by kernel_rfl) (by kernel_rfl) (fun _ _ _ h => h) (Or.inl ⟨by rfl, fun _w _hSw => ?hyz9⟩) (by assumption) ?restz9
    case hyz9 =>
      (try dsimp only at _hSw)
      go_simp
      try with_reducible rfl
    try simp only [Act.put, List.setIfInBounds_toArray, List.set_cons_zero, List.set_cons_succ]
    refine takeL (i := 11) rfl (v := ?vz10) (by kernel_rfl) (by kernel_rfl) (by kernel_rfl) (fun _ _ _ h => h) (Or.inl ⟨by rfl, fun _w _hSw => ?hyz10⟩) (by assumption) ?restz10
    case hyz10 =>
      (try dsimp only at _hSw)
      go_simp
      try with_reducible rfl
    try simp only [Act.put, List.setIfInBounds_toArray, List.set_cons_zero, List.set_cons_succ]
    refine takeL (i := 12) rfl (v := ?vz11) (by kernel_rfl) (by kernel_rfl) (by kernel_rfl) (fun _ _ _ h => h) (Or.inl ⟨by rfl, fun _w _hSw => ?hyz11⟩) (by assumption) ?restz11
    case hyz11 =>
      (try dsimp only at _hSw)
      go_simp
      try with_reducible rfl
    try simp only [Act.put, List.setIfInBounds_toArray, List.set_cons_zero, List.set_cons_succ]
    refine takeL (i := 13) rfl (v := ?vz12) (by kernel_rfl) (by kernel_rfl) (by kernel_rfl) (fun _ _ _ h => h) (Or.inl ⟨by rfl, fun _w _hSw => ?hyz12⟩) (by assumption) ?restz12
    case hyz12 =>
      (try dsimp only at _hSw)
      go_simp
      try with_reducible rfl
    try simp only [Act.put, List.setIfInBounds_toArray, List.set_cons_zero, List.set_cons_succ]
    refine takeL (i := 14) rfl (v := ?vz13) (by kernel_rfl) (by kernel_rfl) (by kernel_rfl) (fun _ _ _ h => h) (Or.inl ⟨by rfl, fun _w _hSw => ?hyz13⟩) (by assumption) ?restz13
    case hyz13 =>
      (try dsimp only at _hSw)
      go_simp
      try with_reducible rfl
    try simp only [Act.put, List.setIfInBounds_toArray, List.set_cons_zero, List.set_cons_succ]
    refine takeL (i := 15) rfl (v := ?vz14) (by kernel_rfl) (by kernel_rfl) (by kernel_rfl) (fun _ _ _ h => h) (Or.inl ⟨by rfl, fun _w _hSw => ?hyz14⟩) (by assumption) ?restz14
    case hyz14 =>
      (try dsimp only at _hSw)
      go_simp
      try with_reducible rfl
    try simp only [Act.put, List.setIfInBounds_toArray, List.set_cons_zero, List.set_cons_succ]
    refine takeL (i := 16) rfl (v := ?vz15) (by kernel_rfl) (by kernel_rfl) (by kernel_rfl) (fun _ _ _ h => h) (Or.inl ⟨by rfl, fun _w _hSw => ?hyz15⟩) (by assumption) ?restz15
    case hyz15 =>
      (try dsimp only at _hSw)
      go_simp
      try with_reducible rfl
    try simp only [Act.put, List.setIfInBounds_toArray, List.set_cons_zero, List.set_cons_succ]
    refine takeL (i := 17) rfl (v := ?vz16) (by kernel_rfl) (by kernel_rfl) (by kernel_rfl) (fun _ _ _ h => h) (Or.inl ⟨by rfl, fun _w _hSw => ?hyz16⟩) (by assumption) ?restz16
    case hyz16 =>
      (try dsimp only at _hSw)
      go_simp
      try with_reducible rfl
    try simp only [Act.put, List.setIfInBounds_toArray, List.set_cons_zero, List.set_cons_succ]
    refine wpAnyH_ready (rs := [4, 18]) (by kernel_rfl) (by simp) (readyL rfl (fun K1 hK => ?_) (readyL rfl (fun K1 hK => ?_) AllReadyH.nil))
    ·
      go_simp
      refine hK.out _ _ (HSW0.out w1.drew (Below.refl _ _).drew).1 (fun _ => ?_)
      clear hK K1
      try simp only [Act.put, List.setIfInBounds_toArray, List.set_cons_zero, List.set_cons_succ]
      refine wpAnyH_ready (rs := [5, 18]) (by kernel_rfl) (by simp) (readyL rfl (fun K1 hK => ?_) (readyL rfl (fun K1 hK => ?_) AllReadyH.nil))
      ·
        go_simp
        with_reducible refine (KL.out _).mono ?_
        rintro e w5 ⟨rfl, hb5⟩
        have HB5 := Lib.hid (show Below w1.heap.size w1 w5 from (Below.refl _ _).drew.trans hb5)
        have d5 := HD6.out w5 HB5.out
        try dsimp only
        refine hK.out _ _ (HSW0.out w5 HB5.out).1 (fun hHeld => ?_)
        clear hK K1 hb5
        try simp only [Act.put, List.setIfInBounds_toArray, List.set_cons_zero, List.set_cons_succ]
        refine wpAnyH_ready (rs := [18]) (by kernel_rfl) (by simp) (readyL rfl (fun K1 hK => ?_) AllReadyH.nil)
        go_simp
        refine hK.out _ _ (HSW0.out w5 HB5.out).1 (fun _ => ?_)
        clear hK K1
        try simp only [Act.put, List.setIfInBounds_toArray, List.set_cons_zero, List.set_cons_succ]
        refine takeL (i := 19) rfl (v := ?vz17) (by kernel_rfl) (by kernel_rfl) (by kernel_rfl) (fun _ _ _ h => h) (Or.inl ⟨by rfl, fun _w _hSw => ?hyz17⟩) (by assumption) ?restz17
        case hyz17 =>
          (try dsimp only at _hSw)
          go_simp
          try with_reducible rfl
        try simp only [Act.put, List.setIfInBounds_toArray, List.set_cons_zero, List.set_cons_succ]
        refine takeL (i := 20) rfl (v := ?vz18) (by kernel_rfl) (by kernel_rfl) (by kernel_rfl) (fun _ _ _ h => h) (Or.inl ⟨by rfl, fun _w _hSw => ?hyz18⟩) (by assumption) ?restz18
        case hyz18 =>
          (try dsimp only at _hSw)
          go_simp
          try with_reducible rfl
        try simp only [Act.put, List.setIfInBounds_toArray, List.set_cons_zero, List.set_cons_succ]
        have HN5 := Lib.hid (HNXT.out w5 HB5.out)
        have HSW := Lib.hid ((HSW0.out w5 HB5.out).2 (k * 9) (encPart ⟨⟨n0, n1, n2, n3, n4, n5⟩, ou, .slice none 0 0, [], false⟩))
        obtain ⟨⟨v0, m0⟩, ⟨v1, m1⟩, ⟨v2, m2⟩, ⟨v3, m3⟩, ⟨v4, m4⟩, ⟨v5, m5⟩, q0, q1, q2, q3, q4, q5⟩ := HCF.out w5 HB5.out
        obtain ⟨⟨v6, m6⟩, ⟨v7, m7⟩, ⟨v8, m8⟩, q6, q7, q8⟩ := HPF.out w5 HB5.out
        have HKG := Lib.hid ((HK1.out.trans (keptB_of hgz1 HB5.out)).trans (keptB_G (KeptG.sets g (k * 9) w5 (encPart ⟨⟨n0, n1, n2, n3, n4, n5⟩, ou, .slice none 0 0, [], false⟩))))
        refine wpAnyH_ready (rs := [21]) (by kernel_rfl) (by simp) (readyL rfl (fun K1 hK => ?_) AllReadyH.nil)
        go_simp
        refine hK.out _ _ HSW.out (fun _ => ?_)
        clear hK K1
        try simp only [Act.put, List.setIfInBounds_toArray, List.set_cons_zero, List.set_cons_succ]
        refine wpAnyH_done (by kernel_rfl) ?_ _
        clear m0 m1 m2 m3 m4 m5 m6 m7 m8 q0 q1 q2 q3 q4 q5 q6 q7 q8
        generalize hw6 : w5.setCells g (k * 9) (encPart ⟨⟨n0, n1, n2, n3, n4, n5⟩, ou, .slice none 0 0, [], false⟩) = w6 at *
        simp only [World.setCells, encPart, encTry, List.cons_append, List.nil_append] at hw6
        rw [hw6]
        clear hw6
        go_wp2_with fail
        refine (HADV.out w6 _ HN5.out).mono ?_
        rintro e w7 ⟨rfl, hr7, hk7⟩
        have HR7 := Lib.hid hr7
        have HK7 := Lib.hid (HKG.out.trans hk7)
        obtain ⟨_, _, g2, _⟩ := hr7.head
        have g6 := (hr7.cells (HKL.out _)).2.2.2.2.2.2.1
        rw [HOUT.out] at g6
        rw [show (advanceM (setP R k ⟨⟨n0, n1, n2, n3, n4, n5⟩, ou, .slice none 0 0, [], false⟩) now).ps.length = pl by rw [show (advanceM (setP R k ⟨⟨n0, n1, n2, n3, n4, n5⟩, ou, .slice none 0 0, [], false⟩) now).ps.length = (setP R k ⟨⟨n0, n1, n2, n3, n4, n5⟩, ou, .slice none 0 0, [], false⟩).ps.length from advP_len _ _ _ _, ← HSL.out]] at g2
        clear hr7 hk7
        go_wp2
        go_ret2
        exact HFIN.out w7 HR7.out HK7.out
      ·
        go_simp
        refine hK.out _ _ (HSW0.out w1.drew (Below.refl _ _).drew).1 (fun _ => ?_)
        clear hK K1
        try simp only [Act.put, List.setIfInBounds_toArray, List.set_cons_zero, List.set_cons_succ]
        refine wpAnyH_ready (rs := [5]) (by kernel_rfl) (by simp) (readyL rfl (fun K1 hK => ?_) AllReadyH.nil)
        go_simp
        with_reducible refine (KL.out _).mono ?_
        rintro e w5 ⟨rfl, hb5⟩
        have HB5 := Lib.hid (show Below w1.heap.size w1 w5 from (Below.refl _ _).drew.trans hb5)
        have d5 := HD6.out w5 HB5.out
        try dsimp only
        refine hK.out _ _ (HSW0.out w5 HB5.out).1 (fun hHeld => ?_)
        clear hK K1 hb5
        try simp only [Act.put, List.setIfInBounds_toArray, List.set_cons_zero, List.set_cons_succ]
        refine takeL (i := 19) rfl (v := ?vz19) (by kernel_rfl) (by kernel_rfl) (by kernel_rfl) (fun _ _ _ h => h) (Or.inl ⟨by rfl, fun _w _hSw => ?hyz19⟩) (by assumption) ?restz19
        case hyz19 =>
          (try dsimp only at _hSw)
          go_simp
          try with_reducible rfl
        try simp only [Act.put, List.setIfInBounds_toArray, List.set_cons_zero, List.set_cons_succ]
        refine takeL (i := 20) rfl (v := ?vz20) (by kernel_rfl) (by kernel_rfl) (by kernel_rfl) (fun _ _ _ h => h) (Or.inl ⟨by rfl, fun _w _hSw => ?hyz20⟩) (by assumption) ?restz20
        case hyz20 =>
          (try dsimp only at _hSw)
          go_simp
          try with_reducible rfl
        try simp only [Act.put, List.setIfInBounds_toArray, List.set_cons_zero, List.set_cons_succ]
        have HN5 := Lib.hid (HNXT.out w5 HB5.out)
        have HSW := Lib.hid ((HSW0.out w5 HB5.out).2 (k * 9) (encPart ⟨⟨n0, n1, n2, n3, n4, n5⟩, ou, .slice none 0 0, [], false⟩))
        obtain ⟨⟨v0, m0⟩, ⟨v1, m1⟩, ⟨v2, m2⟩, ⟨v3, m3⟩, ⟨v4, m4⟩, ⟨v5, m5⟩, q0, q1, q2, q3, q4, q5⟩ := HCF.out w5 HB5.out
        obtain ⟨⟨v6, m6⟩, ⟨v7, m7⟩, ⟨v8, m8⟩, q6, q7, q8⟩ := HPF.out w5 HB5.out
        have HKG := Lib.hid ((HK1.out.trans (keptB_of hgz1 HB5.out)).trans (keptB_G (KeptG.sets g (k * 9) w5 (encPart ⟨⟨n0, n1, n2, n3, n4, n5⟩, ou, .slice none 0 0, [], false⟩))))
        refine wpAnyH_ready (rs := [21]) (by kernel_rfl) (by simp) (readyL rfl (fun K1 hK => ?_) AllReadyH.nil)
        go_simp
        refine hK.out _ _ HSW.out (fun _ => ?_)
        clear hK K1
        try simp only [Act.put, List.setIfInBounds_toArray, List.set_cons_zero, List.set_cons_succ]
        refine wpAnyH_done (by kernel_rfl) ?_ _
        clear m0 m1 m2 m3 m4 m5 m6 m7 m8 q0 q1 q2 q3 q4 q5 q6 q7 q8
        generalize hw6 : w5.setCells g (k * 9) (encPart ⟨⟨n0, n1, n2, n3, n4, n5⟩, ou, .slice none 0 0, [], false⟩) = w6 at *
        simp only [World.setCells, encPart, encTry, List.cons_append, List.nil_append] at hw6
        rw [hw6]
        clear hw6
        go_wp2_with fail
        refine (HADV.out w6 _ HN5.out).mono ?_
        rintro e w7 ⟨rfl, hr7, hk7⟩
        have HR7 := Lib.hid hr7
        have HK7 := Lib.hid (HKG.out.trans hk7)
        obtain ⟨_, _, g2, _⟩ := hr7.head
        have g6 := (hr7.cells (HKL.out _)).2.2.2.2.2.2.1
        rw [HOUT.out] at g6
        rw [show (advanceM (setP R k ⟨⟨n0, n1, n2, n3, n4, n5⟩, ou, .slice none 0 0, [], false⟩) now).ps.length = pl by rw [show (advanceM (setP R k ⟨⟨n0, n1, n2, n3, n4, n5⟩, ou, .slice none 0 0, [], false⟩) now).ps.length = (setP R k ⟨⟨n0, n1, n2, n3, n4, n5⟩, ou, .slice none 0 0, [], false⟩).ps.length from advP_len _ _ _ _, ← HSL.out]] at g2
        clear hr7 hk7
        go_wp2
        go_ret2
        exact HFIN.out w7 HR7.out HK7.out
    ·
      go_simp
      refine hK.out _ _ (HSW0.out w1.drew (Below.refl _ _).drew).1 (fun _ => ?_)
      clear hK K1
      try simp only [Act.put, List.setIfInBounds_toArray, List.set_cons_zero, List.set_cons_succ]
      refine wpAnyH_ready (rs := [4]) (by kernel_rfl) (by simp) (readyL rfl (fun K1 hK => ?_) AllReadyH.nil)
      go_simp
      refine hK.out _ _ (HSW0.out w1.drew (Below.refl _ _).drew).1 (fun _ => ?_)
      clear hK K1
      try simp only [Act.put, List.setIfInBounds_toArray, List.set_cons_zero, List.set_cons_succ]
      refine wpAnyH_ready (rs := [5]) (by kernel_rfl) (by simp) (readyL rfl (fun K1 hK => ?_) AllReadyH.nil)
      go_simp
      with_reducible refine (KL.out _).mono ?_
      rintro e w5 ⟨rfl, hb5⟩
      have HB5 := Lib.hid (show Below w1.heap.size w1 w5 from (Below.refl _ _).drew.trans hb5)
      have d5 := HD6.out w5 HB5.out
      try dsimp only
      refine hK.out _ _ (HSW0.out w5 HB5.out).1 (fun hHeld => ?_)
      clear hK K1 hb5
      try simp only [Act.put, List.setIfInBounds_toArray, List.set_cons_zero, List.set_cons_succ]
      refine takeL (i := 19) rfl (v := ?vz21) (by kernel_rfl) (by kernel_rfl) (by kernel_rfl) (fun _ _ _ h => h) (Or.inl ⟨by rfl, fun _w _hSw => ?hyz21⟩) (by assumption) ?restz21
      case hyz21 =>
        (try dsimp only at _hSw)
        go_simp
        try with_reducible rfl
      try simp only [Act.put, List.setIfInBounds_toArray, List.set_cons_zero, List.set_cons_succ]
      refine takeL (i := 20) rfl (v := ?vz22) (by kernel_rfl) (by kernel_rfl) (by kernel_rfl) (fun _ _ _ h => h) (Or.inl ⟨by rfl, fun _w _hSw => ?hyz22⟩) (by assumption) ?restz22
      case hyz22 =>
        (try dsimp only at _hSw)
        go_simp
        try with_reducible rfl
      try simp only [Act.put, List.setIfInBounds_toArray, List.set_cons_zero, List.set_cons_succ]
      have HN5 := Lib.hid (HNXT.out w5 HB5.out)
      have HSW := Lib.hid ((HSW0.out w5 HB5.out).2 (k * 9) (encPart ⟨⟨n0, n1, n2, n3, n4, n5⟩, ou, .slice none 0 0, [], false⟩))
      obtain ⟨⟨v0, m0⟩, ⟨v1, m1⟩, ⟨v2, m2⟩, ⟨v3, m3⟩, ⟨v4, m4⟩, ⟨v5, m5⟩, q0, q1, q2, q3, q4, q5⟩ := HCF.out w5 HB5.out
      obtain ⟨⟨v6, m6⟩, ⟨v7, m7⟩, ⟨v8, m8⟩, q6, q7, q8⟩ := HPF.out w5 HB5.out
      have HKG := Lib.hid ((HK1.out.trans (keptB_of hgz1 HB5.out)).trans (keptB_G (KeptG.sets g (k * 9) w5 (encPart ⟨⟨n0, n1, n2, n3, n4, n5⟩, ou, .slice none 0 0, [], false⟩))))
      refine wpAnyH_ready (rs := [21]) (by kernel_rfl) (by simp) (readyL rfl (fun K1 hK => ?_) AllReadyH.nil)
      go_simp
      refine hK.out _ _ HSW.out (fun _ => ?_)
      clear hK K1
      try simp only [Act.put, List.setIfInBounds_toArray, List.set_cons_zero, List.set_cons_succ]
      refine wpAnyH_done (by kernel_rfl) ?_ _
      clear m0 m1 m2 m3 m4 m5 m6 m7 m8 q0 q1 q2 q3 q4 q5 q6 q7 q8
      generalize hw6 : w5.setCells g (k * 9) (encPart ⟨⟨n0, n1, n2, n3, n4, n5⟩, ou, .slice none 0 0, [], false⟩) = w6 at *
      simp only [World.setCells, encPart, encTry, List.cons_append, List.nil_append] at hw6
      rw [hw6]
      clear hw6
      go_wp2_with fail
      refine (HADV.out w6 _ HN5.out).mono ?_
      rintro e w7 ⟨rfl, hr7, hk7⟩
      have HR7 := Lib.hid hr7
      have HK7 := Lib.hid (HKG.out.trans hk7)
      obtain ⟨_, _, g2, _⟩ := hr7.head
      have g6 := (hr7.cells (HKL.out _)).2.2.2.2.2.2.1
      rw [HOUT.out] at g6
      rw [show (advanceM (setP R k ⟨⟨n0, n1, n2, n3, n4, n5⟩, ou, .slice none 0 0, [], false⟩) now).ps.length = pl by rw [show (advanceM (setP R k ⟨⟨n0, n1, n2, n3, n4, n5⟩, ou, .slice none 0 0, [], false⟩) now).ps.length = (setP R k ⟨⟨n0, n1, n2, n3, n4, n5⟩, ou, .slice none 0 0, [], false⟩).ps.length from advP_len _ _ _ _, ← HSL.out]] at g2
      clear hr7 hk7
      go_wp2
      go_ret2
      exact HFIN.out w7 HR7.out HK7.out
  · have HMD := Lib.hid (show letM R i now = (R, ⟨#[]⟩, stE R i true 1) by unfold letM; rw [if_neg he])
    have HFIN := Lib.hid (fun (w' : World) (hb : Below w.heap.size w w') => (show LetPost b g (tvOf tb tf tc R) c J (letM R i now) w (.returned (.tuple #[.string ⟨#[]⟩, .int .i64 (stE R i true 1)])) w' from by rw [HMD.out]; exact ⟨rfl, HR.out.below hb, keptB_of hgz hb⟩))
    have hz : (stE R i true 1 != 0) = true := by simpa using he
    clear he h
    generalize stE R i true 1 = en at *
    by_cases hf : findE R i true = 0
    all_goals
      go_enter Tryz.func30, Tryz.ntmps30
      go_wp2_with fail
      refine KH.out.mono ?_
      rintro e w1 hp
      unfold HeldPost at hp
      first | rw [if_pos hf, if_pos hf] at hp | rw [if_neg hf, if_neg hf] at hp
      obtain ⟨rfl, hb⟩ := hp
      have HB := Lib.hid hb
      clear hb hf
      go_wp2
      go_ret2
      exact HFIN.out _ HB.out
end Go.Proofs.YtbbcicengfmhiaaGreatDoor

namespace Go.Proofs.YtbbcicengfmhiaaGreatDoor
set_option maxRecDepth 100000
open Go.RowKit

theorem textL_lenS {s : List UInt8} (h : s.length ≤ 1000000) : (textL s).length ≤ s.length + 22 := by
  have := numL_len (n := (s.length : Int)) ⟨by omega, by omega⟩
  simp only [textL, List.length_append]
  omega
def inpL (ps : List PartV) (al : List Int) : List UInt8 := al.flatMap fun a => textL ps[a.toNat]!.out.data.toList
theorem inpL_succ {ps : List PartV} {al : List Int} {k : Nat} (hk : k < al.length) : inpL ps (al.take (k + 1)) = inpL ps (al.take k) ++ textL ps[(al[k]!).toNat]!.out.data.toList := by
  unfold inpL
  rw [List.take_succ_eq_append_getElem hk, List.flatMap_append, getElem!_pos al k hk]
  simp
theorem inpL_len {ps : List PartV} {al : List Int} (ho : ∀ a : Nat, a < ps.length → ps[a]!.out.size ≤ 1000) (hin : ∀ j, j < al.length → 0 ≤ al[j]! ∧ al[j]! < ps.length) : ∀ k, k ≤ al.length → (inpL ps (al.take k)).length ≤ k * 1022 := by
  intro k
  induction k with
  | zero => intro _; simp [inpL]
  | succ k ih =>
    intro hk
    have h0 := ih (by omega)
    have h1 := hin k (by omega)
    have h2 := ho (al[k]!).toNat (by omega)
    have h3 : ps[(al[k]!).toNat]!.out.data.toList.length = ps[(al[k]!).toNat]!.out.size := by rw [Array.length_toList]; rfl
    have h4 := textL_lenS (s := ps[(al[k]!).toNat]!.out.data.toList) (by omega)
    rw [inpL_succ (by omega), List.length_append]
    omega
theorem textL_ne (s : List UInt8) : textL s ≠ [] := by simp [textL, numL]
set_option maxHeartbeats 2000000 in
theorem runInputNil (i : Int) (w : World) : Calls Tryz.prog 33 #[.pointer none, .int .i64 i] w fun e w' => e = .returned (.string ⟨#[]⟩) ∧ Below w.heap.size w w' := by
  have HB := Lib.hid (below1 w (.cells #[.pointer none, .slice none 0 0] 117))
  have HW := Lib.hid (BlkIs.alloc w [.pointer none, .slice none 0 0] 117)
  go_enter Tryz.func33, Tryz.ntmps33
  go_wp2_with fail
  refine (runIsNil i _).mono ?_
  rintro e w1 ⟨rfl, rfl⟩
  go_wp2_with fail
  refine (writerString0 w.heap.size _ HW.out).mono ?_
  rintro e w2 ⟨rfl, hb⟩
  have HB2 := Lib.hid (HB.out.trans (hb.mono HB.out.size))
  clear hb
  go_wp2
  go_ret
  exact ⟨rfl, HB2.out⟩
set_option maxHeartbeats 4000000 in
theorem runInput (b g tb tf tc c : Nat) (J : List Value) (R : RunM) (k : Nat) (w : World) (h : RAt b g (tvOf tb tf tc R) c J R w) (hn : R.ps.length ≤ 1000) (hk : k < R.ps.length) (haf : AftIn R.ts) (hla : R.ts[k]!.after.length ≤ 1000) (hpos : 0 < R.ts[k]!.after.length) (ho : ∀ a : Nat, a < R.ps.length → R.ps[a]!.out.size ≤ 1000) (hM : Met w) :
    Calls Tryz.prog 33 #[.pointer (some ⟨b, 0, none⟩), .int .i64 k] w fun e w' => e = .returned (.string ⟨(inpL R.ps R.ts[k]!.after).toArray⟩) ∧ Below w.heap.size w w' := by
  have HM := Lib.hid hM
  have h9 := hM.size
  have hkt : k < R.ts.length := by rw [h.len]; exact hk
  have hb1 := below1 w (.cells #[.pointer none, .slice none 0 0] 117)
  have HB1 := Lib.hid hb1
  have HW0 := Lib.hid (WrAt.fresh (w.heap.size + 1) (Nat.lt_succ_self _) (by simp) (BlkIs.alloc w [.pointer none, .slice none 0 0] 117))
  have K := runIs b g _ c J R k _ (h.below hb1)
  rw [show isP R.ps.length k = true by simp [isP]; omega] at K
  have K71 := Lib.hid K
  have HR := Lib.hid (fun (X : World) (hb : Below w.heap.size w X) => h.below hb)
  have HIN := Lib.hid (fun j (hj : j < R.ts[k]!.after.length) => (show 0 ≤ R.ts[k]!.after[j]! ∧ R.ts[k]!.after[j]! < R.ps.length from by have := haf k hkt j hj; rw [h.len] at this; exact this))
  have HLN := Lib.hid (inpL_len (ps := R.ps) (al := R.ts[k]!.after) ho HIN.out)
  have HSC := Lib.hid (fun j (hj : j < R.ts[k]!.after.length) => inpL_succ (ps := R.ps) (al := R.ts[k]!.after) hj)
  have HO := Lib.hid ho
  obtain ⟨_, d1, d2, _⟩ := (h.below hb1).head
  unfold tvOf at d1
  have ht := taskF h hk
  have t1 := (hb1.cell (p := ⟨tb, tf + k * 7 + 1, none⟩) ht.1).trans ht.cells.2.1
  have hkz : (k : Int) < (R.ts.length : Int) := by omega
  have HSL := Lib.hid ht.2.2
  have hbz := h.blk.lt
  have hgz := h.row.lt
  clear h hM hb1 ht haf ho K
  obtain ⟨sp, sc, hsl, _, hac⟩ := HSL.out
  rw [hsl] at t1
  have HAC := Lib.hid hac
  clear hsl hac
  generalize R.ts[k]!.after = al at *
  generalize hm : al.length = m at *
  have HMM := Lib.hid hm
  clear hm
  go_enter Tryz.func33, Tryz.ntmps33
  go_wp2_with fail
  generalize w.alloc (.cells #[.pointer none, .slice none 0 0] 117) = W1 at *
  refine K71.out.mono ?_
  rintro e w2 ⟨rfl, rfl⟩
  go_wp2
  have HBW := Lib.hid (show Below w.heap.size w W1 from HB1.out)
  go_loopw [7, 23] (fun _ s23 wr => ∃ j : Nat, s23 = .int .i64 j ∧ j ≤ m ∧ (∃ T, WrAt (w.heap.size + 1) T w.heap.size (inpL R.ps (al.take j)) wr) ∧ Below w.heap.size w wr) (fun _ s23 _ => m - (intOf s23).toNat)
  case atStart => exact ⟨0, by go_num, by omega, ⟨_, HW0.out⟩, HB1.out⟩
  case round =>
    obtain ⟨j, rfl, hj, ⟨T, hW⟩, hB⟩ := hrel
    have HW := Lib.hid hW
    have HB := Lib.hid hB
    clear hW hB
    by_cases hlt : j < m
    · have hltz : (j : Int) < (m : Int) := by omega
      obtain ⟨h0, h1⟩ := HIN.out j hlt
      obtain ⟨a, hae⟩ := Int.eq_ofNat_of_zero_le h0
      obtain ⟨ab, oa, rfl, habz, hacc⟩ := HAC.out hpos
      have a0 := (HB.out.cell (p := ⟨ab, oa + j * 1 + 0, none⟩) habz).trans (hacc j (by have := HMM.out; omega) 0 (.int .i64 al[j]!) rfl)
      rw [Nat.mul_one, Nat.add_zero, hae] at a0
      have hal : a < R.ps.length := by omega
      have d6 := ((HR.out wr HB.out).cells hal).2.2.2.2.2.2.1
      obtain ⟨_, _, e2, _⟩ := (HR.out wr HB.out).head
      have HSJ := Lib.hid (HSC.out j (by have := HMM.out; omega))
      have HLJ := Lib.hid (HLN.out j (by have := HMM.out; omega))
      have HOA := Lib.hid (HO.out a hal)
      have haz : (a : Int) < (R.ps.length : Int) := by omega
      have ha0 : (0 : Int) ≤ (a : Int) := by omega
      rw [hae] at HSJ
      rw [show ((a : Int)).toNat = a from Int.toNat_natCast a] at HSJ
      clear hacc h0 h1 hae
      generalize R.ps[a]!.out = ou at *
      have hb3 := below1 wr (.cells #[.string ou] 9)
      have HB3 := Lib.hid (HB.out.trans (hb3.mono HB.out.size))
      have K2 := Lib.hid (writerText (w.heap.size + 1) T w.heap.size wr.heap.size 0 1 _ ou _ (HW.out.below hb3) (HM.out.below HB3.out) h9 (by have := HLJ.out; have := HOA.out; omega) (by have := HW.out.1.1; have := HW.out.1.2.1; omega) ((BlkIs.alloc wr [.string ou] 9).cell 0))
      clear hb3
      generalize R.ps.length = pl at *
      go_wp2_with fail
      refine K2.out.mono ?_
      rintro e w4 ⟨rfl, ⟨T4, hW4⟩, hk4⟩
      have HW4 := Lib.hid hW4
      have HB4 := Lib.hid (HB3.out.trans (hk4.1 w.heap.size (Nat.le_refl _)))
      clear hW4 hk4 K2 a0 d6 e2
      go_wp2
      go_roundw
      case rel => exact ⟨j + 1, by go_num, by omega, ⟨_, by rw [HSJ.out]; exact HW4.out⟩, HB4.out⟩
      case measure => simp [intOf] <;> omega
    · obtain rfl : j = m := by omega
      have HTK := Lib.hid (show al.take j = al by rw [← HMM.out]; exact List.take_length)
      rw [HTK.out] at HW
      have hne : inpL R.ps al ≠ [] := by
        have h1 := HSC.out 0 hpos
        intro e
        have h2 : inpL R.ps (al.take 1) = [] := by
          have h3 : inpL R.ps al = inpL R.ps (al.take 1) ++ inpL R.ps (al.drop 1) := by
            unfold inpL
            rw [← List.flatMap_append, List.take_append_drop]
          rw [e] at h3
          exact (List.append_eq_nil_iff.1 h3.symm).1
        rw [h1] at h2
        exact textL_ne _ (List.append_eq_nil_iff.1 h2).2
      have K3 := Lib.hid (writerString (w.heap.size + 1) T w.heap.size _ wr HW.out hne)
      clear hne
      go_wp2_with fail
      refine K3.out.mono ?_
      rintro e w5 ⟨rfl, hk5⟩
      have HB5 := Lib.hid (HB.out.trans (hk5.1.mono (by omega)))
      clear hk5
      go_wp2
      go_ret
      exact ⟨rfl, HB5.out⟩
end Go.Proofs.YtbbcicengfmhiaaGreatDoor

namespace Go.Proofs.YtbbcicengfmhiaaGreatDoor
set_option maxRecDepth 100000
open Go.RowKit

def loneB (t : TaskV) : Bool := decide (0 < t.need) && (t.after.length != 1)
def mayP (nm : ByteArray) (ts : List TaskV) : Bool := pipeB nm ts && (decide (roundP nm ts < 0) && !(ts.any loneB))
theorem eg86 : ∀ args w, (callFunc 86 args).run Tryz.prog w = .ok (.enter 86 args) w := enters_of Tryz.func86 (by kernel_rfl) rfl
theorem tlen_lone (need : Int) (n : Nat) : (decide (0 < need) && (n != 1)) = (decide (0 < need) && !((n : Int) == 1)) := by
  congr 1
  rw [Bool.eq_iff_iff]
  simp; omega
/-- asked of a task -/
theorem lonePred (t : TaskV) (W : World) (hsl : ∃ p c, t.sl = .slice p t.after.length c) (hl : t.after.length ≤ maxLen) : Calls Tryz.prog 86 #[.agg (encT t).toArray] W fun e w' => e = .returned (.bool (loneB t)) ∧ Below W.heap.size W w' := by
  obtain ⟨nm, sl, aft, retry, time, need, lv, set⟩ := t
  obtain ⟨p, c, hp⟩ := hsl
  dsimp only at hp hl
  subst hp
  have HX := Lib.hid (below1 W (.cells #[.string nm, .slice p aft.length c, .int .i64 retry, .int .i64 time, .int .i64 need, .int .i64 lv, .int .u16 (set : Int)] 100))
  have HE := Lib.hid (show loneB ⟨nm, .slice p aft.length c, aft, retry, time, need, lv, set⟩ = (decide (0 < need) && !((aft.length : Int) == 1)) by unfold loneB; exact tlen_lone _ _)
  rw [HE.out]
  show Calls Tryz.prog 86 #[.agg #[.string nm, .slice p aft.length c, .int .i64 retry, .int .i64 time, .int .i64 need, .int .i64 lv, .int .u16 (set : Int)]] W _
  unfold maxLen at hl
  clear HE
  generalize aft.length = n at *
  by_cases h0 : 0 < need
  · by_cases h1 : n = 1
    · rw [show (decide (0 < need) && !((n : Int) == 1)) = false by simp [h0, h1]]
      subst h1
      go_enter Tryz.func86, Tryz.ntmps86
      go_wp2
      go_ret
      exact ⟨rfl, HX.out⟩
    · rw [show (decide (0 < need) && !((n : Int) == 1)) = true by simp [h0]; omega]
      have h2 : ((n : Int) != 1) = true := by simp; omega
      have h3 : (n != 1) = true := by simpa using h1
      clear h1
      go_enter Tryz.func86, Tryz.ntmps86
      go_wp2
      go_ret
      exact ⟨rfl, HX.out⟩
  · rw [show (decide (0 < need) && !((n : Int) == 1)) = false by simp [h0]]
    have h2 : decide (0 < need) = false := by simpa using h0
    clear h0
    go_enter Tryz.func86, Tryz.ntmps86
    go_wp2
    go_ret
    exact ⟨rfl, HX.out⟩
set_option maxHeartbeats 2000000 in
theorem idxFuncT (v : Value) (ts : List TaskV) (w : World) (h : TasksAt w v ts) (hbig : ts.length ≤ 1000) (hla : ∀ j, j < ts.length → ts[j]!.after.length ≤ maxLen) :
    Calls Tryz.prog 128 #[v, .func (.func 86) #[] #[]] w fun e w' => e = .returned (.int .i64 (idxI loneB ts)) ∧ Below w.heap.size w w' := by
  obtain ⟨pp, c, rfl, hpos⟩ := h.val
  have HT := Lib.hid h
  have HLA := Lib.hid hla
  clear h hla
  generalize hlen : ts.length = n at *
  have HL := Lib.hid hlen
  clear hlen
  go_enter Tryz.func128, Tryz.ntmps128
  go_wp2
  go_loopw [5, 8] (fun _ i wr => ∃ j : Nat, j ≤ n ∧ i = .int .i64 j ∧ Below w.heap.size w wr ∧ ∀ k, k < j → loneB ts[k]! = false) (fun _ i _ => n - (intOf i).toNat)
  case atStart => exact ⟨0, by omega, rfl, Below.refl _ _, fun k hk => absurd hk (by omega)⟩
  case round =>
    obtain ⟨j, hj, rfl, hB, hall⟩ := hrel
    have HB := Lib.hid hB
    have HA := Lib.hid hall
    clear hB hall
    by_cases hlt : j < n
    · have hltz : (j : Int) < (n : Int) := by omega
      obtain ⟨b, off, rfl⟩ := hpos (by omega)
      have hjl : j < ts.length := by have := HL.out; omega
      have ht := (HT.out.below HB.out).at (j := j) hjl
      obtain ⟨t0, t1, t2, t3, t4, t5, t6⟩ := ht.cells
      have hsl : ∃ p c, ts[j]!.sl = .slice p ts[j]!.after.length c := by
        obtain ⟨p, c, hv, _⟩ := ht.2.2
        exact ⟨p, c, hv⟩
      have K := lonePred ts[j]! wr hsl (HLA.out j (by omega))
      obtain ⟨sp, sc, hse⟩ := hsl
      clear ht
      cases hq : loneB ts[j]! with
      | false =>
        rw [hq] at K
        have HNX := Lib.hid (fun k (hk : k < j + 1) => (show loneB ts[k]! = false by by_cases e : k = j; (rw [e]; exact hq); exact HA.out k (by omega)))
        clear hq hjl
        generalize ts[j]! = x at *
        obtain ⟨nm, sl, aft, retry, time, need, lv, set⟩ := x
        dsimp only at hse
        subst hse
        have K := Lib.hid K
        simp only [encT] at K
        go_wp2_with fail
        refine K.out.mono ?_
        rintro e w' ⟨rfl, hb'⟩
        have HB' := Lib.hid (HB.out.trans (hb'.mono HB.out.size))
        clear hb'
        go_wp2
        go_roundw
        case rel => exact ⟨j + 1, by omega, by go_num, HB'.out, HNX.out⟩
        case measure => simp [intOf] <;> omega
      | true =>
        rw [hq] at K
        have HRES := Lib.hid (idxI_hit hjl hq HA.out)
        clear hq hjl
        generalize ts[j]! = x at *
        obtain ⟨nm, sl, aft, retry, time, need, lv, set⟩ := x
        dsimp only at hse
        subst hse
        have K := Lib.hid K
        simp only [encT] at K
        go_wp2_with fail
        refine K.out.mono ?_
        rintro e w' ⟨rfl, hb'⟩
        have HB' := Lib.hid (HB.out.trans (hb'.mono HB.out.size))
        clear hb'
        go_wp2
        go_ret
        exact ⟨by rw [HRES.out]; rfl, HB'.out⟩
    · obtain rfl : j = n := by omega
      have HRES := Lib.hid (idxI_miss (p := loneB) (xs := ts) (by have := HL.out; intro k hk; exact HA.out k (by omega)))
      go_wp2
      go_ret
      exact ⟨by rw [HRES.out]; rfl, HB.out⟩
theorem anyFuncT (v : Value) (ts : List TaskV) (w : World) (h : TasksAt w v ts) (hbig : ts.length ≤ 1000) (hla : ∀ j, j < ts.length → ts[j]!.after.length ≤ maxLen) :
    Calls Tryz.prog 89 #[v, .func (.func 86) #[] #[]] w fun e w' => e = .returned (.bool (ts.any loneB)) ∧ Below w.heap.size w w' := by
  have hc := idxFuncT v ts w h hbig hla
  rw [← idxI_any]
  generalize idxI loneB ts = r at hc ⊢
  go_enter Tryz.func89, Tryz.ntmps89
  go_wp2_with (go_at_call 128; refine hc.mono ?_; rintro e w' ⟨rfl, hb'⟩)
  go_ret
  exact ⟨rfl, hb'⟩
set_option maxHeartbeats 2000000 in
theorem runMay (nm : ByteArray) (v : Value) (ts : List TaskV) (Bp : Nat) (w : World) (h : PipeAt w Bp nm v ts) (hok : okTs ts) (hnm : nm.size ≤ maxLen) :
    Calls Tryz.prog 50 #[.pointer (some ⟨Bp, 0, none⟩)] w fun e w' => e = .returned (.bool (mayP nm ts)) ∧ Below w.heap.size w w' := by
  have K1 := Lib.hid (manRight nm v ts w h.2.2.2 hok hnm)
  obtain ⟨sp, sc, hv, _⟩ := h.2.2.2.val
  obtain ⟨mp, hmp⟩ : ∃ mp, mp = mayP nm ts := ⟨_, rfl⟩
  rw [← hmp]
  have HMP := Lib.hid hmp
  clear hmp
  have HP := Lib.hid h
  have HOK := Lib.hid hok
  have HNM := Lib.hid hnm
  obtain ⟨hz, p0, p1, _⟩ := h
  subst hv
  clear hok hnm
  go_enter Tryz.func50, Tryz.ntmps50
  go_wp2_with fail
  refine K1.out.mono ?_
  rintro e w1 ⟨rfl, hb⟩
  have HB1 := Lib.hid hb
  have HP1 := Lib.hid (HP.out.below hb)
  clear hb K1 p0 p1
  cases hp : pipeB nm ts with
  | false =>
    have HE := Lib.hid (show mp = false by rw [HMP.out]; simp [mayP, hp])
    clear hp
    go_wp2
    go_ret
    exact ⟨by rw [HE.out]; rfl, HB1.out⟩
  | true =>
    have HLEN := Lib.hid (pipeB_len hp)
    obtain ⟨hz1, p0, p1, _⟩ := HP1.out
    have K2 := Lib.hid (orderRound nm _ ts w1 HP1.out.2.2.2 HOK.out HNM.out)
    by_cases hr : roundP nm ts < 0
    · have HE := Lib.hid (show mp = !(ts.any loneB) by rw [HMP.out]; simp [mayP, hp, hr])
      have hr1 : decide (roundP nm ts < 0) = true := by simpa using hr
      clear hp
      generalize roundP nm ts = rp at *
      go_wp2_with fail
      refine K2.out.mono ?_
      rintro e w2 ⟨rfl, hb⟩
      have HB2 := Lib.hid (HB1.out.trans (hb.mono HB1.out.size))
      have HP2 := Lib.hid (HP1.out.below hb)
      clear hb K2 p0 p1
      obtain ⟨hz2, p0, p1, _⟩ := HP2.out
      have K3 := Lib.hid (anyFuncT _ ts w2 HP2.out.2.2.2 (by have := HLEN.out.2; omega) (fun j hj => (HOK.out.2 j hj).2.2.1))
      generalize ts.any loneB = an at *
      go_wp2_with fail
      refine K3.out.mono ?_
      rintro e w3 ⟨rfl, hb⟩
      have HB3 := Lib.hid (HB2.out.trans (hb.mono HB2.out.size))
      clear hb K3 p0 p1
      go_wp2
      go_ret
      exact ⟨by rw [HE.out]; rfl, HB3.out⟩
    · have HE := Lib.hid (show mp = false by rw [HMP.out]; simp [mayP, hr])
      have hr1 : decide (roundP nm ts < 0) = false := by simpa using hr
      clear hp
      generalize roundP nm ts = rp at *
      go_wp2_with fail
      refine K2.out.mono ?_
      rintro e w2 ⟨rfl, hb⟩
      have HB2 := Lib.hid (HB1.out.trans (hb.mono HB1.out.size))
      clear hb K2 p0 p1
      go_wp2
      go_ret
      exact ⟨by rw [HE.out]; rfl, HB2.out⟩
end Go.Proofs.YtbbcicengfmhiaaGreatDoor

namespace Go.Proofs.YtbbcicengfmhiaaGreatDoor
set_option maxRecDepth 100000
open Go.RowKit

theorem info_cloneT : ∃ (i : TypeInfo) (z : Value), Tryz.prog.info? 100 = some i ∧ i.zero = some z ∧ i.size = 7 ∧ i.bytes = 80 ∧ z.cells.size = 7 := by
  have h : ((Tryz.prog.info? 100).map fun i => (i.size, i.bytes, i.zero.map fun z => z.cells.size)) = some (7, 80, some 7) := by kernel_rfl
  cases hi : Tryz.prog.info? 100 with
  | none => rw [hi] at h; cases h
  | some i =>
    rw [hi] at h
    simp only [Option.map_some, Option.some.injEq, Prod.mk.injEq] at h
    obtain ⟨h1, h2, h3⟩ := h
    cases hz : i.zero with
    | none => rw [hz] at h3; cases h3
    | some z => rw [hz] at h3; exact ⟨i, z, rfl, hz, h1, h2, by simpa using h3⟩
theorem one_encT {ts : List TaskV} (h : ∀ j, j < ts.length → ∃ p n c, ts[j]!.sl = .slice p n c) : ∀ u ∈ flat encT ts, u.oneCell' = true := by
  intro u hu
  simp only [flat, List.mem_flatMap] at hu
  obtain ⟨t, ht, hx⟩ := hu
  obtain ⟨j, hj, rfl⟩ := List.getElem_of_mem ht
  obtain ⟨p, n, c, hs⟩ := h j hj
  rw [getElem!_pos ts j hj] at hs
  simp only [encT, List.mem_cons, List.not_mem_nil, or_false] at hx
  rcases hx with rfl | rfl | rfl | rfl | rfl | rfl | rfl <;> first | rfl | (rw [hs]; rfl)
/-- the tasks' row copied -/
def CloneT (ts : List TaskV) (w : World) (e : Ending) (w' : World) : Prop := ∃ q cap J, e = .returned (.slice (some ⟨q, 0, none⟩) ts.length cap) ∧ w.heap.size ≤ q ∧ BlkIs w' q (flat encT ts ++ J) 100 ∧ ts.length ≤ cap ∧ Below w.heap.size w w'
set_option maxHeartbeats 2000000 in
theorem cloneTs (v : Value) (ts : List TaskV) (w : World) (h : TasksAt w v ts) (hbig : ts.length ≤ 1000) (hpos : 0 < ts.length) : Calls Tryz.prog 99 #[v] w (CloneT ts w) := by
  have hone := one_encT (ts := ts) (fun j hj => by
    obtain ⟨p, c, hv, _⟩ := h.2 j hj
    exact ⟨_, _, _, hv⟩)
  obtain ⟨pp, c, rfl, hn, hcell⟩ := h.1
  obtain ⟨b, off, rfl, hb, hc⟩ := hcell hpos
  have q71 : ∀ (w : World) (a : Option Addr) (n c n' c' : Nat), (binOp .eql 44 (.slice a n c) (.slice none n' c')).run Tryz.prog w = .ok (.bool a.isNone) w := fun w a n c n' c' => Lib.run_eql_slice_nil w _ _ a n c n' c' Tryz.underlying44
  obtain ⟨i0, z, hi, hz0, hz1, hz2, hzs⟩ := info_cloneT
  have HI := Lib.hid hi
  have HZ := Lib.hid hz0
  have HC := Lib.hid (SlAt.flat_cells (enc := encT) (by decide) encT_len hc)
  have HO := Lib.hid hone
  have HFIN := Lib.hid (fun (q cap : Nat) (J : List Value) (w' : World) (h1 : w.heap.size ≤ q) (h2 : BlkIs w' q (flat encT ts ++ J) 100) (h3 : ts.length ≤ cap) (h4 : Below w.heap.size w w') => (show CloneT ts w (.returned (.slice (some ⟨q, 0, none⟩) ts.length cap)) w' from ⟨q, cap, J, rfl, h1, h2, h3, h4⟩))
  clear hi hz0 hc hn hcell hone h
  have hlen : (flat encT ts).length = ts.length * 7 := flat_length (enc := encT) encT_len ts
  go_enter Tryz.func99, Tryz.ntmps99
  go_wp2_with (at_builtin; refine wpList_append_own _ rfl _ _ 44 rfl w.heap.size 100 i0 z 7 80 Tryz.underlying44 HI.out HZ.out hz1 hz2 hzs (by decide) _ _ _ rfl (World.ownsRow_made w #[] 0 (Nat.le_refl _) (Nat.zero_le _) (by simp)) ⟨b, off, none⟩ ts.length c (flat encT ts) rfl ?qc1 ?qc2 ?qc3 ?qc4 ?qc5 ?qc6 ?_)
  case qc1 => exact hlen
  case qc2 =>
    intro j u hj
    rw [Go.WideShapes.add_plain]
    exact Lib.cell?_alloc_some _ (HC.out j u hj)
  case qc3 => exact HO.out
  case qc4 => rw [Nat.zero_add]; unfold maxLen; omega
  case qc5 => omega
  case qc6 => simp
  intro v' w1 hown hgrow hnil
  have HB := Lib.hid (((Below.refl _ w).alloc (Nat.le_refl _) (.cells #[] 100)).grown hgrow (by simp) (by intro k hk; simp [Value.ownBlock] at hk; omega))
  rcases hown.2 with ⟨_, h0⟩ | ⟨q, cap, cur, rfl, hB, hg, h1, h2, h3, h4⟩
  · omega
  · have HQ := Lib.hid (show BlkIs w1 q (flat encT ts ++ cur.toList.drop (ts.length * 7)) 100 from by
      show w1.heap[q]? = _
      rw [← h4, List.take_append_drop, Array.toArray_toList]
      exact hg)
    have HCAP := Lib.hid h1
    have HQB := Lib.hid hB
    clear hown hgrow hnil hg h1 h2 h3 h4 hB
    go_wp2
    go_ret
    exact HFIN.out q cap _ w1 HQB.out HQ.out HCAP.out HB.out
theorem owns_geT {w : World} {base : Nat} {e : TypeId} {size : Nat} {v : Value} {n : Nat} {xs : List Value} (h : w.ownsRow base e size v n xs) {k : Nat} (hk : v.ownBlock = some k) : base ≤ k := by
  rcases h.2 with ⟨rfl, _⟩ | ⟨g, cap, cur, rfl, hb, _⟩
  · cases hk
  · simp only [Value.ownBlock, Option.some.injEq] at hk
    subst hk
    exact hb
theorem owns_ltT {w : World} {base : Nat} {e : TypeId} {size : Nat} {v : Value} {n : Nat} {xs : List Value} (h : w.ownsRow base e size v n xs) {k : Nat} (hk : v.ownBlock = some k) : k < w.heap.size := by
  rcases h.2 with ⟨rfl, _⟩ | ⟨g, cap, cur, rfl, _, hh, _⟩
  · cases hk
  · simp only [Value.ownBlock, Option.some.injEq] at hk
    subst hk
    exact (Array.getElem?_eq_some_iff.1 hh).1
/-- the same tasks, other slices -/
def SameT (us ts : List TaskV) : Prop := us.length = ts.length ∧ ∀ j, j < ts.length → us[j]! = { ts[j]! with sl := us[j]!.sl }
def ClonePost (nm : ByteArray) (ts : List TaskV) (w : World) (e : Ending) (w' : World) : Prop :=
  ∃ q cap us, e = .returned (.agg #[.string nm, .slice (some ⟨q, 0, none⟩) ts.length cap]) ∧ TasksAt w' (.slice (some ⟨q, 0, none⟩) ts.length cap) us ∧ SameT us ts ∧ Below w.heap.size w w' ∧ (w.heap.size ≤ q ∧ q < w'.heap.size) ∧ (∀ j, j < ts.length → ∀ m, us[j]!.sl.ownBlock = some m → w.heap.size ≤ m ∧ m < w'.heap.size)
/-- behind k rounds -/
structure ClnAt (w : World) (ts us : List TaskV) (q : Nat) (J : List Value) (k : Nat) (wr : World) : Prop where
  same : SameT us ts
  row : BlkIs wr q (flat encT us ++ J) 100
  new : ∀ j, j < k → j < ts.length → SlAt 1 encI wr us[j]!.sl ts[j]!.after ∧ us[j]!.sl.ownBlock ≠ some q ∧ ∀ m, us[j]!.sl.ownBlock = some m → w.heap.size + 2 ≤ m ∧ m < wr.heap.size
  old : ∀ j, k ≤ j → j < ts.length → us[j]!.sl = ts[j]!.sl
theorem ClnAt.below {w : World} {ts us : List TaskV} {q : Nat} {J : List Value} {k : Nat} {wr w' : World} (h : ClnAt w ts us q J k wr) (hb : Below wr.heap.size wr w') : ClnAt w ts us q J k w' :=
  ⟨h.same, h.row.below hb, fun j h1 h2 => ⟨(h.new j h1 h2).1.below hb, (h.new j h1 h2).2.1, fun m hm => ⟨((h.new j h1 h2).2.2 m hm).1, Nat.lt_of_lt_of_le ((h.new j h1 h2).2.2 m hm).2 hb.size⟩⟩, h.old⟩
theorem ClnAt.keptG {w : World} {ts us : List TaskV} {q g : Nat} {J : List Value} {k : Nat} {wr w' : World} (h : ClnAt w ts us q J k wr) (hk : KeptG g wr w') (hgq : q ≠ g) (hg : g < w.heap.size + 2) : ClnAt w ts us q J k w' :=
  ⟨h.same, hk.blk h.row hgq, fun j h1 h2 => ⟨(h.new j h1 h2).1.keptG hk (fun e => by have := (h.new j h1 h2).2.2 _ e; omega), (h.new j h1 h2).2.1, fun m hm => ⟨((h.new j h1 h2).2.2 m hm).1, by rw [hk.2.2]; exact ((h.new j h1 h2).2.2 m hm).2⟩⟩, h.old⟩
theorem ClnAt.cells {w : World} {ts us : List TaskV} {q : Nat} {J : List Value} {k : Nat} {wr : World} (h : ClnAt w ts us q J k wr) (hk : k < ts.length) : wr.cell? ⟨q, k * 7 + 1, none⟩ = some ts[k]!.sl ∧ wr.frozen? ⟨q, k * 7 + 1, none⟩ = false := by
  refine ⟨?_, h.row.frozen _⟩
  rw [← h.old k (Nat.le_refl _) hk]
  exact flat_at encT_len h.row (by rw [h.same.1]; exact hk) (i := 1) (by decide) rfl
theorem ClnAt.next {w : World} {ts us : List TaskV} {q : Nat} {J : List Value} {k : Nat} {wr : World} (h : ClnAt w ts us q J k wr) (hk : k < ts.length) (s : Value) (hs : SlAt 1 encI wr s ts[k]!.after) (hq : s.ownBlock ≠ some q) (hm : ∀ m, s.ownBlock = some m → w.heap.size + 2 ≤ m ∧ m < wr.heap.size) :
    ClnAt w ts (us.set k { us[k]! with sl := s }) q J (k + 1) (wr.setCells q (k * 7 + 1) [s]) := by
  have hkg := KeptG.sets q (k * 7 + 1) wr [s]
  have hlu : k < us.length := by rw [h.same.1]; exact hk
  have hget : ∀ m, m < ts.length → (us.set k { us[k]! with sl := s })[m]! = if k = m then { us[k]! with sl := s } else us[m]! := fun m hm => by
    rw [getElem!_pos _ m (by simp [h.same.1]; exact hm), List.getElem_set]
    split
    · rfl
    · rw [getElem!_pos us m (by rw [h.same.1]; exact hm)]
  refine ⟨⟨by simpa using h.same.1, fun j hj => ?_⟩, ?_, fun j h1 h2 => ?_, fun j h1 h2 => ?_⟩
  · rw [hget j hj]
    split
    · rename_i e; subst e
      conv => lhs; rw [h.same.2 k hk]
    · exact h.same.2 j hj
  · have := BlkIs.setsL [s] (k * 7 + 1) wr _ h.row
    rw [flat_sets encT_len { us[k]! with sl := s } 1 [s] J us k hlu (fun M => by generalize us[k]! = u; rfl)] at this
    exact this
  · rw [hget j h2]
    split
    · rename_i e; subst e; exact ⟨hs.keptG hkg hq, hq, fun m hx => by rw [hkg.2.2]; exact hm m hx⟩
    · obtain ⟨a1, a2, a3⟩ := h.new j (by omega) h2
      exact ⟨a1.keptG hkg a2, a2, fun m hx => by rw [hkg.2.2]; exact a3 m hx⟩
  · rw [hget j h2, if_neg (by omega)]
    exact h.old j (by omega) h2
theorem ClnAt.tasks {w : World} {ts us : List TaskV} {q cap : Nat} {J : List Value} {wr : World} (h : ClnAt w ts us q J ts.length wr) (hc : ts.length ≤ cap) : TasksAt wr (.slice (some ⟨q, 0, none⟩) ts.length cap) us := by
  refine ⟨⟨some ⟨q, 0, none⟩, cap, by rw [h.same.1], ⟨by rw [h.same.1]; exact hc, fun e => nomatch e⟩, fun _ => ⟨q, 0, rfl, h.row.lt, fun j hj i u hu => ?_⟩⟩, fun j hj => ?_⟩
  · have hi : i < 7 := (List.getElem?_eq_some_iff.1 hu).1
    rw [Nat.zero_add]
    exact flat_at encT_len h.row hj hi hu
  · have hj' : j < ts.length := by rw [← h.same.1]; exact hj
    have := (h.new j hj' hj').1
    rw [h.same.2 j hj']
    exact this
set_option maxHeartbeats 8000000 in
theorem runClone (nm : ByteArray) (v : Value) (ts : List TaskV) (w : World) (h : TasksAt w v ts) (hbig : ts.length ≤ 1000) (hpos : 0 < ts.length) (hla : ∀ j, j < ts.length → ts[j]!.after.length ≤ 1000) : Calls Tryz.prog 55 #[.agg #[.string nm, v]] w (ClonePost nm ts w) := by
  obtain ⟨vp, vc, rfl, _⟩ := h.val
  have HFIN := Lib.hid (fun (q cap : Nat) (us : List TaskV) (w' : World) (h1 : TasksAt w' (.slice (some ⟨q, 0, none⟩) ts.length cap) us) (h2 : SameT us ts) (h3 : Below w.heap.size w w') (h4 : w.heap.size ≤ q ∧ q < w'.heap.size) (h5 : ∀ j, j < ts.length → ∀ m, us[j]!.sl.ownBlock = some m → w.heap.size ≤ m ∧ m < w'.heap.size) => (show ClonePost nm ts w (.returned (.agg #[.string nm, .slice (some ⟨q, 0, none⟩) ts.length cap])) w' from ⟨q, cap, us, rfl, h1, h2, h3, h4, h5⟩))
  have hb1 := below1 w (.cells #[.string nm, .slice vp ts.length vc] 46)
  have hb2 := below1 (w.alloc (.cells #[.string nm, .slice vp ts.length vc] 46)) (.cells #[.string ⟨#[]⟩, .slice none 0 0] 46)
  have hz1 : (w.alloc (.cells #[.string nm, .slice vp ts.length vc] 46)).heap.size = w.heap.size + 1 := Array.size_push _
  have HX := Lib.hid ((BlkIs.alloc w [.string nm, .slice vp ts.length vc] 46).below hb2)
  have HY := Lib.hid (show BlkIs ((w.alloc (.cells #[.string nm, .slice vp ts.length vc] 46)).alloc (.cells #[.string ⟨#[]⟩, .slice none 0 0] 46)) (w.heap.size + 1) [.string ⟨#[]⟩, .slice none 0 0] 46 by rw [← hz1]; exact BlkIs.alloc _ _ 46)
  have HB2 := Lib.hid (hb1.trans (hb2.mono hb1.size))
  have HT := Lib.hid ((h.below hb1).below hb2)
  have HTW := Lib.hid h
  have HLA := Lib.hid hla
  clear hb1 hb2 hz1 h hla
  go_enter Tryz.func55, Tryz.ntmps55
  go_wp2_with fail
  generalize (w.alloc (.cells #[.string nm, .slice vp ts.length vc] 46)).alloc (.cells #[.string ⟨#[]⟩, .slice none 0 0] 46) = W2 at *
  refine (cloneTs _ ts W2 HT.out hbig hpos).mono ?_
  rintro e w1 hp
  unfold CloneT at hp
  obtain ⟨q, cap, J, rfl, hq, hrow, hcap, hb⟩ := hp
  have hyz : w.heap.size + 1 < W2.heap.size := HY.out.lt
  have HX1 := Lib.hid (HX.out.below hb)
  have HY1 := Lib.hid (HY.out.below hb)
  have HB1 := Lib.hid (HB2.out.trans (hb.mono HB2.out.size))
  have HROW := Lib.hid hrow
  have HCAP := Lib.hid hcap
  have HQ := Lib.hid hq
  have x1 := HX1.out.cell 1
  have x2 := HX1.out.frozen 1
  simp only [List.getElem?_cons_succ, List.getElem?_cons_zero] at x1
  clear hb hrow HX HY
  go_wp2_with fail
  have HX3 := Lib.hid (show BlkIs (w1.setCell ⟨w.heap.size, 1, none⟩ (.slice (some ⟨q, 0, none⟩) ts.length cap)) w.heap.size [.string nm, .slice (some ⟨q, 0, none⟩) ts.length cap] 46 from HX1.out.set (o := 1) _)
  have HKX := Lib.hid (KeptG.sets w.heap.size 1 w1 [.slice (some ⟨q, 0, none⟩) ts.length cap])
  have HY3 := Lib.hid (show BlkIs (w1.setCell ⟨w.heap.size, 1, none⟩ (.slice (some ⟨q, 0, none⟩) ts.length cap)) (w.heap.size + 1) _ _ from HKX.out.blk HY1.out (by omega))
  have HR3 := Lib.hid (show BlkIs (w1.setCell ⟨w.heap.size, 1, none⟩ (.slice (some ⟨q, 0, none⟩) ts.length cap)) q _ _ from HKX.out.blk HROW.out (by omega))
  have HB3 := Lib.hid (show Below w.heap.size w (w1.setCell ⟨w.heap.size, 1, none⟩ (.slice (some ⟨q, 0, none⟩) ts.length cap)) from HB1.out.setCell (Nat.le_refl _) _)
  generalize w1.setCell ⟨w.heap.size, 1, none⟩ (.slice (some ⟨q, 0, none⟩) ts.length cap) = w3 at *
  have HCL := Lib.hid (show ClnAt w ts ts q J 0 w3 from ⟨⟨rfl, fun _ _ => rfl⟩, HR3.out, fun j h => absurd h (Nat.not_lt_zero j), fun _ _ _ => rfl⟩)
  clear HX1 HY1 HKX HR3 HROW x1 x2 HB1 HT HB2
  have hqx : q ≠ w.heap.size := by omega
  have hqy : q ≠ w.heap.size + 1 := by omega
  have hqw : w.heap.size ≤ q := by omega
  clear hyz
  generalize hbx : w.heap.size = bx at *
  have HBX := Lib.hid hbx
  clear hbx
  have hx3 := HX3.out.cell 1
  simp only [List.getElem?_cons_succ, List.getElem?_cons_zero] at hx3
  go_wp2
  clear hx3
  generalize hn : ts.length = n at *
  have HN := Lib.hid hn
  clear hn
  go_loopw [3, 11] (fun _ i wr => ∃ (j : Nat) (us : List TaskV), j ≤ n ∧ i = .int .i64 j ∧ Below bx w wr ∧ BlkIs wr bx [.string nm, .slice (some ⟨q, 0, none⟩) n cap] 46 ∧ BlkIs wr (bx + 1) [.string ⟨#[]⟩, .slice none 0 0] 46 ∧ ClnAt w ts us q J j wr) (fun _ i _ => n - (intOf i).toNat)
  case atStart => exact ⟨0, ts, by omega, by go_num, HB3.out, HX3.out, HY3.out, HCL.out⟩
  case round =>
    obtain ⟨j, us, hj, rfl, hB, hX, hY, hC⟩ := hrel
    have HB := Lib.hid hB
    have HX := Lib.hid hX
    have HY := Lib.hid hY
    have HC := Lib.hid hC
    clear hB hX hY hC HB3 HX3 HY3 HCL
    by_cases hlt : j < n
    · have hltz : (j : Int) < (n : Int) := by omega
      have hx1 := HX.out.cell 1
      simp only [List.getElem?_cons_succ, List.getElem?_cons_zero] at hx1
      obtain ⟨hc1, _⟩ := HC.out.cells (show j < ts.length by rw [HN.out]; exact hlt)
      have HSL := Lib.hid (show SlAt 1 encI wr ts[j]!.sl ts[j]!.after from (HTW.out.2 j (by rw [HN.out]; exact hlt)).below (by rw [HBX.out]; exact HB.out))
      have K := cloneI _ _ wr.drew (HSL.out.below ((Below.refl _ wr).drew)) (HLA.out j hlt)
      have HK := Lib.hid K
      clear K
      generalize hsl : ts[j]!.sl = sl at *
      clear hsl HSL
      go_wp2_with fail
      refine wp_region_held_drew (S := (fun X => X.cell? ⟨bx, 1, none⟩ = some (.slice (some ⟨q, 0, none⟩) n cap))) (by kernel_rfl) hx1 (fun hHeld => ?_)
      try dsimp only [List.size_toArray, List.length_cons, List.length_nil]
      refine takeL (i := 0) rfl (v := ?vz1) (by kernel_rfl) (by kernel_rfl) (by kernel_rfl) (fun _ _ _ h => h) (Or.inl ⟨by rfl, fun _w _hSw => ?hyz1⟩) (by assumption) ?restz1
      case hyz1 =>
        (try dsimp only at _hSw)
        go_simp
        try with_reducible rfl
      try simp only [Act.put, List.setIfInBounds_toArray, List.set_cons_zero, List.set_cons_succ]
      refine takeL (i := 1) rfl (v := ?vz2) (by kernel_rfl) (by kernel_rfl) (by kernel_rfl) (fun _ _ _ h => h) (Or.inl ⟨by rfl, fun _w _hSw => ?hyz2⟩) (by assumption) ?restz2
      case hyz2 =>
        (try dsimp only at _hSw)
        go_simp
        try with_reducible rfl
      try simp only [Act.put, List.setIfInBounds_toArray, List.set_cons_zero, List.set_cons_succ]
      refine takeL (i := 2) rfl (v := ?vz3) (by kernel_rfl) (by kernel_rfl) (by kernel_rfl) (fun _ _ _ h => h) (Or.inl ⟨by rfl, fun _w _hSw => ?hyz3⟩) (by assumption) ?restz3
      case hyz3 =>
        (try dsimp only at _hSw)
        go_simp
        try with_reducible rfl
      try simp only [Act.put, List.setIfInBounds_toArray, List.set_cons_zero, List.set_cons_succ]
      refine takeL (i := 3) rfl (v := ?vz4) (by kernel_rfl) (by kernel_rfl) (by kernel_rfl) (fun _ _ _ h => h) (Or.inl ⟨by rfl, fun _w _hSw => ?hyz4⟩) (by assumption) ?restz4
      case hyz4 =>
        (try dsimp only at _hSw)
        go_simp
        try with_reducible rfl
      try simp only [Act.put, List.setIfInBounds_toArray, List.set_cons_zero, List.set_cons_succ]
      refine takeL (i := 4) rfl (v := ?vz5) (by kernel_rfl) (by kernel_rfl) (by kernel_rfl) (fun _ _ _ h => h) (Or.inl ⟨by rfl, fun _w _hSw => ?hyz5⟩) (by assumption) ?restz5
      case hyz5 =>
        (try dsimp only at _hSw)
        go_simp
        try with_reducible rfl
      try simp only [Act.put, List.setIfInBounds_toArray, List.set_cons_zero, List.set_cons_succ]
      refine takeL (i := 5) rfl (v := ?vz6) (by kernel_rfl) (by kernel_rfl) (by kernel_rfl) (fun _ _ _ h => h) (Or.inl ⟨by rfl, fun _w _hSw => ?hyz6⟩) (by assumption) ?restz6
      case hyz6 =>
        (try dsimp only at _hSw)
        go_simp
        try with_reducible rfl
      try simp only [Act.put, List.setIfInBounds_toArray, List.set_cons_zero, List.set_cons_succ]
      refine takeL (i := 6) rfl (v := ?vz7) (by kernel_rfl) (by kernel_rfl) (by kernel_rfl) (fun _ _ _ h => h) (Or.inl ⟨by rfl, fun _w _hSw => ?hyz7⟩) (by assumption) ?restz7
      case hyz7 =>
        (try dsimp only at _hSw)
        go_simp
        try with_reducible rfl
      try simp only [Act.put, List.setIfInBounds_toArray, List.set_cons_zero, List.set_cons_succ]
      refine takeL (i := 7) rfl (v := ?vz8) (by kernel_rfl) (by kernel_rfl) (by kernel_rfl) (fun _ _ _ h => h) (Or.inl ⟨by rfl, fun _w _hSw => ?hyz8⟩) (by assumption) ?restz8
      case hyz8 =>
        (try dsimp only at _hSw)
        go_simp
        try with_reducible rfl
      try simp only [Act.put, List.setIfInBounds_toArray, List.set_cons_zero, List.set_cons_succ]
      refine wpAnyH_ready (rs := [8]) (by kernel_rfl) (by simp) (readyL rfl (fun K1 hK => ?_) AllReadyH.nil)
      go_simp
      refine hK.out _ _ ‹_› (fun _ => ?_)
      clear hK K1
      try simp only [Act.put, List.setIfInBounds_toArray, List.set_cons_zero, List.set_cons_succ]
      refine wpAnyH_ready (rs := [9]) (by kernel_rfl) (by simp) (readyL rfl (fun K1 hK => ?_) AllReadyH.nil)
      go_simp
      with_reducible refine (HK.out).mono ?_
      rintro e w5 ⟨s5, rfl, hown, hb5⟩
      have HB5 := Lib.hid (show Below wr.heap.size wr w5 from (Below.refl _ _).drew.trans hb5)
      have HX5 := Lib.hid (HX.out.below HB5.out)
      have HY5 := Lib.hid (HY.out.below HB5.out)
      have HC5 := Lib.hid (HC.out.below HB5.out)
      have hx5 := HX5.out.cell 1
      simp only [List.getElem?_cons_succ, List.getElem?_cons_zero] at hx5
      have hs5 := SlAt.of_owns (enc := encI) (fun _ => rfl) hown
      have HS5 := Lib.hid hs5
      obtain ⟨sp, sc, rfl, _⟩ := hs5
      generalize ts[j]!.after.length = an at *
      have hqr : q < wr.heap.size := HC.out.row.lt
      have hwz : w.heap.size + 2 ≤ wr.heap.size := by have := HY.out.lt; have := HBX.out; omega
      have hge : ∀ m, (Value.slice sp an sc).ownBlock = some m → wr.heap.size ≤ m := fun m hm => owns_geT hown hm
      have HN5 := Lib.hid (HC5.out.next (by rw [HN.out]; exact hlt) (.slice sp an sc) HS5.out (fun e => by have := hge q e; omega) (fun m hm => by have := hge m hm; have := owns_ltT hown hm; omega))
      have HKG := Lib.hid (KeptG.sets q (j * 7 + 1) w5 [.slice sp an sc])
      have HX6 := Lib.hid (HKG.out.blk HX5.out (Ne.symm hqx))
      have HY6 := Lib.hid (HKG.out.blk HY5.out (Ne.symm hqy))
      have HB6 := Lib.hid (below_setsG (B := bx) (b := q) hqw [.slice sp an sc] (j * 7 + 1) w w5 (HB.out.trans (HB5.out.mono (by have := HBX.out; omega))))
      obtain ⟨c5, f5⟩ := HC5.out.cells (show j < ts.length by rw [HN.out]; exact hlt)
      have hx6 := HX6.out.cell 1
      simp only [List.getElem?_cons_succ, List.getElem?_cons_zero] at hx6
      clear hown hb5 hge
      try dsimp only
      refine hK.out _ _ hx5 (fun hHeld => ?_)
      clear hK K1
      try simp only [Act.put, List.setIfInBounds_toArray, List.set_cons_zero, List.set_cons_succ]
      refine takeL (i := 10) rfl (v := ?vz9) (by kernel_rfl) (by kernel_rfl) (by kernel_rfl) (fun _ _ _ h => h) (Or.inl ⟨by rfl, fun _w _hSw => ?hyz9⟩) (by assumption) ?restz9
      case hyz9 =>
        (try dsimp only at _hSw)
        go_simp
        try with_reducible rfl
      try simp only [Act.put, List.setIfInBounds_toArray, List.set_cons_zero, List.set_cons_succ]
      refine takeL (i := 11) rfl (v := ?vz10) (by kernel_rfl) (by kernel_rfl) (by kernel_rfl) (fun _ _ _ h => h) (Or.inl ⟨by rfl, fun _w _hSw => ?hyz10⟩) (by assumption) ?restz10
      case hyz10 =>
        (try dsimp only at _hSw)
        go_simp
        try with_reducible rfl
      try simp only [Act.put, List.setIfInBounds_toArray, List.set_cons_zero, List.set_cons_succ]
      refine wpAnyH_ready (rs := [12]) (by kernel_rfl) (by simp) (readyL rfl (fun K1 hK => ?_) AllReadyH.nil)
      go_simp
      refine hK.out _ _ hx6 (fun _ => ?_)
      clear hK K1
      try simp only [Act.put, List.setIfInBounds_toArray, List.set_cons_zero, List.set_cons_succ]
      refine wpAnyH_done (by kernel_rfl) ?_ _
      generalize hw6 : w5.setCells q (j * 7 + 1) [.slice sp an sc] = w6 at *
      simp only [World.setCells] at hw6
      rw [hw6]
      clear hw6 c5 f5
      go_wp2
      go_roundw
      case rel => exact ⟨j + 1, _, by omega, by go_num, HB6.out, HX6.out, HY6.out, HN5.out⟩
      case measure => simp [intOf] <;> omega
    · obtain rfl : j = n := by omega
      have x0 := HX.out.cell 0
      have x1 := HX.out.cell 1
      have y0 := HY.out.cell 0
      have y1 := HY.out.cell 1
      have z0 := HY.out.frozen 0
      have z1 := HY.out.frozen 1
      simp only [List.getElem?_cons_succ, List.getElem?_cons_zero] at x0 x1 y0 y1
      have hxy : bx + 1 ≠ bx := by omega
      clear hlt
      have HKY0 := Lib.hid (KeptG.sets (bx + 1) 0 wr [.string nm, .slice (some ⟨q, 0, none⟩) j cap])
      have HBE := Lib.hid (below_setsG (B := bx) (b := bx + 1) (by omega) [.string nm, .slice (some ⟨q, 0, none⟩) j cap] 0 w wr HB.out)
      have HYE := Lib.hid (BlkIs.sets [.string nm, .slice (some ⟨q, 0, none⟩) j cap] 0 wr _ HY.out (Nat.le_refl _))
      have HCE := Lib.hid (HC.out.keptG HKY0.out hqy (by have := HBX.out; omega))
      go_wp2_with fail
      generalize hwe : wr.setCells (bx + 1) 0 [.string nm, .slice (some ⟨q, 0, none⟩) j cap] = wE at *
      simp only [World.setCells] at hwe
      rw [hwe]
      clear hwe
      have e0 := HYE.out.cell 0
      have e1 := HYE.out.cell 1
      simp only [splice, List.length_nil, List.length_cons, List.take_zero, List.nil_append, List.cons_append, List.append_nil, List.drop, List.getElem?_cons_succ, List.getElem?_cons_zero] at e0 e1
      refine bodyPost_ret (v := .agg #[.string nm, .slice (some ⟨q, 0, none⟩) j cap]) (by rw [results_cellX rfl]; go_simp) rfl ?_
      have hcl := HCE.out
      have hbe := HBE.out
      have HNe := HN.out
      subst HNe
      exact HFIN.out q cap us wE (hcl.tasks HCAP.out) hcl.same hbe ⟨hqw, hcl.row.lt⟩ (fun m hm k hk => by have := (hcl.new m hm hm).2.2 k hk; have := HBX.out; omega)
end Go.Proofs.YtbbcicengfmhiaaGreatDoor

namespace Go.Proofs.YtbbcicengfmhiaaGreatDoor
set_option maxRecDepth 100000
open Go.RowKit

theorem pigN : ∀ (n : Nat) (l : List Int), l.Nodup → (∀ x ∈ l, 0 ≤ x ∧ x < (n : Int)) → l.length ≤ n
  | 0, [], _, _ => Nat.le_refl _
  | 0, x :: l, _, h => by have := h x (by simp); omega
  | n + 1, l, hd, h => by
    have h1 := pigN n (l.erase (n : Int)) (hd.erase _) (fun x hx => by
      rw [hd.mem_erase_iff] at hx
      have := h x hx.2
      have := hx.1
      omega)
    have h2 : (l.erase (n : Int)).length = if (n : Int) ∈ l then l.length - 1 else l.length := List.length_erase
    split at h2 <;> omega
theorem afterB_nodup {n : Int} {l : List Int} (h : afterB n l l.length = true) : l.Nodup := by
  unfold afterB at h
  rw [List.all_eq_true] at h
  rw [List.Nodup, List.pairwise_iff_getElem]
  intro i j hi hj hij he
  have := h j (by simpa using hj)
  simp only [Bool.and_eq_true, Bool.not_eq_true', List.any_eq_false] at this
  have h3 := this.2 l[i] (List.mem_take_iff_getElem.2 ⟨i, by omega, rfl⟩)
  rw [getElem!_pos l j hj, ← he] at h3
  simp at h3
theorem pipeB_afterLen {nm : ByteArray} {ts : List TaskV} (h : pipeB nm ts = true) {j : Nat} (hj : j < ts.length) : ts[j]!.after.length ≤ ts.length := by
  have ht := pipeB_task h hj
  unfold taskB at ht
  rw [Bool.and_eq_true] at ht
  refine pigN _ _ (afterB_nodup ht.1) (fun x hx => ?_)
  obtain ⟨k, hk, rfl⟩ := List.getElem_of_mem hx
  have := pipeB_after h hj hk
  rw [getElem!_pos _ k hk] at this
  exact this
theorem info_part : ∃ (i : TypeInfo) (z : Value), Tryz.prog.info? 109 = some i ∧ i.zero = some z ∧ i.size = 9 ∧ i.bytes ≤ 1000 ∧ z.cells = (encPart default).toArray := by
  have h : ((Tryz.prog.info? 109).map fun i => (i.size, decide (i.bytes ≤ 1000), i.zero.map fun z => z.cells)) = some (9, true, some (encPart default).toArray) := by kernel_rfl
  cases hi : Tryz.prog.info? 109 with
  | none => rw [hi] at h; cases h
  | some i =>
    rw [hi] at h
    simp only [Option.map_some, Option.some.injEq, Prod.mk.injEq, decide_eq_true_eq] at h
    obtain ⟨h1, h2, h3⟩ := h
    cases hz : i.zero with
    | none => rw [hz] at h3; cases h3
    | some z => rw [hz] at h3; exact ⟨i, z, rfl, hz, h1, h2, by simpa using h3⟩
theorem made_parts (n : Nat) : (madeCells (encPart default).toArray (n * 9)).toList = flat encPart (List.replicate n default) := by
  have hl : (madeCells (encPart default).toArray (n * 9)).toList.length = n * 9 := by rw [Array.length_toList, size_madeCells]
  have hr : (flat encPart (List.replicate n (default : PartV))).length = n * 9 := by rw [flat_length encPart_len, List.length_replicate]
  refine List.ext_getElem? fun i => ?_
  rcases Nat.lt_or_ge i (n * 9) with hi | hi
  · have h1 := flat_get encPart_len (List.replicate n (default : PartV)) (i / 9) (by rw [List.length_replicate]; omega) (i % 9) (Nat.mod_lt _ (by decide))
    rw [show i / 9 * 9 + i % 9 = i by omega] at h1
    rw [h1, getElem!_pos _ (i / 9) (by rw [List.length_replicate]; omega), List.getElem_replicate]
    unfold madeCells
    rw [Array.getElem?_toList, Array.getElem?_map, Array.getElem?_range, if_pos hi]
    simp only [Option.map_some]
    rw [show (encPart (default : PartV)).toArray.size = 9 from rfl]
    have hm : i % 9 < 9 := Nat.mod_lt _ (by decide)
    rw [getElem!_pos _ _ (by exact hm), List.getElem?_eq_getElem (by exact hm)]
    rfl
  · rw [List.getElem?_eq_none (by omega), List.getElem?_eq_none (by omega)]
/-- 'make' of the parts' row -/
theorem wp_makeP {o : Oper} {a : Act} {w : World} {K : Act → World → Prop} {Q : Exit → Act → World → Prop} (n : Nat) (hn : n ≤ 1000) (ho : o.op = .makeSlice 94 (.tmp 12) (.tmp 12)) (hv : a.eval (.tmp 12) = .int .i64 (n : Int))
    (h : ∀ w', BlkIs w' w.heap.size (flat encPart (List.replicate n default)) 109 → Below w.heap.size w w' → K (a.put o.dst (.slice (some ⟨w.heap.size, 0, none⟩) n n)) w') : o.wp Tryz.prog a w K Q := by
  obtain ⟨i0, z, hi, hz0, hz1, hz2, hz3⟩ := info_part
  obtain ⟨w', hrun, r1, r2⟩ := run_make_full (P := Tryz.prog) w w.heap.size 94 109 i0 z 9 Tryz.underlying94 hi hz0 hz1 .i64 .i64 n (by have := Nat.mul_le_mul hz2 hn; omega) (by unfold maxLen; omega) (Nat.le_refl _)
  have hB : BlkIs w' w.heap.size (flat encPart (List.replicate n default)) 109 := by
    rcases r1.2 with ⟨e, _⟩ | ⟨g, cap, cur, hv, _, hh, _, _, hcs, htake⟩
    · cases e
    · simp only [Value.slice.injEq, Option.some.injEq, Addr.mk.injEq, true_and, and_true] at hv
      obtain ⟨rfl, rfl⟩ := hv
      unfold BlkIs
      rw [hh]
      rw [List.take_of_length_le (by rw [Array.length_toList]; omega), hz3, made_parts] at htake
      rw [← htake]
  have hb := (Below.refl w.heap.size w).grown r2 (Nat.le_refl _) (fun q hq => by cases hq)
  unfold Oper.wp
  simp only [execOp, ho, hv, Sem.run_bind, hrun, Result.andThen_ok, Sem.run_pure]
  exact h w' hB hb
/-- a run as it begins -/
def newR (nm : ByteArray) (us : List TaskV) : RunM := ⟨nm, us, List.replicate us.length default, false⟩
theorem newRAt {nm : ByteArray} {ts us : List TaskV} {q cap g : Nat} {w : World} (ht : TasksAt w (.slice (some ⟨q, 0, none⟩) ts.length cap) us) (hs : SameT us ts) (hg : BlkIs w g (flat encPart (List.replicate ts.length default)) 109) (hqg : q ≠ g) (hqz : q < w.heap.size)
    (hu : ∀ j, j < ts.length → ∀ m, us[j]!.sl.ownBlock = some m → m ≠ g ∧ m < w.heap.size) :
    RAt w.heap.size g (tvOf q 0 cap (newR nm us)) ts.length [] (newR nm us) (w.alloc (.cells #[.string nm, .slice (some ⟨q, 0, none⟩) ts.length cap, .slice (some ⟨g, 0, none⟩) ts.length ts.length, .bool false] 96)) := by
  have hb := below1 w (.cells #[.string nm, .slice (some ⟨q, 0, none⟩) ts.length cap, .slice (some ⟨g, 0, none⟩) ts.length ts.length, .bool false] 96)
  have hgz := hg.lt
  have hl : (newR nm us).ps.length = ts.length := by simp [newR, hs.1]
  have hL : us.length = ts.length := hs.1
  refine ⟨?_, ?_, by omega, ?_, ⟨?_, ?_⟩, fun j hj => ⟨?_, ?_⟩, fun j hj => ?_, by simp [newR]⟩
  · rw [hl]
    unfold tvOf
    show BlkIs _ _ [.string nm, .slice (some ⟨q, 0, none⟩) us.length cap, .slice (some ⟨g, 0, none⟩) ts.length ts.length, .bool false] 96
    rw [hL]
    exact BlkIs.alloc w _ 96
  · rw [List.append_nil]
    show BlkIs _ g (flat encPart (List.replicate us.length default)) 109
    rw [hL]
    exact hg.below hb
  · unfold tvOf
    show TasksAt _ (.slice (some ⟨q, 0, none⟩) us.length cap) us
    rw [hL]
    exact ht.below hb
  · unfold tvOf
    simp only [Value.ownBlock, ne_eq, Option.some.injEq]
    omega
  · unfold tvOf
    simp only [Value.ownBlock, ne_eq, Option.some.injEq]
    exact hqg
  · intro e
    have := hu j (by rw [← hL]; exact hj) _ e
    omega
  · intro e
    have := hu j (by rw [← hL]; exact hj) _ e
    omega
  · have hd : (newR nm us).ps[j]! = default := by
      rw [getElem!_pos _ j hj]
      exact List.getElem_replicate _
    rw [hd]
    exact ⟨SlAt.nil _ _ _, fun e => (by cases e), fun e => (by cases e)⟩
def NewPost (nm : ByteArray) (ts : List TaskV) (now : Int) (w : World) (e : Ending) (w' : World) : Prop :=
  Below w.heap.size w w' ∧ if mayP nm ts = false then e = .returned (.pointer none) else
    ∃ b g q cap us, e = .returned (.pointer (some ⟨b, 0, none⟩)) ∧ RAt b g (tvOf q 0 cap (newR nm us)) ts.length [] (advanceM (newR nm us) now) w' ∧ SameT us ts ∧ w.heap.size ≤ b ∧ w.heap.size ≤ g ∧ w.heap.size ≤ q ∧ ∀ j, j < ts.length → ∀ m, us[j]!.sl.ownBlock = some m → m < w'.heap.size
set_option maxHeartbeats 8000000 in
theorem runNew (nm : ByteArray) (v : Value) (ts : List TaskV) (now : Int) (w : World) (h : TasksAt w v ts) (hok : okTs ts) (hnm : nm.size ≤ maxLen) : Calls Tryz.prog 20 #[.agg #[.string nm, v], .int .i64 now] w (NewPost nm ts now w) := by
  obtain ⟨vp, vc, rfl, _⟩ := h.val
  have HB0 := Lib.hid (below1 w (.cells #[.string nm, .slice vp ts.length vc] 46))
  have hx := BlkIs.alloc w [.string nm, .slice vp ts.length vc] 46
  have HT0 := Lib.hid (h.below HB0.out)
  have HM := Lib.hid (runMay nm (.slice vp ts.length vc) ts w.heap.size (w.alloc (.cells #[.string nm, .slice vp ts.length vc] 46)) ⟨hx.lt, hx.cell 0, hx.cell 1, HT0.out⟩ hok hnm)
  have HX0 := Lib.hid hx
  clear hx h hok hnm
  go_enter Tryz.func20, Tryz.ntmps20
  by_cases hm : mayP nm ts = false
  · have HFIN := Lib.hid (fun (w' : World) (h1 : Below w.heap.size w w') => (show NewPost nm ts now w (.returned (.pointer none)) w' from ⟨h1, by rw [if_pos hm]⟩))
    rw [hm] at HM
    clear hm
    go_wp2_with fail
    generalize w.alloc (.cells #[.string nm, .slice vp ts.length vc] 46) = W1 at *
    refine HM.out.mono ?_
    rintro e w1 ⟨rfl, hb⟩
    have HB1 := Lib.hid (HB0.out.trans (hb.mono HB0.out.size))
    clear hb
    go_wp2
    go_ret
    exact HFIN.out w1 HB1.out
  · have hpipe : pipeB nm ts = true := by
      unfold mayP at hm
      cases hp : pipeB nm ts
      · rw [hp] at hm; exact absurd rfl hm
      · rfl
    have HFIN := Lib.hid (fun (b g q cap : Nat) (us : List TaskV) (w' : World) (h0 : Below w.heap.size w w') (h1 : RAt b g (tvOf q 0 cap (newR nm us)) ts.length [] (advanceM (newR nm us) now) w') (h2 : SameT us ts) (h3 : w.heap.size ≤ b) (h4 : w.heap.size ≤ g) (h5 : w.heap.size ≤ q) (h6 : ∀ j, j < ts.length → ∀ m, us[j]!.sl.ownBlock = some m → m < w'.heap.size) => (show NewPost nm ts now w (.returned (.pointer (some ⟨b, 0, none⟩))) w' from ⟨h0, by rw [if_neg hm]; exact ⟨b, g, q, cap, us, rfl, h1, h2, h3, h4, h5, h6⟩⟩))
    have hmt : mayP nm ts = true := by simpa using hm
    rw [hmt] at HM
    obtain ⟨hl1, hl8⟩ := pipeB_len hpipe
    have HLA := Lib.hid (fun j (hj : j < ts.length) => (show ts[j]!.after.length ≤ 1000 from by have := pipeB_afterLen hpipe hj; omega))
    have HAF := Lib.hid (aftIn_of hpipe)
    clear hm hmt hpipe
    have HADV := Lib.hid (fun (b g q cap : Nat) (us : List TaskV) (X : World) (h1 : RAt b g (tvOf q 0 cap (newR nm us)) ts.length [] (newR nm us) X) (hs : SameT us ts) => runAdvance b g q 0 cap ts.length [] (newR nm us) now X h1 (by simp [newR, hs.1]; omega) (fun j hj k hk => by
      have hj' : j < ts.length := by rw [← hs.1]; exact hj
      have e : us[j]!.after = ts[j]!.after := by rw [hs.2 j hj']
      have := HAF.out j hj' k (by rw [← e]; exact hk)
      show 0 ≤ us[j]!.after[k]! ∧ us[j]!.after[k]! < us.length
      rw [e, hs.1]
      exact this) (fun j hj => by
      have hj' : j < ts.length := by rw [← hs.1]; exact hj
      have e : us[j]!.after = ts[j]!.after := by rw [hs.2 j hj']
      show us[j]!.after.length ≤ maxLen
      rw [e]
      have := HLA.out j hj'
      unfold maxLen
      omega))
    clear HAF
    go_wp2_with fail
    generalize w.alloc (.cells #[.string nm, .slice vp ts.length vc] 46) = W1 at *
    refine HM.out.mono ?_
    rintro e w1 ⟨rfl, hb⟩
    have HB1 := Lib.hid (HB0.out.trans (hb.mono HB0.out.size))
    have HX1 := Lib.hid (HX0.out.below hb)
    have HT1 := Lib.hid (HT0.out.below hb)
    have HCL := Lib.hid (fun (X : World) (hb : Below w1.heap.size w1 X) => runClone nm _ ts X (HT1.out.below hb) (by omega) (by omega) HLA.out)
    have hn0 : 0 < ts.length := by omega
    have hn1 : ts.length ≤ 1000 := by omega
    clear hb HM HB0 HX0 HT0 hl1 hl8
    have x0 := HX1.out.cell 0
    have x1 := HX1.out.cell 1
    simp only [List.getElem?_cons_succ, List.getElem?_cons_zero] at x0 x1
    have HXX := Lib.hid (fun (X : World) (hb : Below w1.heap.size w1 X) => (show X.cell? ⟨w.heap.size, 0, none⟩ = some (.string nm) ∧ X.cell? ⟨w.heap.size, 1, none⟩ = some (.slice vp ts.length vc) from ⟨(HX1.out.below hb).cell 0, (HX1.out.below hb).cell 1⟩))
    clear HX1 HT1
    have HZ := Lib.hid (show w.heap.size ≤ w1.heap.size from HB1.out.size)
    have HNEW := Lib.hid (fun (us : List TaskV) (q cap g : Nat) (X : World) (ht : TasksAt X (.slice (some ⟨q, 0, none⟩) ts.length cap) us) (hs : SameT us ts) (hg : BlkIs X g (flat encPart (List.replicate ts.length default)) 109) (hqg : q ≠ g) (hqz : q < X.heap.size) (hu : ∀ j, j < ts.length → ∀ m, us[j]!.sl.ownBlock = some m → m ≠ g ∧ m < X.heap.size) => newRAt (nm := nm) ht hs hg hqg hqz hu)
    generalize hn : ts.length = n at *
    have HN := Lib.hid hn
    clear hn
    go_wp2_with fail
    refine wp_region_held_drew (S := (fun X => X.cell? ⟨w.heap.size, 0, none⟩ = some (.string nm) ∧ X.cell? ⟨w.heap.size, 1, none⟩ = some (.slice vp n vc))) (by kernel_rfl) ⟨x0, x1⟩ (fun hHeld => ?_)
    try dsimp only [List.size_toArray, List.length_cons, List.length_nil]
    refine takeL (i := 0) rfl (v := ?vz1) (by kernel_rfl) (by kernel_rfl) (by kernel_rfl) (fun _ _ _ h => h) (Or.inl ⟨by rfl, fun _w _hSw => ?hyz1⟩) (by assumption) ?restz1
    case hyz1 =>
      (try dsimp only at _hSw)
      go_simp
      try with_reducible rfl
    try simp only [Act.put, List.setIfInBounds_toArray, List.set_cons_zero, List.set_cons_succ]
    refine takeL (i := 2) rfl (v := ?vz2) (by kernel_rfl) (by kernel_rfl) (by kernel_rfl) (fun _ _ _ h => h) (Or.inl ⟨by rfl, fun _w _hSw => ?hyz2⟩) (by assumption) ?restz2
    case hyz2 =>
      (try dsimp only at _hSw)
      go_simp
      try with_reducible rfl
    try simp only [Act.put, List.setIfInBounds_toArray, List.set_cons_zero, List.set_cons_succ]
    refine takeL (i := 3) rfl (v := ?vz3) (by kernel_rfl) (by kernel_rfl) (by kernel_rfl) (fun _ _ _ h => h) (Or.inl ⟨by rfl, fun _w _hSw => ?hyz3⟩) (by assumption) ?restz3
    case hyz3 =>
      (try dsimp only at _hSw)
      go_simp
      try with_reducible rfl
    try simp only [Act.put, List.setIfInBounds_toArray, List.set_cons_zero, List.set_cons_succ]
    refine takeL (i := 4) rfl (v := ?vz4) (by kernel_rfl) (by kernel_rfl) (by kernel_rfl) (fun _ _ _ h => h) (Or.inl ⟨by rfl, fun _w _hSw => ?hyz4⟩) (by assumption) ?restz4
    case hyz4 =>
      (try dsimp only at _hSw)
      go_simp
      try with_reducible rfl
    try simp only [Act.put, List.setIfInBounds_toArray, List.set_cons_zero, List.set_cons_succ]
    refine wpAnyH_ready (rs := [1, 5]) (by kernel_rfl) (by simp) (readyL rfl (fun K1 hK => ?aft) (readyL rfl (fun K1 hK => ?bft) AllReadyH.nil))
    case aft =>
      go_simp
      with_reducible refine (HCL.out _ ((Below.refl _ w1).drew)).mono ?_
      rintro e w5 hp
      unfold ClonePost at hp
      obtain ⟨q, cap, us, rfl, hT, hS, hb5, ⟨hq1, hq2⟩, hu⟩ := hp
      rw [HN.out] at hu hT
      try rw [HN.out]
      try dsimp only
      have HB15 : w1.heap.size ≤ w5.heap.size := hb5.size
      refine hK.out _ _ (HXX.out w5 ((Below.refl _ w1).drew.trans hb5)) (fun hHeld => ?_)
      clear hK K1
      try simp only [Act.put, List.setIfInBounds_toArray, List.set_cons_zero, List.set_cons_succ]
      refine wpAnyH_ready (rs := [5]) (by kernel_rfl) (by simp) (readyL rfl (fun K1 hK => ?_) AllReadyH.nil)
      refine wp_makeP n hn1 rfl (by go_simp) (fun w6 hg hb6 => ?_)
      try dsimp only
      have HT6 := Lib.hid (hT.below hb6)
      have HSM := Lib.hid hS
      have HUB := Lib.hid (show ∀ j, j < n → ∀ m, us[j]!.sl.ownBlock = some m → m < w6.heap.size from fun j hj m hm => by have := (hu j hj m hm).2; have := hb6.size; omega)
      have HG6 := Lib.hid (hg)
      have HRN := Lib.hid (HNEW.out us q cap _ w6 HT6.out hS HG6.out (by have : w1.drew.heap.size = w1.heap.size := rfl; omega) (Nat.lt_of_lt_of_le hq2 hb6.size) (fun j hj m hm => by have := (hu j hj m hm).2; have := hb6.size; omega))
      have HBE := Lib.hid (show Below w1.heap.size w1 w6 from ((Below.refl _ w1).drew.trans hb5).trans (hb6.mono HB15))
      have HBR := Lib.hid ((HB1.out.trans (HBE.out.mono HZ.out)).alloc (HB1.out.trans (HBE.out.mono HZ.out)).size (.cells #[.string nm, .slice (some ⟨q, 0, none⟩) n cap, .slice (some ⟨w5.heap.size, 0, none⟩) n n, .bool false] 96))
      have HBW := Lib.hid ((HB1.out.trans (HBE.out.mono HZ.out)).size)
      have HGW := Lib.hid (show w.heap.size ≤ w5.heap.size from by have := HZ.out; have := HB15; have : w1.drew.heap.size = w1.heap.size := rfl; omega)
      have HQW := Lib.hid (show w.heap.size ≤ q from by have := HZ.out; have := HB15; have : w1.drew.heap.size = w1.heap.size := rfl; omega)
      refine hK.out _ _ (HXX.out w6 HBE.out) (fun hHeld => ?_)
      clear hK K1 hT hS hg hb6 hb5 hu
      try simp only [Act.put, List.setIfInBounds_toArray, List.set_cons_zero, List.set_cons_succ]
      refine takeL (i := 6) rfl (v := ?vz5) (by kernel_rfl) (by kernel_rfl) (by kernel_rfl) (fun _ _ _ h => h) (Or.inl ⟨by rfl, fun _w _hSw => ?hyz5⟩) (by assumption) ?restz5
      case hyz5 =>
        (try dsimp only at _hSw)
        go_simp
        try with_reducible rfl
      try simp only [Act.put, List.setIfInBounds_toArray, List.set_cons_zero, List.set_cons_succ]
      refine wpAnyH_ready (rs := [7]) (by kernel_rfl) (by simp) (readyL rfl (fun K1 hK => ?_) AllReadyH.nil)
      go_simp
      refine hK.out _ _ (HXX.out _ (HBE.out.alloc HBE.out.size _)) (fun _ => ?_)
      clear hK K1
      try simp only [Act.put, List.setIfInBounds_toArray, List.set_cons_zero, List.set_cons_succ]
      refine takeL (i := 8) rfl (v := ?vz6) (by kernel_rfl) (by kernel_rfl) (by kernel_rfl) (fun _ _ _ h => h) (Or.inl ⟨by rfl, fun _w _hSw => ?hyz6⟩) (by assumption) ?restz6
      case hyz6 =>
        (try dsimp only at _hSw)
        go_simp
        try with_reducible rfl
      try simp only [Act.put, List.setIfInBounds_toArray, List.set_cons_zero, List.set_cons_succ]
      refine wpAnyH_done (by kernel_rfl) ?_ _
      have HBZ := Lib.hid (show (w6).heap.size = (w6).heap.size from rfl)
      have HWZ := Lib.hid (show (w6).heap.size ≤ ((w6).alloc (.cells #[.string nm, .slice (some ⟨q, 0, none⟩) n cap, .slice (some ⟨w5.heap.size, 0, none⟩) n n, .bool false] 96)).heap.size from by simp)
      generalize hwr : (w6).alloc (.cells #[.string nm, .slice (some ⟨q, 0, none⟩) n cap, .slice (some ⟨w5.heap.size, 0, none⟩) n n, .bool false] 96) = wr at *
      clear hwr
      go_wp2_with fail
      refine (HADV.out _ _ _ _ _ _ HRN.out HSM.out).mono ?_
      rintro e w7 ⟨rfl, hR, hK⟩
      have HR7 := Lib.hid hR
      have HKZ := Lib.hid hK.2.2
      have HB7 := Lib.hid (HBR.out.trans (hK.1 _ HGW.out))
      clear hR hK
      go_wp2
      go_ret
      exact HFIN.out _ _ _ _ _ _ HB7.out HR7.out HSM.out HBW.out HGW.out HQW.out (fun j hj m hm => Nat.lt_of_lt_of_le (Nat.lt_of_lt_of_le (HUB.out j hj m hm) HWZ.out) HKZ.out)
    case bft =>
      refine wp_makeP n hn1 rfl (by go_simp) (fun w5 hg hb6 => ?_)
      try dsimp only
      have hb6 : Below w1.heap.size w1.drew w5 := hb6
      have hg : BlkIs w5 w1.heap.size (flat encPart (List.replicate n default)) 109 := hg
      have HB15 : w1.heap.size < w5.heap.size := hg.lt
      refine hK.out _ _ (HXX.out w5 ((Below.refl _ w1).drew.trans hb6)) (fun hHeld => ?_)
      clear hK K1
      try simp only [Act.put, List.setIfInBounds_toArray, List.set_cons_zero, List.set_cons_succ]
      refine wpAnyH_ready (rs := [1]) (by kernel_rfl) (by simp) (readyL rfl (fun K1 hK => ?_) AllReadyH.nil)
      go_simp
      with_reducible refine (HCL.out _ ((Below.refl _ w1).drew.trans hb6)).mono ?_
      rintro e w6 hp
      unfold ClonePost at hp
      obtain ⟨q, cap, us, rfl, hT, hS, hb5, ⟨hq1, hq2⟩, hu⟩ := hp
      rw [HN.out] at hu hT
      try rw [HN.out]
      try dsimp only
      have HT6 := Lib.hid (hT)
      have HSM := Lib.hid hS
      have HUB := Lib.hid (show ∀ j, j < n → ∀ m, us[j]!.sl.ownBlock = some m → m < w6.heap.size from fun j hj m hm => (hu j hj m hm).2)
      have HG6 := Lib.hid (hg.below hb5)
      have HRN := Lib.hid (HNEW.out us q cap _ w6 HT6.out hS HG6.out (by have : w1.drew.heap.size = w1.heap.size := rfl; omega) hq2 (fun j hj m hm => by have := hu j hj m hm; have : w1.drew.heap.size = w1.heap.size := rfl; omega))
      have HBE := Lib.hid (show Below w1.heap.size w1 w6 from ((Below.refl _ w1).drew.trans hb6).trans (hb5.mono (Nat.le_of_lt HB15)))
      have HBR := Lib.hid ((HB1.out.trans (HBE.out.mono HZ.out)).alloc (HB1.out.trans (HBE.out.mono HZ.out)).size (.cells #[.string nm, .slice (some ⟨q, 0, none⟩) n cap, .slice (some ⟨w1.heap.size, 0, none⟩) n n, .bool false] 96))
      have HBW := Lib.hid ((HB1.out.trans (HBE.out.mono HZ.out)).size)
      have HGW := Lib.hid (show w.heap.size ≤ w1.heap.size from by have := HZ.out; have := HB15; have : w1.drew.heap.size = w1.heap.size := rfl; omega)
      have HQW := Lib.hid (show w.heap.size ≤ q from by have := HZ.out; have := HB15; have : w1.drew.heap.size = w1.heap.size := rfl; omega)
      refine hK.out _ _ (HXX.out w6 HBE.out) (fun hHeld => ?_)
      clear hK K1 hT hS hg hb6 hb5 hu
      try simp only [Act.put, List.setIfInBounds_toArray, List.set_cons_zero, List.set_cons_succ]
      refine takeL (i := 6) rfl (v := ?vz7) (by kernel_rfl) (by kernel_rfl) (by kernel_rfl) (fun _ _ _ h => h) (Or.inl ⟨by rfl, fun _w _hSw => ?hyz7⟩) (by assumption) ?restz7
      case hyz7 =>
        (try dsimp only at _hSw)
        go_simp
        try with_reducible rfl
      try simp only [Act.put, List.setIfInBounds_toArray, List.set_cons_zero, List.set_cons_succ]
      refine wpAnyH_ready (rs := [7]) (by kernel_rfl) (by simp) (readyL rfl (fun K1 hK => ?_) AllReadyH.nil)
      go_simp
      refine hK.out _ _ (HXX.out _ (HBE.out.alloc HBE.out.size _)) (fun _ => ?_)
      clear hK K1
      try simp only [Act.put, List.setIfInBounds_toArray, List.set_cons_zero, List.set_cons_succ]
      refine takeL (i := 8) rfl (v := ?vz8) (by kernel_rfl) (by kernel_rfl) (by kernel_rfl) (fun _ _ _ h => h) (Or.inl ⟨by rfl, fun _w _hSw => ?hyz8⟩) (by assumption) ?restz8
      case hyz8 =>
        (try dsimp only at _hSw)
        go_simp
        try with_reducible rfl
      try simp only [Act.put, List.setIfInBounds_toArray, List.set_cons_zero, List.set_cons_succ]
      refine wpAnyH_done (by kernel_rfl) ?_ _
      have HBZ := Lib.hid (show (w6).heap.size = (w6).heap.size from rfl)
      have HWZ := Lib.hid (show (w6).heap.size ≤ ((w6).alloc (.cells #[.string nm, .slice (some ⟨q, 0, none⟩) n cap, .slice (some ⟨w1.heap.size, 0, none⟩) n n, .bool false] 96)).heap.size from by simp)
      generalize hwr : (w6).alloc (.cells #[.string nm, .slice (some ⟨q, 0, none⟩) n cap, .slice (some ⟨w1.heap.size, 0, none⟩) n n, .bool false] 96) = wr at *
      clear hwr
      go_wp2_with fail
      refine (HADV.out _ _ _ _ _ _ HRN.out HSM.out).mono ?_
      rintro e w7 ⟨rfl, hR, hK⟩
      have HR7 := Lib.hid hR
      have HKZ := Lib.hid hK.2.2
      have HB7 := Lib.hid (HBR.out.trans (hK.1 _ HGW.out))
      clear hR hK
      go_wp2
      go_ret
      exact HFIN.out _ _ _ _ _ _ HB7.out HR7.out HSM.out HBW.out HGW.out HQW.out (fun j hj m hm => Nat.lt_of_lt_of_le (Nat.lt_of_lt_of_le (HUB.out j hj m hm) HWZ.out) HKZ.out)
end Go.Proofs.YtbbcicengfmhiaaGreatDoor

namespace Go.Proofs.YtbbcicengfmhiaaGreatDoor
set_option maxRecDepth 100000
open Go.RowKit

theorem runPipeNil (w : World) : Calls Tryz.prog 17 #[.pointer none] w fun e w' => e = .returned (.agg #[.string ⟨#[]⟩, .slice none 0 0]) ∧ Below w.heap.size w w' := by
  have HB := Lib.hid (below1 w (.cells #[.string ⟨#[]⟩, .slice none 0 0] 46))
  have hx := BlkIs.alloc w [.string ⟨#[]⟩, .slice none 0 0] 46
  have x0 := hx.cell 0
  have x1 := hx.cell 1
  have f0 := hx.frozen 0
  have f1 := hx.frozen 1
  simp only [List.getElem?_cons_succ, List.getElem?_cons_zero] at x0 x1
  clear hx
  go_enter Tryz.func17, Tryz.ntmps17
  go_wp2_with fail
  generalize w.alloc (.cells #[.string ⟨#[]⟩, .slice none 0 0] 46) = W1 at *
  go_wp2_with fail
  refine bodyPost_ret (v := .agg #[.string ⟨#[]⟩, .slice none 0 0]) (by rw [results_cellX rfl]; go_simp) rfl ?_
  exact ⟨rfl, HB.out⟩
set_option maxHeartbeats 4000000 in
theorem runPipe (b g tb tf tc c : Nat) (J : List Value) (R : RunM) (w : World) (h : RAt b g (tvOf tb tf tc R) c J R w) (hbig : R.ts.length ≤ 1000) (hpos : 0 < R.ts.length) (hla : ∀ j, j < R.ts.length → R.ts[j]!.after.length ≤ 1000) :
    Calls Tryz.prog 17 #[.pointer (some ⟨b, 0, none⟩)] w fun e w' => ∃ q cap us, e = .returned (.agg #[.string R.nm, .slice (some ⟨q, 0, none⟩) R.ts.length cap]) ∧ TasksAt w' (.slice (some ⟨q, 0, none⟩) R.ts.length cap) us ∧ SameT us R.ts ∧ Below w.heap.size w w' := by
  have hb := below1 w (.cells #[.string ⟨#[]⟩, .slice none 0 0] 46)
  have HB := Lib.hid hb
  have hx := BlkIs.alloc w [.string ⟨#[]⟩, .slice none 0 0] 46
  have HX := Lib.hid hx
  have h1 := h.below hb
  obtain ⟨d0, d1, _, _⟩ := h1.head
  have HCL := Lib.hid (runClone R.nm _ R.ts _ h1.tasks hbig hpos hla)
  have HFIN := Lib.hid (fun (q cap : Nat) (us : List TaskV) (w' : World) (h1 : TasksAt w' (.slice (some ⟨q, 0, none⟩) R.ts.length cap) us) (h2 : SameT us R.ts) (h3 : Below w.heap.size w w') => (show (fun e w' => ∃ q cap us, e = Ending.returned (.agg #[.string R.nm, .slice (some ⟨q, 0, none⟩) R.ts.length cap]) ∧ TasksAt w' (.slice (some ⟨q, 0, none⟩) R.ts.length cap) us ∧ SameT us R.ts ∧ Below w.heap.size w w') (.returned (.agg #[.string R.nm, .slice (some ⟨q, 0, none⟩) R.ts.length cap])) w' from ⟨q, cap, us, rfl, h1, h2, h3⟩))
  have HZ := Lib.hid (show (w.alloc (.cells #[.string ⟨#[]⟩, .slice none 0 0] 46)).heap.size = w.heap.size + 1 from Array.size_push _)
  have hbz := h.blk.lt
  unfold tvOf at d1 HCL
  generalize hpo : (fun e w' => ∃ q cap us, e = Ending.returned (.agg #[.string R.nm, .slice (some ⟨q, 0, none⟩) R.ts.length cap]) ∧ TasksAt w' (.slice (some ⟨q, 0, none⟩) R.ts.length cap) us ∧ SameT us R.ts ∧ Below w.heap.size w w') = PO at *
  clear h h1 hb hx hpo hbig hpos hla
  generalize R.nm = nm at *
  generalize R.ts = ts at *
  go_enter Tryz.func17, Tryz.ntmps17
  go_wp2_with fail
  generalize w.alloc (.cells #[.string ⟨#[]⟩, .slice none 0 0] 46) = W1 at *
  go_wp2_with fail
  refine HCL.out.mono ?_
  rintro e w5 hp
  unfold ClonePost at hp
  obtain ⟨q, cap, us, rfl, hT, hS, hb5, ⟨hq1, hq2⟩, hu⟩ := hp
  have hx5 := HX.out.below hb5
  have HX5 := Lib.hid hx5
  have HB5 := Lib.hid (HB.out.trans (hb5.mono HB.out.size))
  have hkg := KeptG.sets w.heap.size 0 w5 [.string nm, .slice (some ⟨q, 0, none⟩) ts.length cap]
  have HTE := Lib.hid (show TasksAt (w5.setCells w.heap.size 0 [.string nm, .slice (some ⟨q, 0, none⟩) ts.length cap]) (.slice (some ⟨q, 0, none⟩) ts.length cap) us from ⟨hT.1.keptG hkg (by simp only [Value.ownBlock, ne_eq, Option.some.injEq]; have := HZ.out; omega), fun j hj => (hT.2 j hj).keptG hkg (fun e => by have := hu j (by rw [← hS.1]; exact hj) _ e; have := HZ.out; omega)⟩)
  have HBE := Lib.hid (below_setsG (B := w.heap.size) (b := w.heap.size) (Nat.le_refl _) [.string nm, .slice (some ⟨q, 0, none⟩) ts.length cap] 0 w _ HB5.out)
  have HXE := Lib.hid (BlkIs.sets [.string nm, .slice (some ⟨q, 0, none⟩) ts.length cap] 0 _ _ hx5 (Nat.le_refl _))
  have HS := Lib.hid hS
  have x0 := hx5.cell 0
  have x1 := hx5.cell 1
  have f0 := hx5.frozen 0
  have f1 := hx5.frozen 1
  simp only [List.getElem?_cons_succ, List.getElem?_cons_zero] at x0 x1
  clear hT hS hb5 hx5 hkg hu
  go_wp2_with fail
  generalize hwe : w5.setCells w.heap.size 0 [.string nm, .slice (some ⟨q, 0, none⟩) ts.length cap] = wE at *
  simp only [World.setCells] at hwe
  rw [hwe]
  clear hwe
  have e0 := HXE.out.cell 0
  have e1 := HXE.out.cell 1
  simp only [splice, List.length_nil, List.length_cons, List.take_zero, List.nil_append, List.cons_append, List.append_nil, List.drop, List.getElem?_cons_succ, List.getElem?_cons_zero] at e0 e1
  refine bodyPost_ret (v := .agg #[.string nm, .slice (some ⟨q, 0, none⟩) ts.length cap]) (by rw [results_cellX rfl]; go_simp) rfl ?_
  exact HFIN.out q cap us wE HTE.out HS.out HBE.out
end Go.Proofs.YtbbcicengfmhiaaGreatDoor

namespace Go.Proofs.YtbbcicengfmhiaaGreatDoor
set_option maxRecDepth 100000
open Go.RowKit

/-- a writer that holds l; what lay before stands -/
structure WrG (R b : Nat) (l : List UInt8) (w0 w : World) : Prop where
  wr : ∃ T, WrAt R T b l w
  kept : KeptW R b w0 w
  met : Met w
  nine : 9 ≤ b
def WrN (R b : Nat) (l : List UInt8) (w0 w : World) (e : Ending) (w' : World) : Prop := e = .returned (.tuple #[]) ∧ WrG R b l w0 w' ∧ KeptW R b w w'
theorem WrG.sz {R b : Nat} {l : List UInt8} {w0 w : World} (h : WrG R b l w0 w) : b < R ∧ R ≤ w.heap.size := by
  obtain ⟨T, hT⟩ := h.wr
  exact ⟨hT.1.1, hT.1.2.1⟩
theorem WrG.below {R b : Nat} {l : List UInt8} {w0 w w' : World} (h : WrG R b l w0 w) (hb : Below w.heap.size w w') : WrG R b l w0 w' :=
  ⟨by obtain ⟨T, hT⟩ := h.wr; exact ⟨T, hT.below hb⟩, h.kept.trans (KeptW.of h.sz.2 h.sz.1 hb), h.met.below hb, h.nine⟩
theorem WrG.kB {R b : Nat} {l : List UInt8} {w0 w w' : World} (h : WrG R b l w0 w) (hb : Below w.heap.size w w') : KeptW R b w w' := KeptW.of h.sz.2 h.sz.1 hb
theorem BlkIs.keptW {R b q : Nat} {w w' : World} {cs : List Value} {T : TypeId} (h : BlkIs w q cs T) (hk : KeptW R b w w') (hT : T ≠ 5) (hne : q ≠ b) : BlkIs w' q cs T := h.of (hk.2.1 q (.inr ⟨_, _, _, h, hT⟩) hne)
theorem WrG.next {R b T' : Nat} {l l' : List UInt8} {w0 w w' : World} (h : WrG R b l w0 w) (hW : WrAt R T' b l' w') (hk : KeptW R b w w') : WrG R b l' w0 w' := ⟨⟨_, hW⟩, h.kept.trans hk, hk.met h.met h.nine, h.nine⟩
theorem WrG.text {R b : Nat} {l : List UInt8} {w0 w : World} (h : WrG R b l w0 w) (s : ByteArray) (hlen : l.length + 22 + s.size ≤ 140737488355328) :
    Calls Tryz.prog 72 #[.pointer (some ⟨b, 0, none⟩), .slice (some ⟨w.heap.size, 0, none⟩) 1 1] (w.alloc (.cells #[.string s] 9)) (WrN R b (l ++ textL s.data.toList) w0 w) := by
  have hb := below1 w (.cells #[.string s] 9)
  obtain ⟨T, hT⟩ := h.wr
  refine (writerText R T b w.heap.size 0 1 l s _ (hT.below hb) (h.met.below hb) h.nine hlen (by have := h.sz; omega) ((BlkIs.alloc w [.string s] 9).cell 0)).mono ?_
  rintro e w' ⟨rfl, ⟨T', hT'⟩, hk⟩
  exact ⟨rfl, (h.below hb).next hT' hk, (h.kB hb).trans hk⟩
theorem WrG.int1 {R b : Nat} {l : List UInt8} {w0 w : World} (h : WrG R b l w0 w) (n : Int) (hn : okI n) (hlen : l.length + 22 ≤ 140737488355328) :
    Calls Tryz.prog 90 #[.pointer (some ⟨b, 0, none⟩), .slice (some ⟨w.heap.size, 0, none⟩) 1 1] (w.alloc (.cells #[.int .i64 n] 3)) (WrN R b (l ++ numL n) w0 w) := by
  have hb := below1 w (.cells #[.int .i64 n] 3)
  obtain ⟨T, hT⟩ := h.wr
  refine (writerInt R T b w.heap.size 0 1 l [n] _ (hT.below hb) (h.met.below hb) h.nine (fun j hj => by match j, hj with | 0, _ => exact hn) (by simpa using hlen) (by have := h.sz; omega) (.inr (.inl (by simp))) (fun j hj => by match j, hj with | 0, _ => exact (BlkIs.alloc w [.int .i64 n] 3).cell 0)).mono ?_
  rintro e w' ⟨rfl, ⟨T', hT'⟩, hk⟩
  rw [numsL_one] at hT'
  exact ⟨rfl, (h.below hb).next hT' hk, (h.kB hb).trans hk⟩
theorem WrG.int3 {R b : Nat} {l : List UInt8} {w0 w : World} (h : WrG R b l w0 w) (x y z : Int) (hx : okI x) (hy : okI y) (hz : okI z) (hlen : l.length + 66 ≤ 140737488355328) :
    Calls Tryz.prog 90 #[.pointer (some ⟨b, 0, none⟩), .slice (some ⟨w.heap.size, 0, none⟩) 3 3] (w.alloc (.cells #[.int .i64 x, .int .i64 y, .int .i64 z] 3)) (WrN R b (l ++ numsL [x, y, z]) w0 w) := by
  have hb := below1 w (.cells #[.int .i64 x, .int .i64 y, .int .i64 z] 3)
  obtain ⟨T, hT⟩ := h.wr
  refine (writerInt R T b w.heap.size 0 3 l [x, y, z] _ (hT.below hb) (h.met.below hb) h.nine (fun j hj => by match j, hj with | 0, _ => exact hx | 1, _ => exact hy | 2, _ => exact hz) (by simpa using hlen) (by have := h.sz; omega) (.inr (.inr (Safe.alloc _ _ (by decide)))) (fun j hj => by match j, hj with | 0, _ => exact (BlkIs.alloc w [.int .i64 x, .int .i64 y, .int .i64 z] 3).cell 0 | 1, _ => exact (BlkIs.alloc w [.int .i64 x, .int .i64 y, .int .i64 z] 3).cell 1 | 2, _ => exact (BlkIs.alloc w [.int .i64 x, .int .i64 y, .int .i64 z] 3).cell 2)).mono ?_
  rintro e w' ⟨rfl, ⟨T', hT'⟩, hk⟩
  exact ⟨rfl, (h.below hb).next hT' hk, (h.kB hb).trans hk⟩
theorem WrG.ints {R b : Nat} {l : List UInt8} {w0 w : World} (h : WrG R b l w0 w) (hz : w0.heap.size ≤ b) (v : Value) (xs : List Int) (hS : SlAt 1 encI w0 v xs) (hok : ∀ j, j < xs.length → okI xs[j]!) (hlen : l.length + xs.length * 22 ≤ 140737488355328) :
    Calls Tryz.prog 90 #[.pointer (some ⟨b, 0, none⟩), v] w (WrN R b (l ++ numsL xs) w0 w) := by
  obtain ⟨T, hT⟩ := h.wr
  have hbR := h.sz.1
  obtain ⟨p, c, rfl, _, hcc⟩ := hS
  by_cases h0 : 0 < xs.length
  · obtain ⟨q, off, rfl, hqs, hcell⟩ := hcc h0
    refine (writerInt R T b q off c l xs w hT h.met h.nine hok hlen (by omega) (.inl (by omega)) (fun j hj => ?_)).mono ?_
    · have h1 := hcell j hj 0 _ rfl
      rw [h.kept.cell (by omega) (by omega)]
      simpa using h1
    · rintro e w' ⟨rfl, ⟨T', hT'⟩, hk⟩
      exact ⟨rfl, h.next hT' hk, hk⟩
  · have hx : xs = [] := List.eq_nil_of_length_eq_zero (by omega)
    subst hx
    refine (writerInt0 b p c w).mono ?_
    rintro e w' ⟨rfl, rfl⟩
    exact ⟨rfl, by simpa [numsL] using h, KeptW.refl _ _ _⟩
theorem WrG.label {R b : Nat} {l : List UInt8} {w0 w : World} (h : WrG R b l w0 w) (a : Int) (x : Nat) (ha : okI a) (hx : x < 65536) (hlen : l.length + 44 ≤ 140737488355328) :
    Calls Tryz.prog 91 #[.pointer (some ⟨b, 0, none⟩), .agg #[.int .i64 a, .int .u16 ((x : Nat) : Int)]] w (WrN R b (l ++ numsL [a, (x : Int)]) w0 w) := by
  obtain ⟨T, hT⟩ := h.wr
  refine (writerLabel R T b l a x w hT h.met h.nine ha hx hlen).mono ?_
  rintro e w' ⟨rfl, ⟨T', hT'⟩, hk⟩
  exact ⟨rfl, h.next hT' hk, hk⟩
theorem WrG.tr {R b : Nat} {l : List UInt8} {w0 w : World} (h : WrG R b l w0 w) (s si m k lv u : Int) (o1 : okI s) (o2 : okI si) (o3 : okI m) (o4 : okI k) (o5 : okI lv) (o6 : okI u) (hlen : l.length + 132 ≤ 140737488355328) :
    Calls Tryz.prog 92 #[.pointer (some ⟨b, 0, none⟩), .agg #[.int .i64 s, .int .i64 si, .int .i64 m, .int .i64 k, .int .i64 lv, .int .i64 u]] w (WrN R b (l ++ numsL [s, si, m, k, lv, u]) w0 w) := by
  obtain ⟨T, hT⟩ := h.wr
  refine (leaseWrite R T b l s si m k lv u w hT h.met h.nine o1 o2 o3 o4 o5 o6 hlen).mono ?_
  rintro e w' ⟨rfl, ⟨T', hT'⟩, hk⟩
  exact ⟨rfl, h.next hT' hk, hk⟩
theorem WrG.gate {R b : Nat} {l : List UInt8} {w0 w : World} (h : WrG R b l w0 w) (hz : w0.heap.size ≤ b) (v : Value) (no : Bool) (xs : List Int) (hS : SlAt 1 encI w0 v xs) (hok : ∀ j, j < xs.length → okI xs[j]!) (hlen : l.length + (xs.length + 2) * 22 ≤ 140737488355328) :
    Calls Tryz.prog 93 #[.pointer (some ⟨b, 0, none⟩), .agg #[v, .bool no]] w (WrN R b (l ++ gateL xs no) w0 w) := by
  obtain ⟨T, hT⟩ := h.wr
  have hbR := h.sz.1
  have hS1 : SlAt 1 encI w v xs := hS.below (h.kept.1 _ hz)
  refine (gateWrite R T b l v no xs w hT h.met h.nine hS1 (fun h0 q hq => ?_) hok hlen).mono ?_
  · obtain ⟨p, c, rfl, _, hcc⟩ := hS
    obtain ⟨q', off, rfl, hqs, _⟩ := hcc h0
    simp only [Value.ownBlock, Option.some.injEq] at hq
    omega
  · rintro e w' ⟨rfl, ⟨T', hT'⟩, hk⟩
    exact ⟨rfl, h.next hT' hk, hk⟩
/-- what a run writes -/
def taskW (t : TaskV) : List UInt8 := textL t.nm.data.toList ++ (numL t.after.length ++ (numsL t.after ++ (numsL [t.retry, t.time, t.need] ++ numsL [t.lv, (t.set : Int)])))
def partW (p : PartV) : List UInt8 := numsL [p.try_.st, p.try_.since, p.try_.missed, p.try_.wk, p.try_.ls, p.try_.til] ++ (textL p.out.data.toList ++ gateL p.yes p.no)
def runW (R : RunM) : List UInt8 := textL R.nm.data.toList ++ (numL R.ps.length ++ (R.ts.flatMap taskW ++ (R.ps.flatMap partW ++ numL (fl01 R.over))))
end Go.Proofs.YtbbcicengfmhiaaGreatDoor

namespace Go.Proofs.YtbbcicengfmhiaaGreatDoor
set_option maxRecDepth 100000
open Go.RowKit

structure okW (R : RunM) : Prop where
  few : R.ts.length ≤ 1000
  ts : ∀ j, j < R.ts.length → R.ts[j]!.after.length ≤ 1000 ∧ (∀ k, k < R.ts[j]!.after.length → okI R.ts[j]!.after[k]!) ∧ okI R.ts[j]!.retry ∧ okI R.ts[j]!.time ∧ okI R.ts[j]!.need ∧ okI R.ts[j]!.lv ∧ R.ts[j]!.set < 65536
  ps : ∀ j, j < R.ps.length → (okI R.ps[j]!.try_.st ∧ okI R.ps[j]!.try_.since ∧ okI R.ps[j]!.try_.missed ∧ okI R.ps[j]!.try_.wk ∧ okI R.ps[j]!.try_.ls ∧ okI R.ps[j]!.try_.til) ∧ R.ps[j]!.yes.length ≤ 1000 ∧ ∀ k, k < R.ps[j]!.yes.length → okI R.ps[j]!.yes[k]!
theorem textL_ge (s : ByteArray) : s.size ≤ (textL s.data.toList).length := by
  simp only [textL, List.length_append, Array.length_toList]
  show s.data.size ≤ _
  omega
theorem flatTake {α β : Type} [Inhabited α] (f : α → List β) (xs : List α) {k : Nat} (hk : k < xs.length) : (xs.take (k + 1)).flatMap f = (xs.take k).flatMap f ++ f xs[k]! := by
  rw [List.take_succ_eq_append_getElem hk, List.flatMap_append, getElem!_pos xs k hk]
  simp
theorem flatTake_le {α β : Type} [Inhabited α] (f : α → List β) (xs : List α) (k : Nat) : ((xs.take k).flatMap f).length ≤ (xs.flatMap f).length := by
  conv => rhs; rw [← List.take_append_drop k xs, List.flatMap_append, List.length_append]
  omega
theorem bitC (o : Bool) (w : World) : Calls Tryz.prog 94 #[.bool o] w fun e w' => e = .returned (.int .i64 (fl01 o)) ∧ w = w' := by
  cases o
  all_goals
    go_enter Tryz.func94, Tryz.ntmps94
    go_wp2
    go_ret
    exact ⟨rfl, rfl⟩
theorem runWriteNil (v : Value) (w : World) : Calls Tryz.prog 51 #[.pointer none, v] w fun e w' => e = .returned (.tuple #[]) ∧ w = w' := by
  go_enter Tryz.func51, Tryz.ntmps51
  go_wp2
  refine bodyPost_ret (results_none rfl _ _ _) rfl ?_
  exact ⟨rfl, rfl⟩
set_option maxHeartbeats 16000000 in
theorem runWrite (b g tb tf tc c : Nat) (J : List Value) (R : RunM) (wb Rw : Nat) (l : List UInt8) (w0 w : World) (h : RAt b g (tvOf tb tf tc R) c J R w0) (hG : WrG Rw wb l w0 w) (hz : w0.heap.size ≤ wb) (hok : okW R) (hlen : l.length + (runW R).length + 100000 ≤ 140737488355328) :
    Calls Tryz.prog 51 #[.pointer (some ⟨b, 0, none⟩), .pointer (some ⟨wb, 0, none⟩)] w (WrN Rw wb (l ++ runW R) w0 w) := by
  have HG := Lib.hid hG
  have HR := Lib.hid (fun (X : World) (L : List UInt8) (hx : WrG Rw wb L w0 X) => (show RAt b g (tvOf tb tf tc R) c J R X from h.below (hx.kept.1 _ hz)))
  have HSL := Lib.hid (fun j (hj : j < R.ts.length) => (h.tasks.2 j hj))
  have HVS := Lib.hid (fun j (hj : j < R.ps.length) => (h.votes j hj).1)
  have hlnn := h.len
  have HSZ := Lib.hid hG.sz
  obtain ⟨hfew, hokt, hokp⟩ := hok
  have HOT := Lib.hid hokt
  have HOP := Lib.hid hokp
  have HFT := Lib.hid (fun k (hk : k < R.ts.length) => flatTake taskW R.ts hk)
  have HFP := Lib.hid (fun k (hk : k < R.ps.length) => flatTake partW R.ps hk)
  have HLT := Lib.hid (flatTake_le taskW R.ts)
  have HLP := Lib.hid (flatTake_le partW R.ps)
  obtain ⟨A0, hA0⟩ : ∃ A, A = textL R.nm.data.toList := ⟨_, rfl⟩
  obtain ⟨A1, hA1⟩ : ∃ A, A = numL R.ps.length := ⟨_, rfl⟩
  obtain ⟨A2, hA2⟩ : ∃ A, A = R.ts.flatMap taskW := ⟨_, rfl⟩
  obtain ⟨A3, hA3⟩ : ∃ A, A = R.ps.flatMap partW := ⟨_, rfl⟩
  have HRW := Lib.hid (show runW R = A0 ++ (A1 ++ (A2 ++ (A3 ++ numL (fl01 R.over)))) by subst hA0; subst hA1; subst hA2; subst hA3; rfl)
  rw [HRW.out]
  rw [HRW.out] at hlen
  rw [← hA2] at HLT
  rw [← hA3] at HLP
  simp only [List.length_append] at hlen
  have hnmz : R.nm.size ≤ A0.length := by rw [hA0]; exact textL_ge _
  have HA0 := Lib.hid hA0
  have HA1 := Lib.hid hA1
  have HA2 := Lib.hid hA2
  have HA3 := Lib.hid hA3
  obtain ⟨d0, d1, d2, d3⟩ := (HR.out w l hG).head
  unfold tvOf at d1
  have K0 := hG.text R.nm (by omega)
  rw [← hA0] at K0
  have HK0 := Lib.hid K0
  have HGOAL := Lib.hid (fun w' (h1 : WrG Rw wb (l ++ (A0 ++ (A1 ++ (A2 ++ (A3 ++ numL (fl01 R.over)))))) w0 w') (h2 : KeptW Rw wb w w') => (show WrN Rw wb (l ++ (A0 ++ (A1 ++ (A2 ++ (A3 ++ numL (fl01 R.over)))))) w0 w (.returned (.tuple #[])) w' from ⟨rfl, h1, h2⟩))
  generalize hGP : WrN Rw wb (l ++ (A0 ++ (A1 ++ (A2 ++ (A3 ++ numL (fl01 R.over)))))) w0 w = GP at *
  clear hA0 hA1 hA2 hA3 h hG hokt hokp K0 HRW hGP
  go_enter Tryz.func51, Tryz.ntmps51
  go_wp2_with fail
  refine HK0.out.mono ?_
  rintro e w1 ⟨rfl, hg, hk⟩
  have HG1 := Lib.hid hg
  have HK1 := Lib.hid hk
  clear d0 d1 d2 d3
  obtain ⟨d0, d1, d2, d3⟩ := (HR.out w1 _ hg).head
  unfold tvOf at d1
  have hpo : okI (R.ps.length : Int) := ⟨by omega, by omega⟩
  have K1 := hg.int1 R.ps.length hpo (by rw [List.length_append]; omega)
  rw [← HA1.out] at K1
  have HQ1 := Lib.hid K1
  clear hg hk K1
  go_wp2_with fail
  refine HQ1.out.mono ?_
  rintro e w2 ⟨rfl, hg, hk⟩
  have HG2 := Lib.hid hg
  have HK2 := Lib.hid (HK1.out.trans hk)
  clear d0 d1 d2 d3
  obtain ⟨d0, d1, d2, d3⟩ := (HR.out w2 _ hg).head
  unfold tvOf at d1
  clear hg hk
  go_wp2
  generalize hn : R.ts.length = n at *
  have HN := Lib.hid hn
  clear hn
  go_loopw [5, 32] (fun _ s wr => ∃ k : Nat, s = .int .i64 k ∧ k ≤ n ∧ WrG Rw wb (l ++ A0 ++ A1 ++ (R.ts.take k).flatMap taskW) w0 wr ∧ KeptW Rw wb w wr) (fun _ s _ => n - (intOf s).toNat)
  case atStart => exact ⟨0, by go_num, by omega, by simpa using HG2.out, HK2.out⟩
  case round =>
    obtain ⟨k, rfl, hk, hg, hkw⟩ := hrel
    by_cases hlt : k < n
    · have hk0 := hk
      have hkt : k < R.ts.length := by have := HN.out; omega
      have hltz : (k : Int) < (n : Int) := by omega
      have ht := taskF (HR.out wr _ hg) (show k < R.ps.length by have := HN.out; omega)
      obtain ⟨d0, d1, d2, d3⟩ := (HR.out wr _ hg).head
      have htz := ht.1
      obtain ⟨t0, t1, t2, t3, t4, t5, t6⟩ := ht.cells
      obtain ⟨oal, oaf, o1, o2, o3, o4, o5⟩ := HOT.out k hlt
      have hfk := HFT.out k hlt
      have hlk := HLT.out (k + 1)
      rw [hfk] at hlk
      have SL := Lib.hid (HSL.out k hlt)
      clear ht d0 d1 d2 d3
      generalize R.ts[k]! = t at *
      obtain ⟨tn, sl, af, retry, time, need, lv, set⟩ := t
      dsimp only at t0 t1 t2 t3 t4 t5 t6 oal oaf o1 o2 o3 o4 o5
      have SL := Lib.hid (show SlAt 1 encI w0 sl af from SL.out)
      obtain ⟨sp, sc, hsl, _⟩ := id SL.out
      subst hsl
      simp only [taskW, List.length_append] at hlk
      have htg := textL_ge tn
      obtain ⟨B, hB⟩ : ∃ B, B = l ++ A0 ++ A1 ++ (R.ts.take k).flatMap taskW := ⟨_, rfl⟩
      have hBl : B.length = l.length + A0.length + A1.length + ((R.ts.take k).flatMap taskW).length := by rw [hB]; simp only [List.length_append]
      have HNX := Lib.hid (show l ++ A0 ++ A1 ++ (R.ts.take (k + 1)).flatMap taskW = B ++ textL tn.data.toList ++ numL af.length ++ numsL af ++ numsL [retry, time, need] ++ numsL [lv, (set : Int)] by rw [hfk, hB]; simp only [taskW, List.append_assoc])
      rw [← hB] at hg
      have hna : okI (af.length : Int) := ⟨by omega, by omega⟩
      have bb := below1 wr (.cells #[.string tn, .slice sp af.length sc, .int .i64 retry, .int .i64 time, .int .i64 need, .int .i64 lv, .int .u16 (set : Int)] 100)
      have ez : (wr.alloc (.cells #[.string tn, .slice sp af.length sc, .int .i64 retry, .int .i64 time, .int .i64 need, .int .i64 lv, .int .u16 (set : Int)] 100)).heap.size = wr.heap.size + 1 := Array.size_push _
      have hgA := hg.below bb
      have K := hgA.text tn (by omega)
      rw [ez] at K
      have K := Lib.hid K
      have HKW := Lib.hid (hkw.trans (hg.kB bb))
      have HX := Lib.hid (BlkIs.alloc wr [.string tn, .slice sp af.length sc, .int .i64 retry, .int .i64 time, .int .i64 need, .int .i64 lv, .int .u16 (set : Int)] 100)
      have hbxw : wr.heap.size ≠ wb := by have := hg.sz; omega
      clear hg hkw hgA bb ez hfk hB
      go_wp2_with fail
      refine K.out.mono ?_
      rintro e w3 ⟨rfl, hg, hk⟩
      have HKW := Lib.hid (HKW.out.trans hk)
      have HX := Lib.hid (HX.out.keptW hk (by decide) hbxw)
      clear t0 t1 t2 t3 t4 t5 t6 hk K
      generalize wr.heap.size = bx at *
      have x := HX.out
      have x0 := x.cell 0
      have x1 := x.cell 1
      have x2 := x.cell 2
      have x3 := x.cell 3
      have x4 := x.cell 4
      have x5 := x.cell 5
      have x6 := x.cell 6
      simp only [List.getElem?_cons_succ, List.getElem?_cons_zero] at x0 x1 x2 x3 x4 x5 x6
      clear x
      have K := Lib.hid (hg.int1 _ hna (by simp only [List.length_append]; omega))
      clear hg
      go_wp2_with fail
      refine K.out.mono ?_
      rintro e w4 ⟨rfl, hg, hk⟩
      have HKW := Lib.hid (HKW.out.trans hk)
      have HX := Lib.hid (HX.out.keptW hk (by decide) hbxw)
      clear x0 x1 x2 x3 x4 x5 x6
      clear K
      clear hk
      have x := HX.out
      have x0 := x.cell 0
      have x1 := x.cell 1
      have x2 := x.cell 2
      have x3 := x.cell 3
      have x4 := x.cell 4
      have x5 := x.cell 5
      have x6 := x.cell 6
      simp only [List.getElem?_cons_succ, List.getElem?_cons_zero] at x0 x1 x2 x3 x4 x5 x6
      clear x
      have K := Lib.hid (hg.ints hz _ af SL.out oaf (by simp only [List.length_append]; omega))
      clear hg
      go_wp2_with fail
      refine K.out.mono ?_
      rintro e w5 ⟨rfl, hg, hk⟩
      have HKW := Lib.hid (HKW.out.trans hk)
      have HX := Lib.hid (HX.out.keptW hk (by decide) hbxw)
      clear x0 x1 x2 x3 x4 x5 x6
      clear K
      clear hk
      have x := HX.out
      have x0 := x.cell 0
      have x1 := x.cell 1
      have x2 := x.cell 2
      have x3 := x.cell 3
      have x4 := x.cell 4
      have x5 := x.cell 5
      have x6 := x.cell 6
      simp only [List.getElem?_cons_succ, List.getElem?_cons_zero] at x0 x1 x2 x3 x4 x5 x6
      clear x
      have K := Lib.hid (hg.int3 retry time need o1 o2 o3 (by simp only [List.length_append]; omega))
      clear hg
      go_wp2_with fail
      refine K.out.mono ?_
      rintro e w6 ⟨rfl, hg, hk⟩
      have HKW := Lib.hid (HKW.out.trans hk)
      have HX := Lib.hid (HX.out.keptW hk (by decide) hbxw)
      clear x0 x1 x2 x3 x4 x5 x6
      clear K
      clear hk
      have x := HX.out
      have x0 := x.cell 0
      have x1 := x.cell 1
      have x2 := x.cell 2
      have x3 := x.cell 3
      have x4 := x.cell 4
      have x5 := x.cell 5
      have x6 := x.cell 6
      simp only [List.getElem?_cons_succ, List.getElem?_cons_zero] at x0 x1 x2 x3 x4 x5 x6
      clear x
      have K := Lib.hid (hg.label lv set o4 o5 (by simp only [List.length_append]; omega))
      clear hg
      go_wp2_with fail
      refine K.out.mono ?_
      rintro e w7 ⟨rfl, hg, hk⟩
      have HKW := Lib.hid (HKW.out.trans hk)
      have HX := Lib.hid (HX.out.keptW hk (by decide) hbxw)
      clear x0 x1 x2 x3 x4 x5 x6
      clear K
      clear hk
      have HG7 := Lib.hid hg
      clear hg
      go_wp2
      go_roundw
      case rel => exact ⟨k + 1, by go_num, by omega, by rw [HNX.out]; exact HG7.out, HKW.out⟩
      case measure => simp [intOf] <;> omega
    · obtain rfl : k = n := by omega
      have htk : (R.ts.take k).flatMap taskW = A2 := by rw [HA2.out, ← HN.out, List.take_length]
      rw [htk] at hg
      have HG3 := Lib.hid hg
      have HK3 := Lib.hid hkw
      clear hg hkw htk hlt
      obtain ⟨d0, d1, d2, d3⟩ := (HR.out wr _ HG3.out).head
      unfold tvOf at d1
      go_wp2
      generalize hm : R.ps.length = m at *
      have HM := Lib.hid hm
      have hm1 : m ≤ 1000 := by omega
      clear hm hlnn
      go_loopw [7, 70] (fun _ s wr => ∃ i : Nat, s = .int .i64 i ∧ i ≤ m ∧ WrG Rw wb (l ++ A0 ++ A1 ++ A2 ++ (R.ps.take i).flatMap partW) w0 wr ∧ KeptW Rw wb w wr) (fun _ s _ => m - (intOf s).toNat)
      case atStart => exact ⟨0, by go_num, by omega, by simpa using HG3.out, HK3.out⟩
      case round =>
        obtain ⟨i, rfl, hi, hg, hkw⟩ := hrel
        by_cases hlt : i < m
        · have hk1 := hi
          have hkt : i < R.ps.length := by have := HM.out; omega
          have hltz : (i : Int) < (m : Int) := by omega
          obtain ⟨d0, d1, d2, d3⟩ := (HR.out wr _ hg).head
          obtain ⟨t0, t1, t2, t3, t4, t5, t6, t7, t8⟩ := (HR.out wr _ hg).cells hkt
          obtain ⟨⟨o1, o2, o3, o4, o5, o6⟩, oal, oaf⟩ := HOP.out i hlt
          have hfk := HFP.out i hlt
          have hlk := HLP.out (i + 1)
          rw [hfk] at hlk
          have SL := Lib.hid (HVS.out i hlt)
          clear d0 d1 d2 d3
          generalize R.ps[i]! = p at *
          obtain ⟨⟨s, si, mi, wkk, ls, ti⟩, ou, vs, yes, no⟩ := p
          dsimp only at t0 t1 t2 t3 t4 t5 t6 t7 t8 oal oaf o1 o2 o3 o4 o5 o6
          have SL := Lib.hid (show SlAt 1 encI w0 vs yes from SL.out)
          obtain ⟨sp, sc, hsl, _⟩ := id SL.out
          subst hsl
          simp only [partW, List.length_append] at hlk
          have htg := textL_ge ou
          obtain ⟨B, hB⟩ : ∃ B, B = l ++ A0 ++ A1 ++ A2 ++ (R.ps.take i).flatMap partW := ⟨_, rfl⟩
          have hBl : B.length = l.length + A0.length + A1.length + A2.length + ((R.ps.take i).flatMap partW).length := by rw [hB]; simp only [List.length_append]
          have HNX := Lib.hid (show l ++ A0 ++ A1 ++ A2 ++ (R.ps.take (i + 1)).flatMap partW = B ++ numsL [s, si, mi, wkk, ls, ti] ++ textL ou.data.toList ++ gateL yes no by rw [hfk, hB]; simp only [partW, List.append_assoc])
          rw [← hB] at hg
          have bb := below1 wr (.cells #[.int .i64 s, .int .i64 si, .int .i64 mi, .int .i64 wkk, .int .i64 ls, .int .i64 ti, .string ou, .slice sp yes.length sc, .bool no] 109)
          have hgA := hg.below bb
          have K := Lib.hid (hgA.tr s si mi wkk ls ti o1 o2 o3 o4 o5 o6 (by omega))
          have HKW := Lib.hid (hkw.trans (hg.kB bb))
          have HX := Lib.hid (BlkIs.alloc wr [.int .i64 s, .int .i64 si, .int .i64 mi, .int .i64 wkk, .int .i64 ls, .int .i64 ti, .string ou, .slice sp yes.length sc, .bool no] 109)
          have hbxw : wr.heap.size ≠ wb := by have := hg.sz; omega
          clear hg hkw hgA bb hfk hB
          go_wp2_with fail
          refine K.out.mono ?_
          rintro e w3 ⟨rfl, hg, hk⟩
          have HKW := Lib.hid (HKW.out.trans hk)
          have HX := Lib.hid (HX.out.keptW hk (by decide) hbxw)
          clear t0 t1 t2 t3 t4 t5 t6 t7 t8 hk K
          generalize wr.heap.size = bx at *
          have x := HX.out
          have x0 := x.cell 0
          have x1 := x.cell 1
          have x2 := x.cell 2
          have x3 := x.cell 3
          have x4 := x.cell 4
          have x5 := x.cell 5
          have x6 := x.cell 6
          have x7 := x.cell 7
          have x8 := x.cell 8
          simp only [List.getElem?_cons_succ, List.getElem?_cons_zero] at x0 x1 x2 x3 x4 x5 x6 x7 x8
          clear x
          have K := Lib.hid (hg.text ou (by simp only [List.length_append]; omega))
          clear hg
          go_wp2_with fail
          refine K.out.mono ?_
          rintro e w4 ⟨rfl, hg, hk⟩
          have HKW := Lib.hid (HKW.out.trans hk)
          have HX := Lib.hid (HX.out.keptW hk (by decide) hbxw)
          clear x0 x1 x2 x3 x4 x5 x6 x7 x8
          clear K
          clear hk
          have x := HX.out
          have x0 := x.cell 0
          have x1 := x.cell 1
          have x2 := x.cell 2
          have x3 := x.cell 3
          have x4 := x.cell 4
          have x5 := x.cell 5
          have x6 := x.cell 6
          have x7 := x.cell 7
          have x8 := x.cell 8
          simp only [List.getElem?_cons_succ, List.getElem?_cons_zero] at x0 x1 x2 x3 x4 x5 x6 x7 x8
          clear x
          have K := Lib.hid (hg.gate hz _ no yes SL.out oaf (by simp only [List.length_append]; omega))
          clear hg
          go_wp2_with fail
          refine K.out.mono ?_
          rintro e w5 ⟨rfl, hg, hk⟩
          have HKW := Lib.hid (HKW.out.trans hk)
          have HX := Lib.hid (HX.out.keptW hk (by decide) hbxw)
          clear x0 x1 x2 x3 x4 x5 x6 x7 x8
          clear K
          clear hk
          have HG7 := Lib.hid hg
          clear hg
          go_wp2
          go_roundw
          case rel => exact ⟨i + 1, by go_num, by omega, by rw [HNX.out]; exact HG7.out, HKW.out⟩
          case measure => simp [intOf] <;> omega
        · have hk1 := hi
          obtain rfl : i = m := by omega
          have htk : (R.ps.take i).flatMap partW = A3 := by rw [HA3.out, ← HM.out, List.take_length]
          rw [htk] at hg
          have HG4 := Lib.hid hg
          have HK4 := Lib.hid hkw
          clear hg hkw htk hlt
          obtain ⟨d0, d1, d2, d3⟩ := (HR.out wr _ HG4.out).head
          have hfo : okI (fl01 R.over) := by cases R.over <;> exact ⟨by decide, by decide⟩
          have hlo : (l ++ A0 ++ A1 ++ A2 ++ A3).length + 22 ≤ 140737488355328 := by simp only [List.length_append]; omega
          have K := Lib.hid (HG4.out.int1 (fl01 R.over) hfo hlo)
          have hfin : l ++ A0 ++ A1 ++ A2 ++ A3 ++ numL (fl01 R.over) = l ++ (A0 ++ (A1 ++ (A2 ++ (A3 ++ numL (fl01 R.over))))) := by simp only [List.append_assoc]
          rw [hfin] at K
          have HBT := Lib.hid (bitC R.over wr)
          clear hfo hlo hfin d1 d2
          generalize R.over = ov at *
          go_wp2_with fail
          refine HBT.out.mono ?_
          rintro e w5 ⟨rfl, rfl⟩
          go_wp2_with fail
          refine K.out.mono ?_
          rintro e w6 ⟨rfl, hg, hk⟩
          go_wp2
          go_end0
          exact HGOAL.out _ hg (HK4.out.trans hk)
end Go.Proofs.YtbbcicengfmhiaaGreatDoor

namespace Go.Proofs.YtbbcicengfmhiaaGreatDoor
set_option maxRecDepth 100000
open Go.RowKit

theorem WrG.fresh {w : World} (hM : Met w) : WrG (w.heap.size + 1) w.heap.size [] w (w.alloc (.cells #[.pointer none, .slice none 0 0] 117)) := by
  have hb := below1 w (.cells #[.pointer none, .slice none 0 0] 117)
  have hx := BlkIs.alloc w [.pointer none, .slice none 0 0] 117
  refine ⟨⟨_, WrAt.fresh (w.heap.size + 1) (Nat.lt_succ_self _) (by simp) hx⟩, ⟨fun B hB => hb.mono hB, fun q h1 h2 => hb.block q ?_, hb.size⟩, hM.below hb, hM.size⟩
  rcases h1 with h1 | h1
  · omega
  · exact h1.lt
theorem textNil (w : World) : Calls Tryz.prog 15 #[.pointer none] w fun e w' => e = .returned (.string ⟨#[]⟩) ∧ Below w.heap.size w w' := by
  have HB := Lib.hid (below1 w (.cells #[.pointer none, .slice none 0 0] 117))
  have K := Lib.hid (writerString0 w.heap.size _ (BlkIs.alloc w [.pointer none, .slice none 0 0] 117))
  have K0 := Lib.hid (runWriteNil (.pointer (some ⟨w.heap.size, 0, none⟩)) (w.alloc (.cells #[.pointer none, .slice none 0 0] 117)))
  go_enter Tryz.func15, Tryz.ntmps15
  go_wp2_with fail
  generalize w.alloc (.cells #[.pointer none, .slice none 0 0] 117) = W1 at *
  refine K0.out.mono ?_
  rintro e w1 ⟨rfl, rfl⟩
  go_wp2_with fail
  refine K.out.mono ?_
  rintro e w2 ⟨rfl, hb⟩
  have HB2 := Lib.hid (HB.out.trans (hb.mono HB.out.size))
  clear hb
  go_wp2
  go_ret
  exact ⟨rfl, HB2.out⟩
theorem runW_ne (R : RunM) : runW R ≠ [] := by
  intro h
  have := congrArg List.length h
  simp only [runW, textL, numL, List.length_append, List.length_nil, List.length_cons] at this
  omega
set_option maxHeartbeats 2000000 in
theorem textC (b g tb tf tc c : Nat) (J : List Value) (R : RunM) (w : World) (h : RAt b g (tvOf tb tf tc R) c J R w) (hM : Met w) (hok : okW R) (hlen : (runW R).length + 100000 ≤ 140737488355328) :
    Calls Tryz.prog 15 #[.pointer (some ⟨b, 0, none⟩)] w fun e w' => e = .returned (.string ⟨(runW R).toArray⟩) ∧ Below w.heap.size w w' := by
  have HB := Lib.hid (below1 w (.cells #[.pointer none, .slice none 0 0] 117))
  have K0 := runWrite b g tb tf tc c J R w.heap.size (w.heap.size + 1) [] w _ h (WrG.fresh hM) (Nat.le_refl _) hok (by simpa using hlen)
  rw [List.nil_append] at K0
  have K0 := Lib.hid K0
  have hne := runW_ne R
  clear h hM hok hlen
  generalize runW R = t at *
  go_enter Tryz.func15, Tryz.ntmps15
  go_wp2_with fail
  generalize w.alloc (.cells #[.pointer none, .slice none 0 0] 117) = W1 at *
  refine K0.out.mono ?_
  rintro e w1 ⟨rfl, hg, hk⟩
  have HG := Lib.hid hg
  obtain ⟨T, hT⟩ := hg.wr
  have K := Lib.hid (writerString _ _ _ _ _ hT hne)
  clear hg hT hne hk
  go_wp2_with fail
  refine K.out.mono ?_
  rintro e w2 ⟨rfl, hk⟩
  have HB2 := Lib.hid ((HG.out.kept.1 w.heap.size (Nat.le_refl _)).trans (hk.1.mono (by omega)))
  clear hk
  go_wp2
  go_ret
  exact ⟨rfl, HB2.out⟩
end Go.Proofs.YtbbcicengfmhiaaGreatDoor

/- The library's search over ints by what is asked of its members alone; run.advance. Conditions: what a task comes behind is there. run.advance. Conditions: what a task comes behind is there. run.Miss, Beat, Take, Cancel; of none. Conditions: the numbers stay small. run.Take, Cancel; of none. Conditions: the numbers stay small. run.Cancel, Complete; of none. Conditions: what a task comes behind is there. -/
import Derived.Test.YtbbcicengfmhiaaGreatDoorM5
import Derived.Test.YtbbcicengfmhiaaGreatDoorDfs
import Derived.Deep.RegionHeld3
import Derived.Laws.EntriesVeiled
import Derived.Test.YtbbcicengfmhiaaGreatDoorTk
namespace Go.Proofs.YtbbcicengfmhiaaGreatDoor
set_option maxRecDepth 100000
open Go.RowKit

def PredM (P : Program) (g : Nat) (lb : Array Value) (p : Int → Bool) (xs : List Int) (w : World) : Prop :=
  ∀ (W : World) (j : Nat), j < xs.length → Below w.heap.size w W → Calls P g (#[.int .i64 xs[j]!] ++ lb) W fun e w' => e = .returned (.bool (p xs[j]!)) ∧ Below w.heap.size w w'
theorem idxFuncM (p : Int → Bool) (g : Nat) (lb : Array Value) (eg : ∀ args w, (callFunc g args).run Tryz.prog w = .ok (.enter g args) w) (v : Value) (xs : List Int) (w : World)
    (hS : SlAt 1 encI w v xs) (hbig : xs.length ≤ 9223372036854775807) (hp : PredM Tryz.prog g lb p xs w) :
    Calls Tryz.prog 106 #[v, .func (.func g) #[] lb] w fun e w' => e = .returned (.int .i64 (idxI p xs)) ∧ Below w.heap.size w w' := by
  obtain ⟨pp, c, rfl, hn, hcell⟩ := hS
  have HC := Lib.hid hcell
  have HP := Lib.hid hp
  clear hn hcell hp
  generalize hlen : xs.length = n at hbig
  have HL := Lib.hid hlen
  clear hlen
  go_enter Tryz.func106, Tryz.ntmps106
  go_wp2
  go_loopw [5, 8] (fun _ i wr => ∃ j : Nat, j ≤ n ∧ i = .int .i64 j ∧ Below w.heap.size w wr ∧ ∀ k, k < j → p xs[k]! = false) (fun _ i _ => n - (intOf i).toNat)
  case atStart => exact ⟨0, by omega, rfl, Below.refl _ _, fun k hk => absurd hk (by omega)⟩
  case round =>
    obtain ⟨j, hj, rfl, hB, hall⟩ := hrel
    have HB := Lib.hid hB
    have HA := Lib.hid hall
    clear hB hall
    by_cases hlt : j < n
    · have hltz : (j : Int) < (n : Int) := by omega
      obtain ⟨b, off, rfl, hb, hc⟩ := HC.out (by have := HL.out; omega)
      have hc0 : wr.cell? ⟨b, off + j, none⟩ = some (.int .i64 xs[j]!) := (HB.out.cell (p := ⟨b, off + j, none⟩) hb).trans (by have := hc j (by have := HL.out; omega) 0 _ rfl; simpa using this)
      clear hc
      have hcall := HP.out wr j (by have := HL.out; omega) HB.out
      cases hq : p xs[j]!
      · rw [hq] at hcall
        have HQ := Lib.hid hq
        clear hq
        generalize xs[j]! = x at hc0 hcall
        go_wp2_with (go_at_fn g; refine hcall.mono ?_; rintro e w' ⟨rfl, hb'⟩)
        go_roundw
        case rel => exact ⟨j + 1, by omega, by go_num, hb', fun k hk => by by_cases e : k = j; (subst e; exact HQ.out); exact HA.out k (by omega)⟩
        case measure => simp [intOf] <;> omega
      · rw [hq] at hcall
        have HQ := Lib.hid hq
        clear hq
        have hres := idxI_hit (by have := HL.out; omega) HQ.out HA.out
        generalize xs[j]! = x at hc0 hcall
        go_wp2_with (go_at_fn g; refine hcall.mono ?_; rintro e w' ⟨rfl, hb'⟩)
        go_ret
        exact ⟨by rw [hres]; rfl, hb'⟩
    · obtain rfl : j = n := by omega
      have hres := idxI_miss (p := p) (xs := xs) (by have := HL.out; have := HA.out; subst j; exact HA.out)
      go_wp2
      go_ret
      exact ⟨by rw [hres]; rfl, HB.out⟩
theorem anyFuncM (p : Int → Bool) (g : Nat) (lb : Array Value) (eg : ∀ args w, (callFunc g args).run Tryz.prog w = .ok (.enter g args) w) (v : Value) (xs : List Int) (w : World)
    (hS : SlAt 1 encI w v xs) (hbig : xs.length ≤ 9223372036854775807) (hp : PredM Tryz.prog g lb p xs w) :
    Calls Tryz.prog 101 #[v, .func (.func g) #[] lb] w fun e w' => e = .returned (.bool (xs.any p)) ∧ Below w.heap.size w w' := by
  have hc := idxFuncM p g lb eg v xs w hS hbig hp
  rw [← idxI_any]
  generalize idxI p xs = r at hc ⊢
  go_enter Tryz.func101, Tryz.ntmps101
  go_wp2_with (go_at_call 106; refine hc.mono ?_; rintro e w' ⟨rfl, hb'⟩)
  go_ret
  exact ⟨rfl, hb'⟩
/-- is it done -/
def doneB (ps : List PartV) (a : Int) : Bool := ps[a.toNat]!.try_.st == 3
theorem advPred (b g : Nat) (tv : Value) (c : Nat) (J : List Value) (R : RunM) (bx : Nat) (xs : List Int) (w : World) (h : RAt b g tv c J R w) (hx : w.cell? ⟨bx, 0, none⟩ = some (.pointer (some ⟨b, 0, none⟩))) (hz : bx < w.heap.size) (hin : ∀ j, j < xs.length → 0 ≤ xs[j]! ∧ xs[j]! < R.ps.length) :
    PredM Tryz.prog 102 #[.pointer (some ⟨bx, 0, none⟩)] (fun a => !doneB R.ps a) xs w := by
  intro W j hj hb
  obtain ⟨h0, h1⟩ := hin j hj
  obtain ⟨k, hk⟩ := Int.eq_ofNat_of_zero_le h0
  have K := runDone b g tv c J R k W (h.below hb) (by omega)
  have hx2 := (hb.cell (p := ⟨bx, 0, none⟩) hz).trans hx
  have hd : doneB R.ps xs[j]! = (R.ps[k]!.try_.st == 3) := by unfold doneB; rw [hk]; rfl
  show Calls Tryz.prog 102 #[.int .i64 xs[j]!, .pointer (some ⟨bx, 0, none⟩)] W fun e w' => e = .returned (.bool (!doneB R.ps xs[j]!)) ∧ Below w.heap.size w w'
  rw [hd, hk]
  have K := Lib.hid K
  have HB := Lib.hid hb
  clear h hx h0 h1 hd hk hin hb
  generalize (R.ps[k]!.try_.st == 3) = d at *
  go_enter Tryz.func102, Tryz.ntmps102
  go_wp2_with fail
  refine K.out.mono ?_
  rintro e w1 ⟨rfl, rfl⟩
  go_wp2
  go_ret
  exact ⟨rfl, HB.out⟩
theorem eg102 : ∀ args w, (callFunc 102 args).run Tryz.prog w = .ok (.enter 102 args) w := enters_of Tryz.func102 (by kernel_rfl) rfl
/-- what the first k rounds of advance open -/
def advP (ts : List TaskV) (now : Int) : Nat → List PartV → List PartV
  | 0, ps => ps
  | k + 1, ps => let qs := advP ts now k ps; if (ts[k]!.after.any fun a => !doneB qs a) = true then qs else qs.set k { qs[k]! with try_ := openT qs[k]!.try_ now }
theorem advP_len (ts : List TaskV) (now : Int) (ps : List PartV) : ∀ k, (advP ts now k ps).length = ps.length
  | 0 => rfl
  | k + 1 => by
    have := advP_len ts now ps k
    unfold advP
    dsimp only
    split
    · exact this
    · simpa using this
def advanceM (R : RunM) (now : Int) : RunM := { R with ps := advP R.ts now R.ps.length R.ps }
end Go.Proofs.YtbbcicengfmhiaaGreatDoor

namespace Go.Proofs.YtbbcicengfmhiaaGreatDoor
set_option maxRecDepth 100000
open Go.RowKit

theorem keptB_of {b : Nat} {w w' : World} (hb : b < w.heap.size) (h : Below w.heap.size w w') : KeptB b w w' := KeptB.of hb h
theorem keptB_G {g : Nat} {w w' : World} (h : KeptG g w w') : KeptB g w w' := ⟨h.1, fun q _ hne => h.2.1 q hne, by rw [h.2.2]; exact Nat.le_refl _⟩
theorem KeptB.cellO {b : Nat} {w w' : World} (h : KeptB b w w') {q o : Nat} (hq : q < w.heap.size) (hne : q ≠ b) : w'.cell? ⟨q, o, none⟩ = w.cell? ⟨q, o, none⟩ := World.cell?_of_block (w := w) (a := ⟨q, o, none⟩) (h.2.1 q hq hne)
/-- the try of a part turned -/
theorem RunAt.setTry {TR TP : TypeId} {b g : Nat} {tv : Value} {c : Nat} {J : List Value} {R : RunM} {w : World} (h : RunAt TR TP b g tv c J R w) {j : Nat} (hj : j < R.ps.length) (t : TryV) :
    RunAt TR TP b g tv c J { R with ps := R.ps.set j { R.ps[j]! with try_ := t } } (w.setCells g (j * 9) (encTry t)) :=
  h.set hj { R.ps[j]! with try_ := t } 0 (encTry t) (fun M => by
    generalize R.ps[j]! = p
    obtain ⟨⟨a1, a2, a3, a4, a5, a6⟩, o, vs, ys, no⟩ := p
    rfl) (h.votes j hj).1 (h.votes j hj).2
theorem cellsF {b : Nat} (g k : Nat) {tv : Value} {c : Nat} {J : List Value} {R : RunM} {w : World} (h : RAt b g tv c J R w) (hk : k < R.ps.length) (X : World) (hb : Below w.heap.size w X) :
    (∃ v, X.cell? ⟨g, k * 9, none⟩ = some v) ∧ (∃ v, X.cell? ⟨g, k * 9 + 1, none⟩ = some v) ∧ (∃ v, X.cell? ⟨g, k * 9 + 2, none⟩ = some v) ∧ (∃ v, X.cell? ⟨g, k * 9 + 3, none⟩ = some v) ∧ (∃ v, X.cell? ⟨g, k * 9 + 4, none⟩ = some v) ∧ (∃ v, X.cell? ⟨g, k * 9 + 5, none⟩ = some v) ∧
    X.frozen? ⟨g, k * 9, none⟩ = false ∧ X.frozen? ⟨g, k * 9 + 1, none⟩ = false ∧ X.frozen? ⟨g, k * 9 + 2, none⟩ = false ∧ X.frozen? ⟨g, k * 9 + 3, none⟩ = false ∧ X.frozen? ⟨g, k * 9 + 4, none⟩ = false ∧ X.frozen? ⟨g, k * 9 + 5, none⟩ = false := by
  have h2 := h.below hb
  obtain ⟨m0, m1, m2, m3, m4, m5, _, _, _⟩ := h2.cells hk
  have fr := fun o => BlkIs.frozen h2.row o
  exact ⟨⟨_, m0⟩, ⟨_, m1⟩, ⟨_, m2⟩, ⟨_, m3⟩, ⟨_, m4⟩, ⟨_, m5⟩, fr _, fr _, fr _, fr _, fr _, fr _⟩
theorem heldS {bx b g n c : Nat} {w : World} (h1 : w.cell? ⟨bx, 0, none⟩ = some (.pointer (some ⟨b, 0, none⟩))) (h2 : w.cell? ⟨b, 2, none⟩ = some (.slice (some ⟨g, 0, none⟩) n c)) (z1 : bx < w.heap.size) (z2 : b < w.heap.size) (n1 : bx ≠ g) (n2 : b ≠ g) (X : World) (hb : Below w.heap.size w X) :
    (X.cell? ⟨bx, 0, none⟩ = some (.pointer (some ⟨b, 0, none⟩)) ∧ X.cell? ⟨b, 2, none⟩ = some (.slice (some ⟨g, 0, none⟩) n c)) ∧ ∀ o vs, (X.setCells g o vs).cell? ⟨bx, 0, none⟩ = some (.pointer (some ⟨b, 0, none⟩)) ∧ (X.setCells g o vs).cell? ⟨b, 2, none⟩ = some (.slice (some ⟨g, 0, none⟩) n c) := by
  have a1 := (hb.cell (p := ⟨bx, 0, none⟩) z1).trans h1
  have a2 := (hb.cell (p := ⟨b, 2, none⟩) z2).trans h2
  exact ⟨⟨a1, a2⟩, fun o vs => ⟨((KeptG.sets g o X vs).cell n1).trans a1, ((KeptG.sets g o X vs).cell n2).trans a2⟩⟩
set_option maxHeartbeats 8000000 in
theorem runAdvance (b g tb tf tc c : Nat) (J : List Value) (R : RunM) (now : Int) (w : World) (h : RAt b g (tvOf tb tf tc R) c J R w) (hn : R.ps.length ≤ 1000) (haf : AftIn R.ts) (hla : ∀ j, j < R.ts.length → R.ts[j]!.after.length ≤ maxLen) :
    Calls Tryz.prog 56 #[.pointer (some ⟨b, 0, none⟩), .int .i64 now] w fun e w' => e = .returned (.tuple #[]) ∧ RAt b g (tvOf tb tf tc R) c J (advanceM R now) w' ∧ KeptB g w w' := by
  have hx := below1 w (.cells #[.pointer (some ⟨b, 0, none⟩)] 40)
  have hq := (BlkIs.alloc w [.pointer (some ⟨b, 0, none⟩)] 40).cell 0
  simp only [List.getElem?_cons_zero] at hq
  have hgz := h.row.lt
  have hbz := h.blk.lt
  have HR := Lib.hid (h.below hx)
  have HX := Lib.hid (keptB_of hgz hx)
  have hbxz : w.heap.size < (w.alloc (.cells #[.pointer (some ⟨b, 0, none⟩)] 40)).heap.size := by simp
  have HAF := Lib.hid haf
  have HLA := Lib.hid hla
  have HLEN := Lib.hid h.len
  have HNE := Lib.hid h.ne
  obtain ⟨d0, d1, d2, d3⟩ := (h.below hx).head
  unfold tvOf at d1
  clear h hx haf hla
  go_enter Tryz.func56, Tryz.ntmps56
  go_wp2_with fail
  generalize w.alloc (.cells #[.pointer (some ⟨b, 0, none⟩)] 40) = W1 at *
  have hg1 : g < W1.heap.size := by omega
  have hb1 : b < W1.heap.size := by omega
  obtain ⟨bx, hbx⟩ : ∃ bx, bx = w.heap.size := ⟨_, rfl⟩
  rw [← hbx] at hq hbxz ⊢
  have HBX := Lib.hid hbx
  have hbxg : bx ≠ g := by omega
  clear hbx
  go_wp2
  go_loopw [4, 5, 12] (fun _ _ s12 wr => ∃ k : Nat, s12 = .int .i64 k ∧ k ≤ R.ts.length ∧ RAt b g (tvOf tb tf tc R) c J { R with ps := advP R.ts now k R.ps } wr ∧ KeptB g W1 wr) (fun _ _ s12 _ => R.ts.length - (intOf s12).toNat)
  case atStart => exact ⟨0, by go_num, by omega, HR.out, KeptB.refl _ _⟩
  case round =>
    obtain ⟨k, rfl, hk, hR, hK⟩ := hrel
    have HR := Lib.hid hR
    have HK := Lib.hid hK
    have hsz := hK.2.2
    have hbxw := (hK.cellO (o := 0) hbxz hbxg).trans hq
    clear hR hK
    by_cases hlt : k < R.ts.length
    · have hltz : (k : Int) < (R.ts.length : Int) := by omega
      have hkp : k < R.ps.length := by have := HLEN.out; omega
      have ht := (show TasksAt wr (.slice (some ⟨tb, tf, none⟩) R.ts.length tc) R.ts from HR.out.tasks).at hlt
      have htz := ht.1
      obtain ⟨t0, t1, t2, t3, t4, t5, t6⟩ := ht.cells
      have HSL := Lib.hid ht.2.2
      obtain ⟨e0, e1, e2, e3⟩ := HR.out.head
      unfold tvOf at e1
      have HAK := Lib.hid (HAF.out k hlt)
      have HLK := Lib.hid (HLA.out k hlt)
      have HPL := Lib.hid (advP_len R.ts now R.ps k)
      have HST := Lib.hid (show advP R.ts now (k + 1) R.ps = if (R.ts[k]!.after.any fun a => !doneB (advP R.ts now k R.ps) a) = true then advP R.ts now k R.ps else (advP R.ts now k R.ps).set k { (advP R.ts now k R.ps)[k]! with try_ := openT (advP R.ts now k R.ps)[k]!.try_ now } from rfl)
      have HRA := Lib.hid HR.out
      have hlenp : (advP R.ts now k R.ps).length = R.ps.length := HPL.out
      have HTS := Lib.hid (show tvOf tb tf tc R = .slice (some ⟨tb, tf, none⟩) R.ts.length tc from rfl)
      generalize hT : R.ts[k]! = T at *
      obtain ⟨nm, sl, aft, retry, time, need, lv, set⟩ := T
      dsimp only at t0 t1 t2 t3 t4 t5 t6 HSL HAK HLK HST
      obtain ⟨sp, sc, rfl, _⟩ := id HSL.out
      have hbx1 := below1 wr (.cells #[.string nm, .slice sp aft.length sc, .int .i64 retry, .int .i64 time, .int .i64 need, .int .i64 lv, .int .u16 (set : Int)] 100)
      have HR1 := Lib.hid (HRA.out.below hbx1)
      have HK1 := Lib.hid (HK.out.trans (keptB_of (by omega) hbx1))
      have hbw : bx < wr.heap.size := by omega
      have hbr : b < wr.heap.size := by omega
      have hgr : g < wr.heap.size := by omega
      have hzz := Nat.lt_of_lt_of_le hbw hbx1.size
      have hxw := (hbx1.cell (p := ⟨bx, 0, none⟩) hbw).trans hbxw
      have KC := Lib.hid (anyFuncM (fun a => !doneB (advP R.ts now k R.ps) a) 102 #[.pointer (some ⟨bx, 0, none⟩)] eg102 (.slice sp aft.length sc) aft _ (HSL.out.below hbx1) (by unfold maxLen at HLK; exact HLK.out) (advPred b g (tvOf tb tf tc R) c J { R with ps := advP R.ts now k R.ps } bx aft _ HR1.out hxw (Nat.lt_of_lt_of_le hbw hbx1.size) (fun j hj => by have := HAK.out j hj; dsimp only; rw [hlenp]; have := HLEN.out; omega)))
      clear hbx1
      generalize hany : (aft.any fun a => !doneB (advP R.ts now k R.ps) a) = an at *
      clear hany
      go_wp2_with fail
      refine KC.out.mono ?_
      rintro e w2 ⟨rfl, hb2⟩
      have HR2 := Lib.hid (HR1.out.below hb2)
      have HK2 := Lib.hid (HK1.out.trans (keptB_of (by have := HR1.out.row.lt; exact this) hb2))
      have hx2 := (hb2.cell (p := ⟨bx, 0, none⟩) hzz).trans hxw
      have hsz2 := HK2.out.2.2
      clear hb2 KC
      cases an with
      | true =>
        have HST2 := Lib.hid (HST.out.trans (if_pos rfl))
        go_wp2
        go_roundw
        case rel => exact ⟨k + 1, by go_num, by omega, by rw [HST2.out]; exact HR2.out, HK2.out⟩
        case measure => simp [intOf] <;> omega
      | false =>
        have HST2 := Lib.hid (HST.out.trans (if_neg (by decide)))
        obtain ⟨b0, b1, b2, b3⟩ := HR2.out.head
        obtain ⟨c0, c1, c2, c3, c4, c5, c6, c7, c8⟩ := HR2.out.cells (j := k) (by dsimp only; omega)
        dsimp only at b2 c0 c1 c2 c3 c4 c5 c6 c7 c8
        rw [hlenp] at b2
        have KO := Lib.hid (fun W => leaseOpen (advP R.ts now k R.ps)[k]!.try_ now W)
        have HNXT := Lib.hid (fun (w3 : World) (h3 : RAt b g (tvOf tb tf tc R) c J { R with ps := advP R.ts now k R.ps } w3) => h3.setTry (j := k) (by dsimp only; omega) (openT (advP R.ts now k R.ps)[k]!.try_ now))
        dsimp only at HNXT
        rw [← HST2.out] at HNXT
        obtain ⟨NX, hNX⟩ : ∃ NX, advP R.ts now (k + 1) R.ps = NX := ⟨_, rfl⟩
        have HNXE := Lib.hid hNX
        rw [hNX] at HNXT
        clear hNX
        generalize openT (advP R.ts now k R.ps)[k]!.try_ now = nt at *
        generalize (advP R.ts now k R.ps)[k]! = pk at *
        obtain ⟨⟨s, si, mi, wkk, ls, ti⟩, out, vs, yes, no⟩ := pk
        obtain ⟨n0, n1, n2, n3, n4, n5⟩ := nt
        have HKC := Lib.hid (show k < ({ R with ps := advP R.ts now k R.ps } : RunM).ps.length by dsimp only; omega)
        have hkz : (k : Int) < (R.ps.length : Int) := by omega
        have hk0 : (0 : Int) ≤ (k : Int) := by omega
        have hnbg : b ≠ g := HNE.out
        have fr := fun o => BlkIs.frozen HR2.out.row o
        obtain ⟨f0, f1, f2, f3, f4, f5⟩ : w2.frozen? ⟨g, k * 9, none⟩ = false ∧ w2.frozen? ⟨g, k * 9 + 1, none⟩ = false ∧ w2.frozen? ⟨g, k * 9 + 2, none⟩ = false ∧ w2.frozen? ⟨g, k * 9 + 3, none⟩ = false ∧ w2.frozen? ⟨g, k * 9 + 4, none⟩ = false ∧ w2.frozen? ⟨g, k * 9 + 5, none⟩ = false := ⟨fr _, fr _, fr _, fr _, fr _, fr _⟩
        clear fr
        have hbz2 : b < w2.heap.size := HR2.out.blk.lt
        have hgz2 : g < w2.heap.size := HR2.out.row.lt
        have hxz2 : bx < w2.heap.size := by omega
        have HX2D := Lib.hid (show w2.drew.cell? ⟨bx, 0, none⟩ = some (.pointer (some ⟨b, 0, none⟩)) from hx2)
        have HB2D := Lib.hid (show w2.drew.cell? ⟨b, 2, none⟩ = some (.slice (some ⟨g, 0, none⟩) R.ps.length c) from b2)
        have HZD := Lib.hid (show bx < w2.drew.heap.size ∧ b < w2.drew.heap.size from ⟨hxz2, hbz2⟩)
        have HCF := Lib.hid (cellsF g k HR2.out HKC.out)
        --REG5
        have HS5 := Lib.hid (fun (X : World) (hb : Below w2.heap.size w2 X) => heldS (bx := bx) (b := b) (g := g) (n := R.ps.length) (c := c) hx2 b2 hxz2 hbz2 hbxg hnbg X hb)
        go_wp2_with fail
        refine wp_region_held_drew (S := (fun X => X.cell? ⟨bx, 0, none⟩ = some (.pointer (some ⟨b, 0, none⟩)) ∧ X.cell? ⟨b, 2, none⟩ = some (.slice (some ⟨g, 0, none⟩) R.ps.length c))) (by kernel_rfl) ⟨HX2D.out, HB2D.out⟩ (fun hHeld => ?_)
        try dsimp only [List.size_toArray, List.length_cons, List.length_nil]
        refine takeL (i := 0) rfl (v := ?vz1) (by kernel_rfl) (by kernel_rfl) (by kernel_rfl) (fun _ _ _ h => h) (Or.inl ⟨by rfl, fun _w _hSw => ?hyz1⟩) (by assumption) ?restz1
        case hyz1 =>
          (try dsimp only at _hSw)
          go_simp
          try with_reducible rfl
        try simp only [Act.put, List.setIfInBounds_toArray, List.set_cons_zero, List.set_cons_succ]
        refine takeL (i := 1) rfl (v := ?vz2) (by kernel_rfl) (by kernel_rfl) (by kernel_rfl) (fun _ _ _ h => h) (Or.inl ⟨by rfl, fun _w _hSw => ?hyz2⟩) (by assumption) ?restz2
        case hyz2 =>
          (try dsimp only at _hSw)
          go_simp
          try with_reducible rfl
        try simp only [Act.put, List.setIfInBounds_toArray, List.set_cons_zero, List.set_cons_succ]
        refine takeL (i := 2) rfl (v := ?vz3) (by kernel_rfl) (by kernel_rfl) (by kernel_rfl) (fun _ _ _ h => h) (Or.inl ⟨by rfl, fun _w _hSw => ?hyz3⟩) (by assumption) ?restz3
        case hyz3 =>
          (try dsimp only at _hSw)
          go_simp
          try with_reducible rfl
        try simp only [Act.put, List.setIfInBounds_toArray, List.set_cons_zero, List.set_cons_succ]
        refine takeL (i := 3) rfl (v := ?vz4) (by kernel_rfl) (by kernel_rfl) (by kernel_rfl) (fun _ _ _ h => h) (Or.inl ⟨by rfl, fun _w _hSw => ?hyz4⟩) (by assumption) ?restz4
        case hyz4 =>
          (try dsimp only at _hSw)
          go_simp
          try with_reducible rfl
        try simp only [Act.put, List.setIfInBounds_toArray, List.set_cons_zero, List.set_cons_succ]
        refine takeL (i := 4) rfl (v := ?vz5) (by kernel_rfl) (by kernel_rfl) (by kernel_rfl) (fun _ _ _ h => h) (Or.inl ⟨by rfl, fun _w _hSw => ?hyz5⟩) (by assumption) ?restz5
        case hyz5 =>
          (try dsimp only at _hSw)
          go_simp
          try with_reducible rfl
        try simp only [Act.put, List.setIfInBounds_toArray, List.set_cons_zero, List.set_cons_succ]
        refine takeL (i := 5) rfl (v := ?vz6) (by kernel_rfl) (by kernel_rfl) (by kernel_rfl) (fun _ _ _ h => h) (Or.inl ⟨by rfl, fun _w _hSw => ?hyz6⟩) (by assumption) ?restz6
        case hyz6 =>
          (try dsimp only at _hSw)
          go_simp
          try with_reducible rfl
        try simp only [Act.put, List.setIfInBounds_toArray, List.set_cons_zero, List.set_cons_succ]
        refine takeL (i := 6) rfl (v := ?vz7) (by kernel_rfl) (by kernel_rfl) (by kernel_rfl) (fun _ _ _ h => h) (Or.inl ⟨by rfl, fun _w _hSw => ?hyz7⟩) (by assumption) ?restz7
        case hyz7 =>
          (try dsimp only at _hSw)
          go_simp
          try with_reducible rfl
        try simp only [Act.put, List.setIfInBounds_toArray, List.set_cons_zero, List.set_cons_succ]
        refine takeL (i := 7) rfl (v := ?vz8) (by kernel_rfl) (by kernel_rfl) (by kernel_rfl) (fun _ _ _ h => h) (Or.inl ⟨by rfl, fun _w _hSw => ?hyz8⟩) (by assumption) ?restz8
        case hyz8 =>
          (try dsimp only at _hSw)
          go_simp
          try with_reducible rfl
        try simp only [Act.put, List.setIfInBounds_toArray, List.set_cons_zero, List.set_cons_succ]
        refine takeL (i := 8) rfl (v := ?vz9) (by kernel_rfl) (by kernel_rfl) (by kernel_rfl) (fun _ _ _ h => h) (Or.inl ⟨by rfl, fun _w _hSw => ?hyz9⟩) (by assumption) ?restz9
        case hyz9 =>
          (try dsimp only at _hSw)
          go_simp
          try with_reducible rfl
        try simp only [Act.put, List.setIfInBounds_toArray, List.set_cons_zero, List.set_cons_succ]
        refine takeL (i := 9) rfl (v := ?vz10) (by kernel_rfl) (by kernel_rfl) (by kernel_rfl) (fun _ _ _ h => h) (Or.inl ⟨by rfl, fun _w _hSw => ?hyz10⟩) (by assumption) ?restz10
        case hyz10 =>
          (try dsimp only at _hSw)
          go_simp
          try with_reducible rfl
        try simp only [Act.put, List.setIfInBounds_toArray, List.set_cons_zero, List.set_cons_succ]
        refine takeL (i := 10) rfl (v := ?vz11) (by kernel_rfl) (by kernel_rfl) (by kernel_rfl) (fun _ _ _ h => h) (Or.inl ⟨by rfl, fun _w _hSw => ?hyz11⟩) (by assumption) ?restz11
        case hyz11 =>
          (try dsimp only at _hSw)
          go_simp
          try with_reducible rfl
        try simp only [Act.put, List.setIfInBounds_toArray, List.set_cons_zero, List.set_cons_succ]
        refine takeL (i := 11) rfl (v := ?vz12) (by kernel_rfl) (by kernel_rfl) (by kernel_rfl) (fun _ _ _ h => h) (Or.inl ⟨by rfl, fun _w _hSw => ?hyz12⟩) (by assumption) ?restz12
        case hyz12 =>
          (try dsimp only at _hSw)
          go_simp
          try with_reducible rfl
        try simp only [Act.put, List.setIfInBounds_toArray, List.set_cons_zero, List.set_cons_succ]
        refine takeL (i := 13) rfl (v := ?vz13) (by kernel_rfl) (by kernel_rfl) (by kernel_rfl) (fun _ _ _ h => h) (Or.inl ⟨by rfl, fun _w _hSw => ?hyz13⟩) (by assumption) ?restz13
        case hyz13 =>
          (try dsimp only at _hSw)
          go_simp
          try with_reducible rfl
        try simp only [Act.put, List.setIfInBounds_toArray, List.set_cons_zero, List.set_cons_succ]
        refine wpAnyH_ready (rs := [12]) (by kernel_rfl) (by simp) (readyL rfl (fun K1 hK => ?_) AllReadyH.nil)
        go_simp
        refine hK.out _ _ ‹_› (fun _ => ?_)
        clear hK K1
        try simp only [Act.put, List.setIfInBounds_toArray, List.set_cons_zero, List.set_cons_succ]
        refine wpAnyH_ready (rs := [14]) (by kernel_rfl) (by simp) (readyL rfl (fun K1 hK => ?_) AllReadyH.nil)
        go_simp
        with_reducible refine (KO.out _).mono ?_
        rintro e w5 ⟨rfl, hb5⟩
        have HB5 := Lib.hid (show Below w2.heap.size w2 w5 from (Below.refl _ _).drew.trans hb5)
        have HN5 := Lib.hid (HNXT.out w5 (HR2.out.below HB5.out))
        have HSW := Lib.hid ((HS5.out w5 HB5.out).2 (k * 9) (encTry ⟨n0, n1, n2, n3, n4, n5⟩))
        obtain ⟨⟨v0, m0⟩, ⟨v1, m1⟩, ⟨v2, m2⟩, ⟨v3, m3⟩, ⟨v4, m4⟩, ⟨v5, m5⟩, q0, q1, q2, q3, q4, q5⟩ := HCF.out w5 HB5.out
        have HKG := Lib.hid ((HK2.out.trans (keptB_of hgz2 HB5.out)).trans (keptB_G (KeptG.sets g (k * 9) w5 (encTry ⟨n0, n1, n2, n3, n4, n5⟩))))
        clear hb5
        try dsimp only
        refine hK.out _ _ (HS5.out w5 HB5.out).1 (fun hHeld => ?_)
        clear hK K1
        try simp only [Act.put, List.setIfInBounds_toArray, List.set_cons_zero, List.set_cons_succ]
        refine takeL (i := 15) rfl (v := ?vz14) (by kernel_rfl) (by kernel_rfl) (by kernel_rfl) (fun _ _ _ h => h) (Or.inl ⟨by rfl, fun _w _hSw => ?hyz14⟩) (by assumption) ?restz14
        case hyz14 =>
          (try dsimp only at _hSw)
          go_simp
          try with_reducible rfl
        try simp only [Act.put, List.setIfInBounds_toArray, List.set_cons_zero, List.set_cons_succ]
        refine takeL (i := 16) rfl (v := ?vz15) (by kernel_rfl) (by kernel_rfl) (by kernel_rfl) (fun _ _ _ h => h) (Or.inl ⟨by rfl, fun _w _hSw => ?hyz15⟩) (by assumption) ?restz15
        case hyz15 =>
          (try dsimp only at _hSw)
          go_simp
          try with_reducible rfl
        try simp only [Act.put, List.setIfInBounds_toArray, List.set_cons_zero, List.set_cons_succ]
        refine wpAnyH_ready (rs := [17]) (by kernel_rfl) (by simp) (readyL rfl (fun K1 hK => ?_) AllReadyH.nil)
        go_simp
        refine hK.out _ _ HSW.out (fun _ => ?_)
        clear hK K1
        try simp only [Act.put, List.setIfInBounds_toArray, List.set_cons_zero, List.set_cons_succ]
        refine wpAnyH_done (by kernel_rfl) ?_ _
        clear m0 m1 m2 m3 m4 m5 q0 q1 q2 q3 q4 q5
        generalize hw6 : w5.setCells g (k * 9) (encTry ⟨n0, n1, n2, n3, n4, n5⟩) = w6 at *
        simp only [World.setCells, encTry] at hw6
        rw [hw6]
        clear hw6
        go_wp2
        go_roundw
        case rel => exact ⟨k + 1, by go_num, by omega, by rw [HNXE.out]; exact HN5.out, HKG.out⟩
        case measure => simp [intOf] <;> omega
    · obtain rfl : k = R.ts.length := by omega
      have HE := Lib.hid (show advanceM R now = { R with ps := advP R.ts now R.ts.length R.ps } by unfold advanceM; rw [HLEN.out])
      go_wp2
      go_end0
      rw [HE.out]
      exact ⟨rfl, HR.out, HX.out.trans HK.out⟩
end Go.Proofs.YtbbcicengfmhiaaGreatDoor

namespace Go.Proofs.YtbbcicengfmhiaaGreatDoor
set_option maxRecDepth 100000
open Go.RowKit

/-- what turns a run: its number, the run behind it, and nothing else but its parts' row -/
def OpPost (b g : Nat) (tv : Value) (c : Nat) (J : List Value) (x : RunM × Int) (w : World) (e : Ending) (w' : World) : Prop :=
  e = .returned (.int .i64 x.2) ∧ RAt b g tv c J x.1 w' ∧ KeptB g w w'
def putT (R : RunM) (k : Nat) (t : TryV) : RunM := { R with ps := R.ps.set k { R.ps[k]! with try_ := t } }
def missM (R : RunM) (i now : Int) : RunM × Int := if stE R i false 2 = 0 then (putT R i.toNat (missT R.ps[i.toNat]!.try_ now R.ts[i.toNat]!.retry), 0) else (R, stE R i false 2)
def beatM (R : RunM) (i now : Int) : RunM × Int := if stE R i false 2 = 0 then (putT R i.toNat (beatT R.ps[i.toNat]!.try_ now R.ts[i.toNat]!.time), 0) else (R, stE R i false 2)
theorem stE_in {R : RunM} {i want : Int} {gate : Bool} (h : stE R i gate want = 0) : ∃ k : Nat, i = k ∧ k < R.ps.length ∧ decide (0 < R.ts[k]!.need) = gate ∧ statusM R = 0 ∧ findE R i gate = 0 ∧ R.ps[k]!.try_.st = want := by
  have hf : findE R i gate = 0 := by
    unfold stE at h
    rcases Decidable.em (findE R i gate = 0) with h1 | h1
    · exact h1
    · rw [if_neg h1] at h; exact absurd h h1
  obtain ⟨k, rfl, hk, h2, h3⟩ := findE_in hf
  refine ⟨k, rfl, hk, h2, h3, hf, ?_⟩
  unfold stE at h
  rw [if_pos hf, Int.toNat_natCast] at h
  rcases Decidable.em (R.ps[k]!.try_.st = want) with h1 | h1
  · exact h1
  · rw [if_neg h1] at h; cases h
/-- the row's cells and a task's behind a call -/
theorem taskF {b g tb tf tc c : Nat} {J : List Value} {R : RunM} {w : World} (h : RAt b g (tvOf tb tf tc R) c J R w) {k : Nat} (hk : k < R.ps.length) : TaskAt w tb (tf + k * 7) R.ts[k]! :=
  (show TasksAt w (.slice (some ⟨tb, tf, none⟩) R.ts.length tc) R.ts from h.tasks).at (by rw [h.len]; exact hk)
theorem task_ne {b g tb tf tc c : Nat} {J : List Value} {R : RunM} {w : World} (h : RAt b g (tvOf tb tf tc R) c J R w) : tb ≠ g ∧ tb ≠ b := by
  have h1 := h.apT
  unfold Apart tvOf at h1
  simp only [Value.ownBlock] at h1
  exact ⟨fun e => h1.2 (by rw [e]), fun e => h1.1 (by rw [e])⟩
theorem taskS {tb o g : Nat} {v : Value} {w : World} (h : w.cell? ⟨tb, o, none⟩ = some v) (z : tb < w.heap.size) (n : tb ≠ g) (X : World) (hb : Below w.heap.size w X) : X.cell? ⟨tb, o, none⟩ = some v ∧ ∀ oo vs, (X.setCells g oo vs).cell? ⟨tb, o, none⟩ = some v := by
  have a := (hb.cell (p := ⟨tb, o, none⟩) z).trans h
  exact ⟨a, fun oo vs => ((KeptG.sets g oo X vs).cell n).trans a⟩
theorem runMissNil (i now : Int) (w : World) : Calls Tryz.prog 24 #[.pointer none, .int .i64 i, .int .i64 now] w fun e w' => e = .returned (.int .i64 8) ∧ w = w' := by
  go_enter Tryz.func24, Tryz.ntmps24
  go_wp2_with fail
  refine (runHeldNil i w).mono ?_
  rintro e w1 ⟨rfl, rfl⟩
  go_wp2
  go_ret
  exact ⟨rfl, rfl⟩
set_option maxHeartbeats 4000000 in
theorem runMiss (b g tb tf tc c : Nat) (J : List Value) (R : RunM) (i now : Int) (w : World) (h : RAt b g (tvOf tb tf tc R) c J R w) (hn : R.ps.length ≤ 1000) (hmi : ∀ j, j < R.ps.length → smallI R.ps[j]!.try_.missed) (hnow : smallI now) :
    Calls Tryz.prog 24 #[.pointer (some ⟨b, 0, none⟩), .int .i64 i, .int .i64 now] w (OpPost b g (tvOf tb tf tc R) c J (missM R i now) w) := by
  have KH := Lib.hid (runHeld b g tb tf tc c J R i w h hn)
  have HR := Lib.hid h
  have hgz := h.row.lt
  by_cases he : stE R i false 2 = 0
  · obtain ⟨k, rfl, hk, -, -, hf, -⟩ := stE_in he
    have HMD := Lib.hid (show missM R (k : Int) now = (putT R k (missT R.ps[k]!.try_ now R.ts[k]!.retry), 0) by unfold missM; rw [if_pos he, Int.toNat_natCast])
    rw [he, hf] at KH
    clear h he hf
    have HFIN := Lib.hid (fun (w' : World) (h1 : RAt b g (tvOf tb tf tc R) c J (putT R k (missT R.ps[k]!.try_ now R.ts[k]!.retry)) w') (h2 : KeptB g w w') => (show OpPost b g (tvOf tb tf tc R) c J (missM R (k : Int) now) w (.returned (.int .i64 0)) w' from by rw [HMD.out]; exact ⟨rfl, h1, h2⟩))
    go_enter Tryz.func24, Tryz.ntmps24
    go_wp2_with fail
    refine KH.out.mono ?_
    rintro e w1 hp
    unfold HeldPost at hp
    rw [if_pos rfl, if_pos rfl, Int.toNat_natCast] at hp
    obtain ⟨rfl, hb⟩ := hp
    have HR1 := Lib.hid (HR.out.below hb)
    have HK1 := Lib.hid (keptB_of hgz hb)
    clear hb
    obtain ⟨c0, c1, c2, c3, c4, c5, _, _, _⟩ := HR1.out.cells hk
    have ht := taskF HR1.out hk
    have htz := ht.1
    have tc2 := ht.cells.2.2.1
    have hnt := (task_ne HR1.out).1
    have KL := Lib.hid (fun W => leaseMiss R.ps[k]!.try_ now R.ts[k]!.retry W (hmi k hk) hnow)
    have HNXT := Lib.hid (fun (X : World) (hb : Below w1.heap.size w1 X) => (HR1.out.below hb).setTry hk (missT R.ps[k]!.try_ now R.ts[k]!.retry))
    have HCF := Lib.hid (cellsF g k HR1.out hk)
    generalize hnt0 : missT R.ps[k]!.try_ now R.ts[k]!.retry = nt at *
    clear hnt0
    generalize R.ts[k]!.retry = fl at *
    have HTS := Lib.hid (taskS (g := g) tc2 htz hnt)
    have HRP := Lib.hid (show RAt b g (tvOf tb tf tc R) c J R w1 from HR1.out)
    generalize R.ps[k]!.try_ = pt at *
    obtain ⟨s, si, mi, wkk, ls, ti⟩ := pt
    obtain ⟨n0, n1, n2, n3, n4, n5⟩ := nt
    have HGZ1 := Lib.hid (show g < w1.heap.size from HR1.out.row.lt)
    clear ht
    go_wp2_with fail
    refine wp_region_held_drew (S := (fun X => X.cell? ⟨tb, tf + k * 7 + 2, none⟩ = some (.int .i64 fl))) (by kernel_rfl) (show w1.drew.cell? ⟨tb, tf + k * 7 + 2, none⟩ = some (.int .i64 fl) from tc2) (fun hHeld => ?_)
    try dsimp only [List.size_toArray, List.length_cons, List.length_nil]
    refine takeL (i := 0) rfl (v := ?vz1) (by kernel_rfl) (by kernel_rfl) (by kernel_rfl) (fun _ _ _ h => h) (Or.inl ⟨by rfl, fun _w _hSw => ?hyz1⟩) (by assumption) ?restz1
    case hyz1 =>
      (try dsimp only at _hSw)
      go_simp
      try with_reducible rfl
    try simp only [Act.put, List.setIfInBounds_toArray, List.set_cons_zero, List.set_cons_succ]
    refine takeL (i := 1) rfl (v := ?vz2) (by kernel_rfl) (by kernel_rfl) (by kernel_rfl) (fun _ _ _ h => h) (Or.inl ⟨by rfl, fun _w _hSw => ?hyz2⟩) (by assumption) ?restz2
    case hyz2 =>
      (try dsimp only at _hSw)
      go_simp
      try with_reducible rfl
    try simp only [Act.put, List.setIfInBounds_toArray, List.set_cons_zero, List.set_cons_succ]
    refine takeL (i := 2) rfl (v := ?vz3) (by kernel_rfl) (by kernel_rfl) (by kernel_rfl) (fun _ _ _ h => h) (Or.inl ⟨by rfl, fun _w _hSw => ?hyz3⟩) (by assumption) ?restz3
    case hyz3 =>
      (try dsimp only at _hSw)
      go_simp
      try with_reducible rfl
    try simp only [Act.put, List.setIfInBounds_toArray, List.set_cons_zero, List.set_cons_succ]
    refine takeL (i := 3) rfl (v := ?vz4) (by kernel_rfl) (by kernel_rfl) (by kernel_rfl) (fun _ _ _ h => h) (Or.inl ⟨by rfl, fun _w _hSw => ?hyz4⟩) (by assumption) ?restz4
    case hyz4 =>
      (try dsimp only at _hSw)
      go_simp
      try with_reducible rfl
    try simp only [Act.put, List.setIfInBounds_toArray, List.set_cons_zero, List.set_cons_succ]
    refine takeL (i := 5) rfl (v := ?vz5) (by kernel_rfl) (by kernel_rfl) (by kernel_rfl) (fun _ _ _ h => h) (Or.inl ⟨by rfl, fun _w _hSw => ?hyz5⟩) (by assumption) ?restz5
    case hyz5 =>
      (try dsimp only at _hSw)
      go_simp
      try with_reducible rfl
    try simp only [Act.put, List.setIfInBounds_toArray, List.set_cons_zero, List.set_cons_succ]
    refine takeL (i := 6) rfl (v := ?vz6) (by kernel_rfl) (by kernel_rfl) (by kernel_rfl) (fun _ _ _ h => h) (Or.inl ⟨by rfl, fun _w _hSw => ?hyz6⟩) (by assumption) ?restz6
    case hyz6 =>
      (try dsimp only at _hSw)
      go_simp
      try with_reducible rfl
    try simp only [Act.put, List.setIfInBounds_toArray, List.set_cons_zero, List.set_cons_succ]
    refine takeL (i := 7) rfl (v := ?vz7) (by kernel_rfl) (by kernel_rfl) (by kernel_rfl) (fun _ _ _ h => h) (Or.inl ⟨by rfl, fun _w _hSw => ?hyz7⟩) (by assumption) ?restz7
    case hyz7 =>
      (try dsimp only at _hSw)
      go_simp
      try with_reducible rfl
    try simp only [Act.put, List.setIfInBounds_toArray, List.set_cons_zero, List.set_cons_succ]
    refine takeL (i := 8) rfl (v := ?vz8) (by kernel_rfl) (by kernel_rfl) (by kernel_rfl) (fun _ _ _ h => h) (Or.inl ⟨by rfl, fun _w _hSw => ?hyz8⟩) (by assumption) ?restz8
    case hyz8 =>
      (try dsimp only at _hSw)
      go_simp
      try with_reducible rfl
    try simp only [Act.put, List.setIfInBounds_toArray, List.set_cons_zero, List.set_cons_succ]
    refine takeL (i := 9) rfl (v := ?vz9) (by kernel_rfl) (by kernel_rfl) (by kernel_rfl) (fun _ _ _ h => h) (Or.inl ⟨by rfl, fun _w _hSw => ?hyz9⟩) (by assumption) ?restz9
    case hyz9 =>
      (try dsimp only at _hSw)
      go_simp
      try with_reducible rfl
    try simp only [Act.put, List.setIfInBounds_toArray, List.set_cons_zero, List.set_cons_succ]
    refine wpAnyH_ready (rs := [4]) (by kernel_rfl) (by simp) (readyL rfl (fun K1 hK => ?_) AllReadyH.nil)
    go_simp
    refine hK.out _ _ ‹_› (fun _ => ?_)
    clear hK K1
    try simp only [Act.put, List.setIfInBounds_toArray, List.set_cons_zero, List.set_cons_succ]
    refine wpAnyH_ready (rs := [10]) (by kernel_rfl) (by simp) (readyL rfl (fun K1 hK => ?_) AllReadyH.nil)
    go_simp
    with_reducible refine (KL.out _).mono ?_
    rintro e w5 ⟨rfl, hb5⟩
    have HB5 := Lib.hid (show Below w1.heap.size w1 w5 from (Below.refl _ _).drew.trans hb5)
    have HN5 := Lib.hid (HNXT.out w5 HB5.out)
    have HSW := Lib.hid ((HTS.out w5 HB5.out).2 (k * 9) (encTry ⟨n0, n1, n2, n3, n4, n5⟩))
    obtain ⟨⟨v0, m0⟩, ⟨v1, m1⟩, ⟨v2, m2⟩, ⟨v3, m3⟩, ⟨v4, m4⟩, ⟨v5, m5⟩, q0, q1, q2, q3, q4, q5⟩ := HCF.out w5 HB5.out
    have HKG := Lib.hid ((HK1.out.trans (keptB_of HGZ1.out HB5.out)).trans (keptB_G (KeptG.sets g (k * 9) w5 (encTry ⟨n0, n1, n2, n3, n4, n5⟩))))
    clear hb5
    try dsimp only
    refine hK.out _ _ (HTS.out w5 HB5.out).1 (fun hHeld => ?_)
    clear hK K1
    try simp only [Act.put, List.setIfInBounds_toArray, List.set_cons_zero, List.set_cons_succ]
    refine takeL (i := 11) rfl (v := ?vz10) (by kernel_rfl) (by kernel_rfl) (by kernel_rfl) (fun _ _ _ h => h) (Or.inl ⟨by rfl, fun _w _hSw => ?hyz10⟩) (by assumption) ?restz10
    case hyz10 =>
      (try dsimp only at _hSw)
      go_simp
      try with_reducible rfl
    try simp only [Act.put, List.setIfInBounds_toArray, List.set_cons_zero, List.set_cons_succ]
    refine takeL (i := 12) rfl (v := ?vz11) (by kernel_rfl) (by kernel_rfl) (by kernel_rfl) (fun _ _ _ h => h) (Or.inl ⟨by rfl, fun _w _hSw => ?hyz11⟩) (by assumption) ?restz11
    case hyz11 =>
      (try dsimp only at _hSw)
      go_simp
      try with_reducible rfl
    try simp only [Act.put, List.setIfInBounds_toArray, List.set_cons_zero, List.set_cons_succ]
    refine wpAnyH_ready (rs := [13]) (by kernel_rfl) (by simp) (readyL rfl (fun K1 hK => ?_) AllReadyH.nil)
    go_simp
    refine hK.out _ _ HSW.out (fun _ => ?_)
    clear hK K1
    try simp only [Act.put, List.setIfInBounds_toArray, List.set_cons_zero, List.set_cons_succ]
    refine wpAnyH_done (by kernel_rfl) ?_ _
    clear m0 m1 m2 m3 m4 m5 q0 q1 q2 q3 q4 q5
    generalize hw6 : w5.setCells g (k * 9) (encTry ⟨n0, n1, n2, n3, n4, n5⟩) = w6 at *
    simp only [World.setCells, encTry] at hw6
    rw [hw6]
    clear hw6
    go_wp2
    go_ret
    exact HFIN.out w6 HN5.out HKG.out
  · have HMD := Lib.hid (show missM R i now = (R, stE R i false 2) by unfold missM; rw [if_neg he])
    have HFIN := Lib.hid (fun (w' : World) (hb : Below w.heap.size w w') => (show OpPost b g (tvOf tb tf tc R) c J (missM R i now) w (.returned (.int .i64 (stE R i false 2))) w' from by rw [HMD.out]; exact ⟨rfl, HR.out.below hb, keptB_of hgz hb⟩))
    have hz : (stE R i false 2 == 0) = false := by simpa using he
    clear he h
    generalize stE R i false 2 = en at *
    by_cases hf : findE R i false = 0
    all_goals
      go_enter Tryz.func24, Tryz.ntmps24
      go_wp2_with fail
      refine KH.out.mono ?_
      rintro e w1 hp
      unfold HeldPost at hp
      first | rw [if_pos hf, if_pos hf] at hp | rw [if_neg hf, if_neg hf] at hp
      obtain ⟨rfl, hb⟩ := hp
      have HB := Lib.hid hb
      clear hb hf
      go_wp2
      go_ret
      exact HFIN.out _ HB.out
theorem runBeatNil (i now : Int) (w : World) : Calls Tryz.prog 31 #[.pointer none, .int .i64 i, .int .i64 now] w fun e w' => e = .returned (.int .i64 8) ∧ w = w' := by
  go_enter Tryz.func31, Tryz.ntmps31
  go_wp2_with fail
  refine (runHeldNil i w).mono ?_
  rintro e w1 ⟨rfl, rfl⟩
  go_wp2
  go_ret
  exact ⟨rfl, rfl⟩
set_option maxHeartbeats 4000000 in
theorem runBeat (b g tb tf tc c : Nat) (J : List Value) (R : RunM) (i now : Int) (w : World) (h : RAt b g (tvOf tb tf tc R) c J R w) (hn : R.ps.length ≤ 1000) (hti : ∀ j, j < R.ts.length → smallI R.ts[j]!.time) (hnow : smallI now) :
    Calls Tryz.prog 31 #[.pointer (some ⟨b, 0, none⟩), .int .i64 i, .int .i64 now] w (OpPost b g (tvOf tb tf tc R) c J (beatM R i now) w) := by
  have KH := Lib.hid (runHeld b g tb tf tc c J R i w h hn)
  have HR := Lib.hid h
  have hgz := h.row.lt
  by_cases he : stE R i false 2 = 0
  · obtain ⟨k, rfl, hk, -, -, hf, -⟩ := stE_in he
    have HMD := Lib.hid (show beatM R (k : Int) now = (putT R k (beatT R.ps[k]!.try_ now R.ts[k]!.time), 0) by unfold beatM; rw [if_pos he, Int.toNat_natCast])
    rw [he, hf] at KH
    clear h he hf
    have HFIN := Lib.hid (fun (w' : World) (h1 : RAt b g (tvOf tb tf tc R) c J (putT R k (beatT R.ps[k]!.try_ now R.ts[k]!.time)) w') (h2 : KeptB g w w') => (show OpPost b g (tvOf tb tf tc R) c J (beatM R (k : Int) now) w (.returned (.int .i64 0)) w' from by rw [HMD.out]; exact ⟨rfl, h1, h2⟩))
    go_enter Tryz.func31, Tryz.ntmps31
    go_wp2_with fail
    refine KH.out.mono ?_
    rintro e w1 hp
    unfold HeldPost at hp
    rw [if_pos rfl, if_pos rfl, Int.toNat_natCast] at hp
    obtain ⟨rfl, hb⟩ := hp
    have HR1 := Lib.hid (HR.out.below hb)
    have HK1 := Lib.hid (keptB_of hgz hb)
    clear hb
    obtain ⟨c0, c1, c2, c3, c4, c5, _, _, _⟩ := HR1.out.cells hk
    have ht := taskF HR1.out hk
    have htz := ht.1
    have tc3 := ht.cells.2.2.2.1
    have hnt := (task_ne HR1.out).1
    have KL := Lib.hid (fun W => leaseBeat R.ps[k]!.try_ now R.ts[k]!.time W hnow (hti k (by have := HR1.out.len; omega)))
    have HNXT := Lib.hid (fun (X : World) (hb : Below w1.heap.size w1 X) => (HR1.out.below hb).setTry hk (beatT R.ps[k]!.try_ now R.ts[k]!.time))
    have HCF := Lib.hid (cellsF g k HR1.out hk)
    generalize hnt0 : beatT R.ps[k]!.try_ now R.ts[k]!.time = nt at *
    clear hnt0
    generalize R.ts[k]!.time = fl at *
    have HTS := Lib.hid (taskS (g := g) tc3 htz hnt)
    have HRP := Lib.hid (show RAt b g (tvOf tb tf tc R) c J R w1 from HR1.out)
    generalize R.ps[k]!.try_ = pt at *
    obtain ⟨s, si, mi, wkk, ls, ti⟩ := pt
    obtain ⟨n0, n1, n2, n3, n4, n5⟩ := nt
    have HGZ1 := Lib.hid (show g < w1.heap.size from HR1.out.row.lt)
    clear ht
    go_wp2_with fail
    refine wp_region_held_drew (S := (fun X => X.cell? ⟨tb, tf + k * 7 + 3, none⟩ = some (.int .i64 fl))) (by kernel_rfl) (show w1.drew.cell? ⟨tb, tf + k * 7 + 3, none⟩ = some (.int .i64 fl) from tc3) (fun hHeld => ?_)
    try dsimp only [List.size_toArray, List.length_cons, List.length_nil]
    refine takeL (i := 0) rfl (v := ?vz12) (by kernel_rfl) (by kernel_rfl) (by kernel_rfl) (fun _ _ _ h => h) (Or.inl ⟨by rfl, fun _w _hSw => ?hyz12⟩) (by assumption) ?restz12
    case hyz12 =>
      (try dsimp only at _hSw)
      go_simp
      try with_reducible rfl
    try simp only [Act.put, List.setIfInBounds_toArray, List.set_cons_zero, List.set_cons_succ]
    refine takeL (i := 1) rfl (v := ?vz13) (by kernel_rfl) (by kernel_rfl) (by kernel_rfl) (fun _ _ _ h => h) (Or.inl ⟨by rfl, fun _w _hSw => ?hyz13⟩) (by assumption) ?restz13
    case hyz13 =>
      (try dsimp only at _hSw)
      go_simp
      try with_reducible rfl
    try simp only [Act.put, List.setIfInBounds_toArray, List.set_cons_zero, List.set_cons_succ]
    refine takeL (i := 2) rfl (v := ?vz14) (by kernel_rfl) (by kernel_rfl) (by kernel_rfl) (fun _ _ _ h => h) (Or.inl ⟨by rfl, fun _w _hSw => ?hyz14⟩) (by assumption) ?restz14
    case hyz14 =>
      (try dsimp only at _hSw)
      go_simp
      try with_reducible rfl
    try simp only [Act.put, List.setIfInBounds_toArray, List.set_cons_zero, List.set_cons_succ]
    refine takeL (i := 3) rfl (v := ?vz15) (by kernel_rfl) (by kernel_rfl) (by kernel_rfl) (fun _ _ _ h => h) (Or.inl ⟨by rfl, fun _w _hSw => ?hyz15⟩) (by assumption) ?restz15
    case hyz15 =>
      (try dsimp only at _hSw)
      go_simp
      try with_reducible rfl
    try simp only [Act.put, List.setIfInBounds_toArray, List.set_cons_zero, List.set_cons_succ]
    refine takeL (i := 5) rfl (v := ?vz16) (by kernel_rfl) (by kernel_rfl) (by kernel_rfl) (fun _ _ _ h => h) (Or.inl ⟨by rfl, fun _w _hSw => ?hyz16⟩) (by assumption) ?restz16
    case hyz16 =>
      (try dsimp only at _hSw)
      go_simp
      try with_reducible rfl
    try simp only [Act.put, List.setIfInBounds_toArray, List.set_cons_zero, List.set_cons_succ]
    refine takeL (i := 6) rfl (v := ?vz17) (by kernel_rfl) (by kernel_rfl) (by kernel_rfl) (fun _ _ _ h => h) (Or.inl ⟨by rfl, fun _w _hSw => ?hyz17⟩) (by assumption) ?restz17
    case hyz17 =>
      (try dsimp only at _hSw)
      go_simp
      try with_reducible rfl
    try simp only [Act.put, List.setIfInBounds_toArray, List.set_cons_zero, List.set_cons_succ]
    refine takeL (i := 7) rfl (v := ?vz18) (by kernel_rfl) (by kernel_rfl) (by kernel_rfl) (fun _ _ _ h => h) (Or.inl ⟨by rfl, fun _w _hSw => ?hyz18⟩) (by assumption) ?restz18
    case hyz18 =>
      (try dsimp only at _hSw)
      go_simp
      try with_reducible rfl
    try simp only [Act.put, List.setIfInBounds_toArray, List.set_cons_zero, List.set_cons_succ]
    refine takeL (i := 8) rfl (v := ?vz19) (by kernel_rfl) (by kernel_rfl) (by kernel_rfl) (fun _ _ _ h => h) (Or.inl ⟨by rfl, fun _w _hSw => ?hyz19⟩) (by assumption) ?restz19
    case hyz19 =>
      (try dsimp only at _hSw)
      go_simp
      try with_reducible rfl
    try simp only [Act.put, List.setIfInBounds_toArray, List.set_cons_zero, List.set_cons_succ]
    refine takeL (i := 9) rfl (v := ?vz20) (by kernel_rfl) (by kernel_rfl) (by kernel_rfl) (fun _ _ _ h => h) (Or.inl ⟨by rfl, fun _w _hSw => ?hyz20⟩) (by assumption) ?restz20
    case hyz20 =>
      (try dsimp only at _hSw)
      go_simp
      try with_reducible rfl
    try simp only [Act.put, List.setIfInBounds_toArray, List.set_cons_zero, List.set_cons_succ]
    refine wpAnyH_ready (rs := [4]) (by kernel_rfl) (by simp) (readyL rfl (fun K1 hK => ?_) AllReadyH.nil)
    go_simp
    refine hK.out _ _ ‹_› (fun _ => ?_)
    clear hK K1
    try simp only [Act.put, List.setIfInBounds_toArray, List.set_cons_zero, List.set_cons_succ]
    refine wpAnyH_ready (rs := [10]) (by kernel_rfl) (by simp) (readyL rfl (fun K1 hK => ?_) AllReadyH.nil)
    go_simp
    with_reducible refine (KL.out _).mono ?_
    rintro e w5 ⟨rfl, hb5⟩
    have HB5 := Lib.hid (show Below w1.heap.size w1 w5 from (Below.refl _ _).drew.trans hb5)
    have HN5 := Lib.hid (HNXT.out w5 HB5.out)
    have HSW := Lib.hid ((HTS.out w5 HB5.out).2 (k * 9) (encTry ⟨n0, n1, n2, n3, n4, n5⟩))
    obtain ⟨⟨v0, m0⟩, ⟨v1, m1⟩, ⟨v2, m2⟩, ⟨v3, m3⟩, ⟨v4, m4⟩, ⟨v5, m5⟩, q0, q1, q2, q3, q4, q5⟩ := HCF.out w5 HB5.out
    have HKG := Lib.hid ((HK1.out.trans (keptB_of HGZ1.out HB5.out)).trans (keptB_G (KeptG.sets g (k * 9) w5 (encTry ⟨n0, n1, n2, n3, n4, n5⟩))))
    clear hb5
    try dsimp only
    refine hK.out _ _ (HTS.out w5 HB5.out).1 (fun hHeld => ?_)
    clear hK K1
    try simp only [Act.put, List.setIfInBounds_toArray, List.set_cons_zero, List.set_cons_succ]
    refine takeL (i := 11) rfl (v := ?vz21) (by kernel_rfl) (by kernel_rfl) (by kernel_rfl) (fun _ _ _ h => h) (Or.inl ⟨by rfl, fun _w _hSw => ?hyz21⟩) (by assumption) ?restz21
    case hyz21 =>
      (try dsimp only at _hSw)
      go_simp
      try with_reducible rfl
    try simp only [Act.put, List.setIfInBounds_toArray, List.set_cons_zero, List.set_cons_succ]
    refine takeL (i := 12) rfl (v := ?vz22) (by kernel_rfl) (by kernel_rfl) (by kernel_rfl) (fun _ _ _ h => h) (Or.inl ⟨by rfl, fun _w _hSw => ?hyz22⟩) (by assumption) ?restz22
    case hyz22 =>
      (try dsimp only at _hSw)
      go_simp
      try with_reducible rfl
    try simp only [Act.put, List.setIfInBounds_toArray, List.set_cons_zero, List.set_cons_succ]
    refine wpAnyH_ready (rs := [13]) (by kernel_rfl) (by simp) (readyL rfl (fun K1 hK => ?_) AllReadyH.nil)
    go_simp
    refine hK.out _ _ HSW.out (fun _ => ?_)
    clear hK K1
    try simp only [Act.put, List.setIfInBounds_toArray, List.set_cons_zero, List.set_cons_succ]
    refine wpAnyH_done (by kernel_rfl) ?_ _
    clear m0 m1 m2 m3 m4 m5 q0 q1 q2 q3 q4 q5
    generalize hw6 : w5.setCells g (k * 9) (encTry ⟨n0, n1, n2, n3, n4, n5⟩) = w6 at *
    simp only [World.setCells, encTry] at hw6
    rw [hw6]
    clear hw6
    go_wp2
    go_ret
    exact HFIN.out w6 HN5.out HKG.out
  · have HMD := Lib.hid (show beatM R i now = (R, stE R i false 2) by unfold beatM; rw [if_neg he])
    have HFIN := Lib.hid (fun (w' : World) (hb : Below w.heap.size w w') => (show OpPost b g (tvOf tb tf tc R) c J (beatM R i now) w (.returned (.int .i64 (stE R i false 2))) w' from by rw [HMD.out]; exact ⟨rfl, HR.out.below hb, keptB_of hgz hb⟩))
    have hz : (stE R i false 2 == 0) = false := by simpa using he
    clear he h
    generalize stE R i false 2 = en at *
    by_cases hf : findE R i false = 0
    all_goals
      go_enter Tryz.func31, Tryz.ntmps31
      go_wp2_with fail
      refine KH.out.mono ?_
      rintro e w1 hp
      unfold HeldPost at hp
      first | rw [if_pos hf, if_pos hf] at hp | rw [if_neg hf, if_neg hf] at hp
      obtain ⟨rfl, hb⟩ := hp
      have HB := Lib.hid hb
      clear hb hf
      go_wp2
      go_ret
      exact HFIN.out _ HB.out
end Go.Proofs.YtbbcicengfmhiaaGreatDoor

namespace Go.Proofs.YtbbcicengfmhiaaGreatDoor
set_option maxRecDepth 100000
open Go.RowKit

theorem stayA {W w1 : World} (h : (∀ b o, b < W.heap.size → w1.cell? ⟨b, o, none⟩ = W.cell? ⟨b, o, none⟩) ∧ Below W.heap.size W w1) (o : Obj) : (∀ b q, b < W.heap.size → (w1.alloc o).cell? ⟨b, q, none⟩ = W.cell? ⟨b, q, none⟩) ∧ Below W.heap.size W (w1.alloc o) :=
  stay h (below1 w1 o)
theorem bcellS {W X : World} (hb : Below W.heap.size W X) : (∀ b o, b < W.heap.size → X.cell? ⟨b, o, none⟩ = W.cell? ⟨b, o, none⟩) ∧ Below W.heap.size W X := ⟨fun b o h => hb.cell (p := ⟨b, o, none⟩) h, hb⟩
def takeM (R : RunM) (i now wk n : Int) : RunM × Int :=
  if findE R i false = 0 then (if (takeT R.ps[i.toNat]!.try_ now wk n R.ts[i.toNat]!.time).2 = 0 then (putT R i.toNat (takeT R.ps[i.toNat]!.try_ now wk n R.ts[i.toNat]!.time).1, 0) else (R, (takeT R.ps[i.toNat]!.try_ now wk n R.ts[i.toNat]!.time).2)) else (R, findE R i false)
theorem runTakeNil (i now wk n : Int) (w : World) : Calls Tryz.prog 22 #[.pointer none, .int .i64 i, .int .i64 now, .int .i64 wk, .int .i64 n] w fun e w' => e = .returned (.int .i64 8) ∧ w = w' := by
  go_enter Tryz.func22, Tryz.ntmps22
  go_wp2_with fail
  refine (runFindNil i false w).mono ?_
  rintro e w1 ⟨rfl, rfl⟩
  go_wp2
  go_ret
  exact ⟨rfl, rfl⟩
set_option maxHeartbeats 8000000 in
theorem runTake (b g tb tf tc c : Nat) (J : List Value) (R : RunM) (i now wk n : Int) (w : World) (h : RAt b g (tvOf tb tf tc R) c J R w) (hn : R.ps.length ≤ 1000) (hnow : smallI now) (hti : ∀ j, j < R.ts.length → smallI R.ts[j]!.time) :
    Calls Tryz.prog 22 #[.pointer (some ⟨b, 0, none⟩), .int .i64 i, .int .i64 now, .int .i64 wk, .int .i64 n] w (OpPost b g (tvOf tb tf tc R) c J (takeM R i now wk n) w) := by
  have KF := Lib.hid (runFind b g tb tf tc c J R i false w h hn)
  have HR := Lib.hid h
  have hgz := h.row.lt
  by_cases he : findE R i false = 0
  · obtain ⟨k, rfl, hk, -, -⟩ := findE_in he
    have HMD := Lib.hid (show takeM R (k : Int) now wk n = (if (takeT R.ps[k]!.try_ now wk n R.ts[k]!.time).2 = 0 then (putT R k (takeT R.ps[k]!.try_ now wk n R.ts[k]!.time).1, 0) else (R, (takeT R.ps[k]!.try_ now wk n R.ts[k]!.time).2)) by unfold takeM; rw [if_pos he, Int.toNat_natCast])
    rw [he] at KF
    clear h he
    go_enter Tryz.func22, Tryz.ntmps22
    go_wp2_with fail
    refine KF.out.mono ?_
    rintro e w1 hp
    unfold FindPost at hp
    rw [if_pos rfl, if_pos rfl, Int.toNat_natCast] at hp
    obtain ⟨rfl, hb⟩ := hp
    have HR1 := Lib.hid (HR.out.below hb)
    have HK1 := Lib.hid (keptB_of hgz hb)
    clear hb
    obtain ⟨c0, c1, c2, c3, c4, c5, _, _, _⟩ := HR1.out.cells hk
    have ht := taskF HR1.out hk
    have htz := ht.1
    have t3 := ht.cells.2.2.2.1
    have hgz1 : g < w1.heap.size := HR1.out.row.lt
    have HTM := Lib.hid (hti k (by have := HR1.out.len; omega))
    have KL := Lib.hid (fun W => leaseTake R.ps[k]!.try_ now wk n R.ts[k]!.time W hnow HTM.out)
    have HNXT := Lib.hid (fun (X : World) (hb : Below w1.heap.size w1 X) => (HR1.out.below hb).setTry hk (takeT R.ps[k]!.try_ now wk n R.ts[k]!.time).1)
    have HPUT := Lib.hid (show putT R k (takeT R.ps[k]!.try_ now wk n R.ts[k]!.time).1 = { R with ps := R.ps.set k { R.ps[k]! with try_ := (takeT R.ps[k]!.try_ now wk n R.ts[k]!.time).1 } } from rfl)
    have HCF := Lib.hid (cellsF g k HR1.out hk)
    generalize takeT R.ps[k]!.try_ now wk n R.ts[k]!.time = x at *
    generalize R.ts[k]!.time = fl at *
    generalize R.ps[k]!.try_ = pt at *
    obtain ⟨s, si, mi, wkk, ls, ti⟩ := pt
    obtain ⟨⟨n0, n1, n2, n3, n4, n5⟩, xe⟩ := x
    have HFY := Lib.hid (fun (hx : xe = 0) (w' : World) (h1 : RAt b g (tvOf tb tf tc R) c J (putT R k ⟨n0, n1, n2, n3, n4, n5⟩) w') (h2 : KeptB g w w') => (show OpPost b g (tvOf tb tf tc R) c J (takeM R (k : Int) now wk n) w (.returned (.int .i64 0)) w' from by rw [HMD.out, if_pos hx]; exact ⟨rfl, h1, h2⟩))
    have HFN := Lib.hid (fun (hx : ¬ xe = 0) (w' : World) (h1 : RAt b g (tvOf tb tf tc R) c J R w') (h2 : KeptB g w w') => (show OpPost b g (tvOf tb tf tc R) c J (takeM R (k : Int) now wk n) w (.returned (.int .i64 xe)) w' from by rw [HMD.out, if_neg hx]; exact ⟨rfl, h1, h2⟩))
    clear ht
    go_wp2_with fail
    --REG
    have HD1 := Lib.hid (show Below w1.heap.size w1 w1.drew from (Below.refl _ _).drew)
    refine wp_region_held_drew (S := (fun w' => (∀ b o, b < (w1).heap.size → w'.cell? ⟨b, o, none⟩ = (w1).cell? ⟨b, o, none⟩) ∧ Below (w1).heap.size (w1) w')) (by kernel_rfl) (stay0 _) (fun hHeld => ?_)
    try dsimp only [List.size_toArray, List.length_cons, List.length_nil]
    refine takeL (i := 0) rfl (v := ?vz1) (by kernel_rfl) (by kernel_rfl) (by kernel_rfl) (fun _ _ _ h => h) (Or.inl ⟨by rfl, fun _w _hSw => ?hyz1⟩) (by assumption) ?restz1
    case hyz1 =>
      (try dsimp only at _hSw)
      go_simp
      try with_reducible rfl
    try simp only [Act.put, List.setIfInBounds_toArray, List.set_cons_zero, List.set_cons_succ]
    refine takeL (i := 1) rfl (v := ?vz2) (by kernel_rfl) (by kernel_rfl) (by kernel_rfl) (fun _ _ _ h => h) (Or.inl ⟨by rfl, fun _w _hSw => ?hyz2⟩) (by assumption) ?restz2
    case hyz2 =>
      (try dsimp only at _hSw)
      go_simp
      try with_reducible rfl
    try simp only [Act.put, List.setIfInBounds_toArray, List.set_cons_zero, List.set_cons_succ]
    refine takeL (i := 2) rfl (v := ?vz3) (by kernel_rfl) (by kernel_rfl) (by kernel_rfl) (fun _ _ _ h => h) (Or.inl ⟨by rfl, fun _w _hSw => ?hyz3⟩) (by assumption) ?restz3
    case hyz3 =>
      (try dsimp only at _hSw)
      go_simp
      try with_reducible rfl
    try simp only [Act.put, List.setIfInBounds_toArray, List.set_cons_zero, List.set_cons_succ]
    refine takeL (i := 3) rfl (v := ?vz4) (by kernel_rfl) (by kernel_rfl) (by kernel_rfl) (fun _ _ _ h => h) (Or.inl ⟨by rfl, fun _w _hSw => ?hyz4⟩) (by assumption) ?restz4
    case hyz4 =>
      (try dsimp only at _hSw)
      go_simp
      try with_reducible rfl
    try simp only [Act.put, List.setIfInBounds_toArray, List.set_cons_zero, List.set_cons_succ]
    refine takeL (i := 4) rfl (v := ?vz5) (by kernel_rfl) (by kernel_rfl) (by kernel_rfl) (fun _ _ _ h => h) (Or.inl ⟨by rfl, fun _w _hSw => ?hyz5⟩) (by assumption) ?restz5
    case hyz5 =>
      (try dsimp only at _hSw)
      go_simp
      try with_reducible rfl
    try simp only [Act.put, List.setIfInBounds_toArray, List.set_cons_zero, List.set_cons_succ]
    refine takeL (i := 5) rfl (v := ?vz6) (by kernel_rfl) (by kernel_rfl) (by kernel_rfl) (fun _ _ _ h => h) (Or.inl ⟨by rfl, fun _w _hSw => ?hyz6⟩) (by assumption) ?restz6
    case hyz6 =>
      (try dsimp only at _hSw)
      go_simp
      try with_reducible rfl
    try simp only [Act.put, List.setIfInBounds_toArray, List.set_cons_zero, List.set_cons_succ]
    refine takeL (i := 6) rfl (v := ?vz7) (by kernel_rfl) (by kernel_rfl) (by kernel_rfl) (fun _ _ _ h => h) (Or.inl ⟨by rfl, fun _w _hSw => ?hyz7⟩) (by assumption) ?restz7
    case hyz7 =>
      (try dsimp only at _hSw)
      go_simp
      try with_reducible rfl
    try simp only [Act.put, List.setIfInBounds_toArray, List.set_cons_zero, List.set_cons_succ]
    refine takeL (i := 7) rfl (v := ?vz8) (by kernel_rfl) (by kernel_rfl) (by kernel_rfl) (fun _ _ _ h => h) (Or.inl ⟨by rfl, fun _w _hSw => ?hyz8⟩) (by assumption) ?restz8
    case hyz8 =>
      (try dsimp only at _hSw)
      go_simp
      try with_reducible rfl
    try simp only [Act.put, List.setIfInBounds_toArray, List.set_cons_zero, List.set_cons_succ]
    refine takeL (i := 8) rfl (v := ?vz9) (by kernel_rfl) (by kernel_rfl) (by kernel_rfl) (fun _ _ _ h => h) (Or.inl ⟨by rfl, fun _w _hSw => ?hyz9⟩) (by assumption) ?restz9
    case hyz9 =>
      (try dsimp only at _hSw)
      go_simp
      try with_reducible rfl
    try simp only [Act.put, List.setIfInBounds_toArray, List.set_cons_zero, List.set_cons_succ]
    refine takeL (i := 9) rfl (v := ?vz10) (by kernel_rfl) (by kernel_rfl) (by kernel_rfl) (fun _ _ _ h => h) (Or.inl ⟨by rfl, fun _w _hSw => ?hyz10⟩) (by assumption) ?restz10
    case hyz10 =>
      (try dsimp only at _hSw)
      go_simp
      try with_reducible rfl
    try simp only [Act.put, List.setIfInBounds_toArray, List.set_cons_zero, List.set_cons_succ]
    refine takeL (i := 10) rfl (v := ?vz11) (by kernel_rfl) (by kernel_rfl) (by kernel_rfl) (fun _ _ _ h => h) (Or.inl ⟨by rfl, fun _w _hSw => ?hyz11⟩) (by assumption) ?restz11
    case hyz11 =>
      (try dsimp only at _hSw)
      go_simp
      try with_reducible rfl
    try simp only [Act.put, List.setIfInBounds_toArray, List.set_cons_zero, List.set_cons_succ]
    refine wpAnyH_ready (rs := [11, 15]) (by kernel_rfl) (by simp) (readyL rfl (fun K1 hK => ?_) (readyL rfl (fun K1 hK => ?_) AllReadyH.nil))
    ·
      go_simp
      with_reducible refine (KL.out _).mono ?_
      rintro e w5 ⟨rfl, hb5⟩
      have HB5 := Lib.hid (HD1.out.trans hb5)
      clear hb5
      try dsimp only
      refine hK.out _ _ (bcellS HB5.out) (fun hHeld => ?_)
      clear hK K1
      try simp only [Act.put, List.setIfInBounds_toArray, List.set_cons_zero, List.set_cons_succ]
      refine takeL (i := 12) rfl (v := ?vz12) (by kernel_rfl) (by kernel_rfl) (by kernel_rfl) (fun _ _ _ h => h) (Or.inl ⟨by rfl, fun _w _hSw => ?hyz12⟩) (by assumption) ?restz12
      case hyz12 =>
        (try dsimp only at _hSw)
        go_simp
        try with_reducible rfl
      try simp only [Act.put, List.setIfInBounds_toArray, List.set_cons_zero, List.set_cons_succ]
      refine takeL (i := 13) rfl (v := ?vz13) (by kernel_rfl) (by kernel_rfl) (by kernel_rfl) (fun _ _ _ h => h) (Or.inl ⟨by rfl, fun _w _hSw => ?hyz13⟩) (by assumption) ?restz13
      case hyz13 =>
        (try dsimp only at _hSw)
        go_simp
        try with_reducible rfl
      try simp only [Act.put, List.setIfInBounds_toArray, List.set_cons_zero, List.set_cons_succ]
      refine takeL (i := 14) rfl (v := ?vz14) (by kernel_rfl) (by kernel_rfl) (by kernel_rfl) (fun _ _ _ h => h) (Or.inl ⟨by rfl, fun _w _hSw => ?hyz14⟩) (by assumption) ?restz14
      case hyz14 =>
        (try dsimp only at _hSw)
        go_simp
        try with_reducible rfl
      try simp only [Act.put, List.setIfInBounds_toArray, List.set_cons_zero, List.set_cons_succ]
      refine wpAnyH_ready (rs := [15]) (by kernel_rfl) (by simp) (readyL rfl (fun K1 hK => ?_) AllReadyH.nil)
      have hb6 := below1 w5 (.cells #[.int .i64 0, .int .i64 0, .int .i64 0, .int .i64 0, .int .i64 0, .int .i64 0] 103)
      have HB6 := Lib.hid (HB5.out.trans (hb6.mono HB5.out.size))
      clear hb6
      go_simp
      refine hK.out _ _ (bcellS HB6.out) (fun _ => ?_)
      clear hK K1
      try simp only [Act.put, List.setIfInBounds_toArray, List.set_cons_zero, List.set_cons_succ]
      refine wpAnyH_ready (rs := [16]) (by kernel_rfl) (by simp) (readyL rfl (fun K1 hK => ?_) AllReadyH.nil)
      have hb7 := below1 w5 (.cells #[.int .i64 n0, .int .i64 n1, .int .i64 n2, .int .i64 n3, .int .i64 n4, .int .i64 n5] 103)
      have HY6 := Lib.hid (BlkIs.alloc w5 [.int .i64 n0, .int .i64 n1, .int .i64 n2, .int .i64 n3, .int .i64 n4, .int .i64 n5] 103)
      have HB6 := Lib.hid (HB5.out.trans (hb7.mono HB5.out.size))
      clear hb7
      go_simp
      refine hK.out _ _ (bcellS HB6.out) (fun _ => ?_)
      clear hK K1
      try simp only [Act.put, List.setIfInBounds_toArray, List.set_cons_zero, List.set_cons_succ]
      refine takeL (i := 17) rfl (v := ?vz15) (by kernel_rfl) (by kernel_rfl) (by kernel_rfl) (fun _ _ _ h => h) (Or.inl ⟨by rfl, fun _w _hSw => ?hyz15⟩) (by assumption) ?restz15
      case hyz15 =>
        (try dsimp only at _hSw)
        go_simp
        try with_reducible rfl
      try simp only [Act.put, List.setIfInBounds_toArray, List.set_cons_zero, List.set_cons_succ]
      refine wpAnyH_done (by kernel_rfl) ?_ _
      repeat (rename (∀ (b o : Nat), b < w1.heap.size → _) ∧ _ => hh; clear hh)
      generalize w5.alloc (.cells #[.int .i64 n0, .int .i64 n1, .int .i64 n2, .int .i64 n3, .int .i64 n4, .int .i64 n5] 103) = w6 at *
      generalize w5.heap.size = y at *
      clear c0 c1 c2 c3 c4 c5 htz t3
      obtain ⟨⟨v0, m0⟩, ⟨v1, m1⟩, ⟨v2, m2⟩, ⟨v3, m3⟩, ⟨v4, m4⟩, ⟨v5, m5⟩, q0, q1, q2, q3, q4, q5⟩ := HCF.out w6 HB6.out
      have y0 := HY6.out.cell 0
      have y1 := HY6.out.cell 1
      have y2 := HY6.out.cell 2
      have y3 := HY6.out.cell 3
      have y4 := HY6.out.cell 4
      have y5 := HY6.out.cell 5
      simp only [List.getElem?_cons_zero, List.getElem?_cons_succ] at y0 y1 y2 y3 y4 y5
      have HR6 := Lib.hid (show RAt b g (tvOf tb tf tc R) c J R w6 from HR1.out.below HB6.out)
      have HN6 := Lib.hid (HNXT.out w6 HB6.out)
      have HK6 := Lib.hid (HK1.out.trans (keptB_of hgz1 HB6.out))
      have HKG := Lib.hid (HK6.out.trans (keptB_G (KeptG.sets g (k * 9) w6 (encTry ⟨n0, n1, n2, n3, n4, n5⟩))))
      have hgw6 : g < w6.heap.size := HR6.out.row.lt
      by_cases hx : xe = 0
      · have hx1 : (xe == 0) = true := by simpa using hx
        have HF := Lib.hid (HFY.out hx)
        subst hx
        go_wp2
        go_ret
        exact HF.out _ (by rw [HPUT.out]; exact HN6.out) HKG.out
      · have hx1 : (xe == 0) = false := by simpa using hx
        have HF := Lib.hid (HFN.out hx)
        clear hx
        go_wp2
        go_ret
        exact HF.out _ HR6.out HK6.out
    ·
      have hbz := below1 w1.drew (.cells #[.int .i64 0, .int .i64 0, .int .i64 0, .int .i64 0, .int .i64 0, .int .i64 0] 103)
      have HBZ := Lib.hid (HD1.out.trans hbz)
      have HZ := Lib.hid (show BlkIs (w1.drew.alloc (.cells #[.int .i64 0, .int .i64 0, .int .i64 0, .int .i64 0, .int .i64 0, .int .i64 0] 103)) w1.heap.size [.int .i64 0, .int .i64 0, .int .i64 0, .int .i64 0, .int .i64 0, .int .i64 0] 103 from BlkIs.alloc w1.drew [.int .i64 0, .int .i64 0, .int .i64 0, .int .i64 0, .int .i64 0, .int .i64 0] 103)
      clear hbz
      go_simp
      refine hK.out _ _ (bcellS HBZ.out) (fun _ => ?_)
      clear hK K1
      try simp only [Act.put, List.setIfInBounds_toArray, List.set_cons_zero, List.set_cons_succ]
      refine wpAnyH_ready (rs := [11]) (by kernel_rfl) (by simp) (readyL rfl (fun K1 hK => ?_) AllReadyH.nil)
      go_simp
      with_reducible refine (KL.out _).mono ?_
      rintro e w5 ⟨rfl, hb5⟩
      have HY5 := Lib.hid (HZ.out.below hb5)
      have HB5 := Lib.hid (HBZ.out.trans (hb5.mono HBZ.out.size))
      clear hb5
      try dsimp only
      refine hK.out _ _ (bcellS HB5.out) (fun hHeld => ?_)
      clear hK K1
      try simp only [Act.put, List.setIfInBounds_toArray, List.set_cons_zero, List.set_cons_succ]
      refine takeL (i := 12) rfl (v := ?vz16) (by kernel_rfl) (by kernel_rfl) (by kernel_rfl) (fun _ _ _ h => h) (Or.inl ⟨by rfl, fun _w _hSw => ?hyz16⟩) (by assumption) ?restz16
      case hyz16 =>
        (try dsimp only at _hSw)
        go_simp
        try with_reducible rfl
      try simp only [Act.put, List.setIfInBounds_toArray, List.set_cons_zero, List.set_cons_succ]
      refine takeL (i := 13) rfl (v := ?vz17) (by kernel_rfl) (by kernel_rfl) (by kernel_rfl) (fun _ _ _ h => h) (Or.inl ⟨by rfl, fun _w _hSw => ?hyz17⟩) (by assumption) ?restz17
      case hyz17 =>
        (try dsimp only at _hSw)
        go_simp
        try with_reducible rfl
      try simp only [Act.put, List.setIfInBounds_toArray, List.set_cons_zero, List.set_cons_succ]
      refine takeL (i := 14) rfl (v := ?vz18) (by kernel_rfl) (by kernel_rfl) (by kernel_rfl) (fun _ _ _ h => h) (Or.inl ⟨by rfl, fun _w _hSw => ?hyz18⟩) (by assumption) ?restz18
      case hyz18 =>
        (try dsimp only at _hSw)
        go_simp
        try with_reducible rfl
      try simp only [Act.put, List.setIfInBounds_toArray, List.set_cons_zero, List.set_cons_succ]
      refine wpAnyH_ready (rs := [16]) (by kernel_rfl) (by simp) (readyL rfl (fun K1 hK => ?_) AllReadyH.nil)
      have y0 := HY5.out.cell 0
      have y1 := HY5.out.cell 1
      have y2 := HY5.out.cell 2
      have y3 := HY5.out.cell 3
      have y4 := HY5.out.cell 4
      have y5 := HY5.out.cell 5
      simp only [List.getElem?_cons_zero, List.getElem?_cons_succ] at y0 y1 y2 y3 y4 y5
      have f0 := HY5.out.frozen 0
      have f1 := HY5.out.frozen 1
      have f2 := HY5.out.frozen 2
      have f3 := HY5.out.frozen 3
      have f4 := HY5.out.frozen 4
      have f5 := HY5.out.frozen 5
      have HY6 := Lib.hid (show BlkIs (w5.setCells w1.heap.size 0 [.int .i64 n0, .int .i64 n1, .int .i64 n2, .int .i64 n3, .int .i64 n4, .int .i64 n5]) w1.heap.size [.int .i64 n0, .int .i64 n1, .int .i64 n2, .int .i64 n3, .int .i64 n4, .int .i64 n5] 103 from HY5.out.sets [.int .i64 n0, .int .i64 n1, .int .i64 n2, .int .i64 n3, .int .i64 n4, .int .i64 n5] 0 w5 _ (by simp))
      have HB6 := Lib.hid (below_sets (Nat.le_refl _) [.int .i64 n0, .int .i64 n1, .int .i64 n2, .int .i64 n3, .int .i64 n4, .int .i64 n5] 0 w5 HB5.out)
      have hyz := HY5.out.lt
      go_simp
      refine hK.out _ _ (bcellS HB6.out) (fun _ => ?_)
      clear hK K1
      try simp only [Act.put, List.setIfInBounds_toArray, List.set_cons_zero, List.set_cons_succ]
      refine takeL (i := 17) rfl (v := ?vz19) (by kernel_rfl) (by kernel_rfl) (by kernel_rfl) (fun _ _ _ h => h) (Or.inl ⟨by rfl, fun _w _hSw => ?hyz19⟩) (by assumption) ?restz19
      case hyz19 =>
        (try dsimp only at _hSw)
        go_simp
        try with_reducible rfl
      try simp only [Act.put, List.setIfInBounds_toArray, List.set_cons_zero, List.set_cons_succ]
      refine wpAnyH_done (by kernel_rfl) ?_ _
      repeat (rename (∀ (b o : Nat), b < w1.heap.size → _) ∧ _ => hh; clear hh)
      clear y0 y1 y2 y3 y4 y5 f0 f1 f2 f3 f4 f5
      generalize hw6 : w5.setCells w1.heap.size 0 [.int .i64 n0, .int .i64 n1, .int .i64 n2, .int .i64 n3, .int .i64 n4, .int .i64 n5] = w6 at *
      simp only [World.setCells] at hw6
      rw [hw6]
      clear hw6
      clear c0 c1 c2 c3 c4 c5 htz t3
      obtain ⟨⟨v0, m0⟩, ⟨v1, m1⟩, ⟨v2, m2⟩, ⟨v3, m3⟩, ⟨v4, m4⟩, ⟨v5, m5⟩, q0, q1, q2, q3, q4, q5⟩ := HCF.out w6 HB6.out
      have y0 := HY6.out.cell 0
      have y1 := HY6.out.cell 1
      have y2 := HY6.out.cell 2
      have y3 := HY6.out.cell 3
      have y4 := HY6.out.cell 4
      have y5 := HY6.out.cell 5
      simp only [List.getElem?_cons_zero, List.getElem?_cons_succ] at y0 y1 y2 y3 y4 y5
      have HR6 := Lib.hid (show RAt b g (tvOf tb tf tc R) c J R w6 from HR1.out.below HB6.out)
      have HN6 := Lib.hid (HNXT.out w6 HB6.out)
      have HK6 := Lib.hid (HK1.out.trans (keptB_of hgz1 HB6.out))
      have HKG := Lib.hid (HK6.out.trans (keptB_G (KeptG.sets g (k * 9) w6 (encTry ⟨n0, n1, n2, n3, n4, n5⟩))))
      have hgw6 : g < w6.heap.size := HR6.out.row.lt
      by_cases hx : xe = 0
      · have hx1 : (xe == 0) = true := by simpa using hx
        have HF := Lib.hid (HFY.out hx)
        subst hx
        go_wp2
        go_ret
        exact HF.out _ (by rw [HPUT.out]; exact HN6.out) HKG.out
      · have hx1 : (xe == 0) = false := by simpa using hx
        have HF := Lib.hid (HFN.out hx)
        clear hx
        go_wp2
        go_ret
        exact HF.out _ HR6.out HK6.out
  · have HMD := Lib.hid (show takeM R i now wk n = (R, findE R i false) by unfold takeM; rw [if_neg he])
    have HFIN := Lib.hid (fun (w' : World) (hb : Below w.heap.size w w') => (show OpPost b g (tvOf tb tf tc R) c J (takeM R i now wk n) w (.returned (.int .i64 (findE R i false))) w' from by rw [HMD.out]; exact ⟨rfl, HR.out.below hb, keptB_of hgz hb⟩))
    have hz : (findE R i false != 0) = true := by simpa using he
    clear h
    generalize findE R i false = en at *
    go_enter Tryz.func22, Tryz.ntmps22
    go_wp2_with fail
    refine KF.out.mono ?_
    rintro e w1 hp
    unfold FindPost at hp
    rw [if_neg he, if_neg he] at hp
    obtain ⟨rfl, hb⟩ := hp
    have HB := Lib.hid hb
    clear hb he
    go_wp2
    go_ret
    exact HFIN.out _ HB.out
end Go.Proofs.YtbbcicengfmhiaaGreatDoor

namespace Go.Proofs.YtbbcicengfmhiaaGreatDoor
set_option maxRecDepth 100000
open Go.RowKit

def cancelM (R : RunM) : RunM × Int := if statusM R ≠ 0 then (R, 12) else ({ R with over := true }, 0)
theorem runCancelNil (w : World) : Calls Tryz.prog 32 #[.pointer none] w fun e w' => e = .returned (.int .i64 8) ∧ w = w' := by
  go_enter Tryz.func32, Tryz.ntmps32
  go_wp2
  go_ret
  exact ⟨rfl, rfl⟩
set_option maxHeartbeats 2000000 in
theorem runCancel (b g : Nat) (tv : Value) (c : Nat) (J : List Value) (R : RunM) (w : World) (h : RAt b g tv c J R w) (hn : R.ps.length ≤ 1000) :
    Calls Tryz.prog 32 #[.pointer (some ⟨b, 0, none⟩)] w fun e w' => e = .returned (.int .i64 (cancelM R).2) ∧ RAt b g tv c J (cancelM R).1 w' ∧ KeptB b w w' := by
  have KS := Lib.hid (runStatus b g tv c J R w h hn)
  have HR := Lib.hid h
  have hbz := h.blk.lt
  clear h
  by_cases hs : statusM R = 0
  · rw [show cancelM R = ({ R with over := true }, 0) by unfold cancelM; rw [if_neg (by simp [hs])]]
    rw [hs] at KS
    clear hs
    go_enter Tryz.func32, Tryz.ntmps32
    go_wp2_with fail
    refine KS.out.mono ?_
    rintro e w1 ⟨rfl, hb⟩
    have HR1 := Lib.hid (HR.out.below hb)
    have HK1 := Lib.hid (keptB_of hbz hb)
    obtain ⟨_, _, _, d3⟩ := HR1.out.head
    have f3 := HR1.out.blk.frozen 3
    have HO := Lib.hid (HR1.out.setOver true)
    have HKO := Lib.hid (HK1.out.trans (keptB_G (KeptG.set b 3 w1 (.bool true))))
    clear hb
    go_wp2
    go_ret
    exact ⟨rfl, HO.out, HKO.out⟩
  · rw [show cancelM R = (R, 12) by unfold cancelM; rw [if_pos hs]]
    have h1 : (statusM R != 0) = true := by simpa using hs
    clear hs
    generalize statusM R = sm at *
    go_enter Tryz.func32, Tryz.ntmps32
    go_wp2_with fail
    refine KS.out.mono ?_
    rintro e w1 ⟨rfl, hb⟩
    have HR1 := Lib.hid (HR.out.below hb)
    have HK1 := Lib.hid (keptB_of hbz hb)
    clear hb
    go_wp2
    go_ret
    exact ⟨rfl, HR1.out, HK1.out⟩
def putO (R : RunM) (k : Nat) (o : ByteArray) : RunM := { R with ps := R.ps.set k { R.ps[k]! with out := o } }
theorem RunAt.setOut {TR TP : TypeId} {b g : Nat} {tv : Value} {c : Nat} {J : List Value} {R : RunM} {w : World} (h : RunAt TR TP b g tv c J R w) {j : Nat} (hj : j < R.ps.length) (o : ByteArray) :
    RunAt TR TP b g tv c J (putO R j o) (w.setCells g (j * 9 + 6) [.string o]) :=
  h.set hj { R.ps[j]! with out := o } 6 [.string o] (fun M => by
    generalize R.ps[j]! = p
    obtain ⟨⟨a1, a2, a3, a4, a5, a6⟩, o', vs, ys, no⟩ := p
    rfl) (h.votes j hj).1 (h.votes j hj).2
def completeM (R : RunM) (i now : Int) (o : ByteArray) : RunM × Int :=
  if stE R i false 2 = 0 then (if 32 < o.size then (R, 1) else (advanceM (putO (putT R i.toNat (doneT R.ps[i.toNat]!.try_)) i.toNat o) now, 0)) else (R, stE R i false 2)
theorem runCompleteNil (i now : Int) (o : ByteArray) (w : World) : Calls Tryz.prog 23 #[.pointer none, .int .i64 i, .int .i64 now, .string o] w fun e w' => e = .returned (.int .i64 8) ∧ w = w' := by
  go_enter Tryz.func23, Tryz.ntmps23
  go_wp2_with fail
  refine (runHeldNil i w).mono ?_
  rintro e w1 ⟨rfl, rfl⟩
  go_wp2
  go_ret
  exact ⟨rfl, rfl⟩
set_option maxHeartbeats 8000000 in
theorem runComplete (b g tb tf tc c : Nat) (J : List Value) (R : RunM) (i now : Int) (o : ByteArray) (w : World) (h : RAt b g (tvOf tb tf tc R) c J R w) (hn : R.ps.length ≤ 1000) (haf : AftIn R.ts) (hla : ∀ j, j < R.ts.length → R.ts[j]!.after.length ≤ maxLen) (hos : o.size ≤ maxLen) :
    Calls Tryz.prog 23 #[.pointer (some ⟨b, 0, none⟩), .int .i64 i, .int .i64 now, .string o] w (OpPost b g (tvOf tb tf tc R) c J (completeM R i now o) w) := by
  have KH := Lib.hid (runHeld b g tb tf tc c J R i w h hn)
  have HR := Lib.hid h
  have hgz := h.row.lt
  unfold maxLen at hos
  by_cases he : stE R i false 2 = 0
  · obtain ⟨k, rfl, hk, -, -, hf, -⟩ := stE_in he
    rw [he, hf] at KH
    have HMD := Lib.hid (show completeM R (k : Int) now o = (if 32 < o.size then (R, 1) else (advanceM (putO (putT R k (doneT R.ps[k]!.try_)) k o) now, 0)) by unfold completeM; rw [if_pos he, Int.toNat_natCast])
    clear h he hf
    by_cases ho : 32 < o.size
    · have hoz : (32 : Int) < (o.size : Int) := by omega
      have HFIN := Lib.hid (fun (w' : World) (hb : Below w.heap.size w w') => (show OpPost b g (tvOf tb tf tc R) c J (completeM R (k : Int) now o) w (.returned (.int .i64 1)) w' from by rw [HMD.out, if_pos ho]; exact ⟨rfl, HR.out.below hb, keptB_of hgz hb⟩))
      clear ho
      go_enter Tryz.func23, Tryz.ntmps23
      go_wp2_with fail
      refine KH.out.mono ?_
      rintro e w1 hp
      unfold HeldPost at hp
      rw [if_pos rfl, if_pos rfl, Int.toNat_natCast] at hp
      obtain ⟨rfl, hb⟩ := hp
      have HB := Lib.hid hb
      clear hb
      go_wp2
      go_ret
      exact HFIN.out _ HB.out
    · have hoz : ¬ ((32 : Int) < (o.size : Int)) := by omega
      have HFIN := Lib.hid (fun (w' : World) (h1 : RAt b g (tvOf tb tf tc R) c J (advanceM (putO (putT R k (doneT R.ps[k]!.try_)) k o) now) w') (h2 : KeptB g w w') => (show OpPost b g (tvOf tb tf tc R) c J (completeM R (k : Int) now o) w (.returned (.int .i64 0)) w' from by rw [HMD.out, if_neg ho]; exact ⟨rfl, h1, h2⟩))
      clear ho
      go_enter Tryz.func23, Tryz.ntmps23
      go_wp2_with fail
      refine KH.out.mono ?_
      rintro e w1 hp
      unfold HeldPost at hp
      rw [if_pos rfl, if_pos rfl, Int.toNat_natCast] at hp
      obtain ⟨rfl, hb⟩ := hp
      have HR1 := Lib.hid (HR.out.below hb)
      have HK1 := Lib.hid (keptB_of hgz hb)
      clear hb
      obtain ⟨c0, c1, c2, c3, c4, c5, c6, _, _⟩ := HR1.out.cells hk
      have KL := Lib.hid (fun W => leaseDone R.ps[k]!.try_ W)
      have HLP := Lib.hid (show ∀ t, k < (putT R k t).ps.length from fun t => by unfold putT; simpa using hk)
      have HNXT := Lib.hid (fun (X : World) (hb : Below w1.heap.size w1 X) => ((HR1.out.below hb).setTry hk (doneT R.ps[k]!.try_)).setOut (j := k) (HLP.out _) o)
      have KADV := Lib.hid (fun (X : World) (hx : RAt b g (tvOf tb tf tc R) c J (putO (putT R k (doneT R.ps[k]!.try_)) k o) X) => runAdvance b g tb tf tc c J (putO (putT R k (doneT R.ps[k]!.try_)) k o) now X hx (by unfold putO putT; simpa using hn) haf hla)
      have HCF := Lib.hid (cellsF g k HR1.out hk)
      have HC6 := Lib.hid (fun (X : World) (hb : Below w1.heap.size w1 X) => (show (∃ v, X.cell? ⟨g, k * 9 + 6, none⟩ = some v) ∧ X.frozen? ⟨g, k * 9 + 6, none⟩ = false from ⟨⟨_, ((HR1.out.below hb).cells hk).2.2.2.2.2.2.1⟩, (HR1.out.below hb).row.frozen _⟩))
      have hgz1 : g < w1.heap.size := HR1.out.row.lt
      obtain ⟨nt, hnt⟩ : ∃ nt, doneT R.ps[k]!.try_ = nt := ⟨_, rfl⟩
      rw [hnt] at KL HNXT KADV HFIN
      clear hnt
      generalize R.ps[k]!.try_ = pt at *
      obtain ⟨s, si, mi, wkk, ls, ti⟩ := pt
      obtain ⟨n0, n1, n2, n3, n4, n5⟩ := nt
      go_wp2_with fail
      refine (KL.out _).mono ?_
      rintro e w5 ⟨rfl, hb5⟩
      have HN5 := Lib.hid (HNXT.out w5 hb5)
      obtain ⟨⟨v0, m0⟩, ⟨v1, m1⟩, ⟨v2, m2⟩, ⟨v3, m3⟩, ⟨v4, m4⟩, ⟨v5, m5⟩, q0, q1, q2, q3, q4, q5⟩ := HCF.out w5 hb5
      obtain ⟨⟨v6, m6⟩, q6⟩ := HC6.out w5 hb5
      have HKG := Lib.hid (((HK1.out.trans (keptB_of hgz1 hb5)).trans (keptB_G (KeptG.sets g (k * 9) w5 (encTry ⟨n0, n1, n2, n3, n4, n5⟩)))).trans (keptB_G (KeptG.sets g (k * 9 + 6) _ [.string o])))
      clear hb5 c0 c1 c2 c3 c4 c5 c6
      go_wp2_with fail
      refine (KADV.out _ HN5.out).mono ?_
      rintro e w6 ⟨rfl, hr6, hk6⟩
      have HR6 := Lib.hid hr6
      have HK6 := Lib.hid (HKG.out.trans hk6)
      clear hr6 hk6 m0 m1 m2 m3 m4 m5 m6 q0 q1 q2 q3 q4 q5 q6
      go_wp2
      go_ret
      exact HFIN.out _ HR6.out HK6.out
  · have HMD := Lib.hid (show completeM R i now o = (R, stE R i false 2) by unfold completeM; rw [if_neg he])
    have HFIN := Lib.hid (fun (w' : World) (hb : Below w.heap.size w w') => (show OpPost b g (tvOf tb tf tc R) c J (completeM R i now o) w (.returned (.int .i64 (stE R i false 2))) w' from by rw [HMD.out]; exact ⟨rfl, HR.out.below hb, keptB_of hgz hb⟩))
    have hz : (stE R i false 2 != 0) = true := by simpa using he
    clear he h
    generalize stE R i false 2 = en at *
    by_cases hf : findE R i false = 0
    all_goals
      go_enter Tryz.func23, Tryz.ntmps23
      go_wp2_with fail
      refine KH.out.mono ?_
      rintro e w1 hp
      unfold HeldPost at hp
      first | rw [if_pos hf, if_pos hf] at hp | rw [if_neg hf, if_neg hf] at hp
      obtain ⟨rfl, hb⟩ := hp
      have HB := Lib.hid hb
      clear hb hf
      go_wp2
      go_ret
      exact HFIN.out _ HB.out
end Go.Proofs.YtbbcicengfmhiaaGreatDoor

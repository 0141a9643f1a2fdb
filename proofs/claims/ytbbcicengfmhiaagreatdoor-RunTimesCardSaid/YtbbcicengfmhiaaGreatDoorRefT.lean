/- The document's: what is reached (lockageref09.Reach). Conditions: what a task comes behind is there. -/
import Derived.Test.YtbbcicengfmhiaaGreatDoorRefS
import Derived.Test.YtbbcicengfmhiaaGreatDoorRefM
import Derived.Test.YtbbcicengfmhiaaGreatDoorDfs
import Derived.Test.YtbbcicengfmhiaaGreatDoorTk
import Derived.RegionTactic
import Derived.ChangeAlike
import Derived.BigRegion
namespace Go.Proofs.YtbbcicengfmhiaaGreatDoor
set_option maxRecDepth 100000
open Go.RowKit

theorem row_infoR : (Tryz.prog.info? 168).map (fun i => (i.zero, i.size, i.bytes)) = some (some (.slice none 0 0), 1, 24) := by kernel_rfl
theorem taskS_at {w : World} {Bp : Nat} {nm : ByteArray} {p : Option Addr} {c n : Nat} {ts : List TaskV} (h : PipeAt w Bp nm (.slice p n c) ts) {i : Nat} (hi : i < ts.length) : ∃ tb tf sp sc, p = some ⟨tb, tf, none⟩ ∧ n = ts.length ∧ w.cell? ⟨tb, tf + i * 7 + 1, none⟩ = some (.slice sp ts[i]!.after.length sc) ∧ w.cell? ⟨tb, tf + i * 7 + 4, none⟩ = some (.int .i64 ts[i]!.need) ∧
    ∀ k, k < ts[i]!.after.length → ∃ sb so, sp = some ⟨sb, so, none⟩ ∧ w.cell? ⟨sb, so + k, none⟩ = some (.int .i64 ts[i]!.after[k]!) := by
  obtain ⟨p', c', hv, hn, hc⟩ := h.2.2.2.1
  obtain ⟨tb, tf, rfl, hlt, hcell⟩ := hc (by omega)
  injection hv with e1 e2 e3
  obtain ⟨sp, sc, hs, _, hsc⟩ := h.2.2.2.2 i hi
  refine ⟨tb, tf, sp, sc, e1, e2, ?_, hcell i hi 4 _ rfl, fun k hk => ?_⟩
  · rw [← hs]
    exact hcell i hi 1 _ rfl
  · obtain ⟨sb, so, rfl, _, hx⟩ := hsc (by omega)
    refine ⟨sb, so, rfl, ?_⟩
    have := hx k hk 0 _ rfl
    simpa using this
/-- what Reach gives -/
def ReachPost (ts : List TaskV) (w : World) (e : Ending) (w' : World) : Prop := ∃ base v' rows, e = .returned v' ∧ MatAt w' base v' ts.length rows ∧ rows.length = ts.length ∧ Snd (afters ts) rows ∧ Below w.heap.size w w'
theorem rep_map (n : Nat) : (List.replicate n false).map Value.bool = List.replicate n (Value.bool false) := by simp
set_option maxHeartbeats 8000000 in
theorem refReach (nm : ByteArray) (v : Value) (ts : List TaskV) (w : World) (h : TasksAt w v ts) (haf : AftIn ts) (hpos : 0 < ts.length) (hbig : ts.length ≤ 8) (hla : ∀ j, j < ts.length → ts[j]!.after.length ≤ 1000) : Calls Tryz.prog 98 #[.agg #[.string nm, v]] w (ReachPost ts w) := by
  obtain ⟨i0, hi0, hz0, hz1, hz2⟩ := info_parts bool_infoR
  obtain ⟨i1, hi1, hy0, hy1, hy2⟩ := info_parts row_infoR
  have HI0 := Lib.hid hi0
  have HZ0 := Lib.hid hz0
  have HI1 := Lib.hid hi1
  have HY0 := Lib.hid hy0
  have HP0 := Lib.hid (PipeAt.mk (nm := nm) h)
  have HB0 := Lib.hid (below1 w (.cells #[.string nm, v] 46))
  obtain ⟨p, c, rfl, hp⟩ := h.val
  have HAF := Lib.hid haf
  have HLA := Lib.hid hla
  have HFIN := Lib.hid (fun (base : Nat) (v' : Value) (rows : List (Nat × List Bool)) (w' : World) (h1 : MatAt w' base v' ts.length rows) (h2 : rows.length = ts.length) (h3 : Snd (afters ts) rows) (h4 : Below w.heap.size w w') => (show ReachPost ts w (.returned v') w' from ⟨base, v', rows, rfl, h1, h2, h3, h4⟩))
  have HAT := Lib.hid (fun i (hi : i < ts.length) => afters_at (ts := ts) hi)
  clear hi0 hz0 hi1 hy0 haf hla hp h
  generalize hGP : ReachPost ts w = GP at *
  clear hGP
  obtain ⟨n, hn⟩ : ∃ n, n = ts.length := ⟨_, rfl⟩
  rw [← hn] at hpos hbig HP0 HB0 HFIN
  have HN := Lib.hid hn
  rw [← hn]
  clear hn
  go_enter Tryz.func98, Tryz.ntmps98
  obtain ⟨hz, c0, c1, _⟩ := id HP0.out
  go_wp2_with fail
  generalize w.alloc (.cells #[.string nm, .slice p n c] 46) = W0 at HP0 HB0 hz c0 c1 ⊢
  generalize w.heap.size = Bp at HP0 hz c0 c1 ⊢
  have hBz : Bp < W0.heap.size := hz
  have HAFT := Lib.hid (fun i (hi : i < n) k (hk : k < ts[i]!.after.length) => show 0 ≤ ts[i]!.after[k]! ∧ ts[i]!.after[k]! < (n : Int) from by rw [HN.out]; exact HAF.out i (by rw [← HN.out]; exact hi) k hk)
  have HWAY := Lib.hid (fun i (hi : i < n) k (hk : k < ts[i]!.after.length) (x : Nat) (hx : ts[i]!.after[k]! = (x : Int)) => show Way (afters ts) i x from .one (by
    rw [HAT.out i (by rw [← HN.out]; exact hi), ← hx]
    rw [getElem!_pos _ k hk]
    exact List.getElem_mem hk))
  clear c0 c1 hz HAF
  go_loopw [4, 5, 6, 7] (fun s4 s5 _ _ wr => ∃ (i : Nat) (rows : List (Nat × List Bool)), s5 = .int .i64 i ∧ i ≤ n ∧ rows.length = i ∧ MatAt wr W0.heap.size s4 n rows ∧ Snd (afters ts) rows ∧ Below W0.heap.size W0 wr) (fun _ s5 _ _ _ => n - (intOf s5).toNat)
  case atStart => exact ⟨0, [], by go_num, by omega, rfl, MatAt.nil _ _ _, fun i hi => absurd hi (by simp), Below.refl _ _⟩
  case round =>
    obtain ⟨i, rows, rfl, hi, hrl, hm, hsd, hb⟩ := hrel
    have HM := Lib.hid hm
    have HS := Lib.hid hsd
    have HB := Lib.hid hb
    clear hm hsd hb
    by_cases hlt : i < n
    · have hltz : (i : Int) < (n : Int) := by omega
      have hzb := HB.out.size
      go_wp2_with (refine wpList_make_full _ rfl _ _ 168 rfl W0.heap.size 4 i0 (.bool false) 1 Tryz.underlying168 HI0.out HZ0.out hz1 _ _ (n : Int) (n : Int) n rfl rfl rfl rfl ?q1 ?q2 ?q3 ?_)
      case q1 => rw [hz2]; omega
      case q2 => unfold maxLen; omega
      case q3 => exact hzb
      intro w2 hown hg
      rw [made_bools] at hown
      have HRB := Lib.hid (show BlkIs w2 _ ((List.replicate n false).map Value.bool) 4 from owns_full hown)
      have hbw : Below wr.heap.size wr w2 := (Below.refl _ wr).grown hg (Nat.le_refl _) (fun k hk => by cases hk)
      have HM2 := Lib.hid (HM.out.below hbw)
      have HB2 := Lib.hid (HB.out.trans (hbw.mono hzb))
      obtain ⟨rb, hrb⟩ : ∃ x, x = wr.heap.size := ⟨_, rfl⟩
      rw [← hrb] at HRB ⊢
      have hrb0 : W0.heap.size ≤ rb := by omega
      have HRN := Lib.hid (show (u4.ownBlock ≠ some rb ∧ ∀ j, j < rows.length → rows[j]!.1 ≠ rb) from ⟨fun e => by have := owns_lt HM.out.own e; omega, fun j hj e => by have := (HM.out.row j hj).1.lt; omega⟩)
      clear hown hg hbw hzb hrb HB HM
      obtain ⟨tb, tf, sp, sc, hpe, hne, t1, t4, htk⟩ := taskS_at HP0.out (i := i) (by rw [← HN.out]; exact hlt)
      subst hpe
      obtain ⟨m, hm⟩ : ∃ m, m = ts[i]!.after.length := ⟨_, rfl⟩
      have HTK := Lib.hid htk
      have HAI := Lib.hid (HAFT.out i hlt)
      have HWI := Lib.hid (HWAY.out i hlt)
      have hm1 : m ≤ 1000 := by rw [hm]; exact HLA.out i (by rw [← HN.out]; exact hlt)
      rw [← hm] at HTK HAI HWI t1
      have T1 := Lib.hid t1
      clear htk t1 t4 hne hm
      go_wp2_with fail
      go_loopw [7] (fun s7 wx => ∃ (k : Nat) (L : List Bool), s7 = .int .i64 k ∧ k ≤ m ∧ BlkIs wx rb (L.map Value.bool) 4 ∧ L.length = n ∧ (∀ x, L[x]! = true → Way (afters ts) i x) ∧ KeptG rb w2 wx) (fun s7 _ => m - (intOf s7).toNat)
      case atStart => exact ⟨0, List.replicate n false, by go_num, by omega, HRB.out, by simp, fun x hx => (by rw [rep_no] at hx; cases hx), KeptG.refl _ _⟩
      case round =>
        obtain ⟨k, L, rfl, hk, hblk, hL, hway, hkg⟩ := hrel
        have hbx : Below W0.heap.size W0 wr := HB2.out.trans (hkg.1 _ hrb0)
        have hpx := HP0.out.below hbx
        obtain ⟨_, _, x1, _⟩ := id hpx
        have t1 := (hbx.cell (p := ⟨tb, tf + i * 7 + 1, none⟩) (cell_lt T1.out)).trans T1.out
        have HBX := Lib.hid hbx
        have HBL := Lib.hid hblk
        have HWL := Lib.hid hway
        have HKG := Lib.hid hkg
        clear hbx hpx hblk hway hkg
        by_cases hlk : k < m
        · have hlkz : (k : Int) < (m : Int) := by omega
          obtain ⟨sb, so, hse, a1⟩ := HTK.out k hlk
          subst hse
          have a1 := (HBX.out.cell (p := ⟨sb, so + k, none⟩) (cell_lt a1)).trans a1
          obtain ⟨ha0, han⟩ := HAI.out k hlk
          obtain ⟨x, hx⟩ := Int.eq_ofNat_of_zero_le ha0
          have HWX := Lib.hid (HWI.out k hlk x hx)
          rw [hx] at a1 han
          have hxn : x < n := by omega
          have f1 : wr.cell? ⟨rb, x, none⟩ = some (.bool L[x]!) := by
            rw [HBL.out.cell x, List.getElem?_map, List.getElem?_eq_getElem (by rw [hL]; exact hxn), getElem!_pos _ x (by rw [hL]; exact hxn)]
            rfl
          have f2 := HBL.out.frozen x
          have HBN := Lib.hid (show BlkIs (wr.setCell ⟨rb, x, none⟩ (.bool true)) rb ((L.set x true).map Value.bool) 4 from by
            have := HBL.out.set (o := x) (.bool true)
            simpa [List.map_set] using this)
          have HKN := Lib.hid (HKG.out.trans (KeptG.set rb x wr (.bool true)))
          have HWN := Lib.hid (show ∀ y, (L.set x true)[y]! = true → Way (afters ts) i y from fun y hy => by
            rcases setB_at L x y true hy with ⟨rfl, _⟩ | hy
            · exact HWX.out
            · exact HWL.out y hy)
          generalize L[x]! = lx at f1
          clear hx ha0
          go_wp2
          go_roundw
          case rel => exact ⟨k + 1, L.set x true, by go_num, by omega, HBN.out, by simpa using hL, HWN.out, HKN.out⟩
          case measure => simp [intOf] <;> omega
        · obtain rfl : k = m := by omega
          have hmr := HM2.out.keptG HKG.out HRN.out.1 HRN.out.2
          have bb := below1 wr (.cells #[.slice (some ⟨rb, 0, none⟩) n n] 168)
          have HMA := Lib.hid (hmr.below bb)
          have HBLA := Lib.hid (HBL.out.below bb)
          have HBA := Lib.hid (HBX.out.trans (bb.mono HBX.out.size))
          have hza := HBA.out.size
          have HWL := Lib.hid (show ∀ x, L[x]! = true → Way (afters ts) rows.length x from fun x hx => by rw [hrl]; exact HWL.out x hx)
          have cx : (wr.alloc (.cells #[.slice (some ⟨rb, 0, none⟩) n n] 168)).cell? ⟨wr.heap.size, 0, none⟩ = some (.slice (some ⟨rb, 0, none⟩) n n) := by go_simp
          have CX := Lib.hid cx
          have HZA := Lib.hid hza
          clear hmr bb cx hza
          go_wp2_with (at_builtin; refine wpList_append_own2 _ rfl _ _ 166 rfl W0.heap.size 168 i1 (.slice none 0 0) 1 24 Tryz.underlying166 HI1.out HY0.out hy1 hy2 rfl (by decide) u4 rows.length (rows.map (sv n)) rfl HMA.out.own ⟨wr.heap.size, 0, none⟩ 1 1 [.slice (some ⟨rb, 0, none⟩) n n] rfl rfl ?qc2 ?qc3 ?qc4 ?qc5 ?qc6 ?_)
          case qc2 =>
            intro jj u hj
            match jj, hj with
            | 0, hj => simp at hj; subst hj; rw [Go.WideShapes.add_plain]; exact CX.out
          case qc3 => intro u hu; rw [List.mem_singleton.1 hu]; rfl
          case qc4 => unfold maxLen; omega
          case qc5 => omega
          case qc6 => exact HZA.out
          intro v' w4 hown3 hgrow hnb
          have HM4 := Lib.hid (HMA.out.snoc (w' := w4) (v' := v') HZA.out HBLA.out hL hrb0 HRN.out.1 HRN.out.2 hgrow (by have h := hown3; rw [← hrl] at h; exact h) (by have hzx : (wr.alloc (.cells #[.slice (some ⟨rb, 0, none⟩) n n] 168)).heap.size = wr.heap.size + 1 := Array.size_push _; rw [hzx]; exact hnb))
          have HS4 := Lib.hid (HS.out.snoc (rb := rb) HWL.out)
          have HB4 := Lib.hid (HBA.out.grown hgrow HZA.out (fun q hq => owns_block HMA.out.own q hq))
          obtain ⟨pv', nv', cv', rfl⟩ : ∃ p n c, v' = Value.slice p n c := by
            rcases hown3.2 with ⟨e, _⟩ | ⟨g, cap, cur, e, _⟩
            · exact ⟨_, _, _, e⟩
            · exact ⟨_, _, _, e⟩
          clear hown3 hgrow hnb
          go_wp2
          go_roundw
          case rel => exact ⟨i + 1, rows ++ [(rb, L)], by go_num, by omega, by simp [hrl], HM4.out, HS4.out, HB4.out⟩
          case measure => simp [intOf] <;> omega
    · have hin : n = i := by omega
      subst hin
      rcases HM.out.own.2 with ⟨_, h0⟩ | ⟨g, cap, cur, hv, _⟩
      · omega
      subst hv
      rw [hrl] at HM ⊢
      go_wp2_with fail
      go_loopw [8, 9, 10] (fun s8 _ _ wr => ∃ (m : Nat) (rows : List (Nat × List Bool)), s8 = .int .i64 m ∧ m ≤ n ∧ rows.length = n ∧ MatAt wr W0.heap.size (.slice (some ⟨g, 0, none⟩) n cap) n rows ∧ Snd (afters ts) rows ∧ Below W0.heap.size W0 wr) (fun s8 _ _ _ => n - (intOf s8).toNat)
      case atStart => exact ⟨0, rows, by go_num, by omega, hrl, HM.out, HS.out, HB.out⟩
      case round =>
        clear HM HS HB hrl
        obtain ⟨m, rows, rfl, hm, hrl, hmt, hsd, hb⟩ := hrel
        have HM := Lib.hid hmt
        have HS := Lib.hid hsd
        have HB := Lib.hid hb
        clear hmt hsd hb
        by_cases hlm : m < n
        · have hlmz : (m : Int) < (n : Int) := by omega
          go_wp2_with fail
          go_loopw [9, 10] (fun s9 _ wr => ∃ (a : Nat) (rows : List (Nat × List Bool)), s9 = .int .i64 a ∧ a ≤ n ∧ rows.length = n ∧ MatAt wr W0.heap.size (.slice (some ⟨g, 0, none⟩) n cap) n rows ∧ Snd (afters ts) rows ∧ Below W0.heap.size W0 wr) (fun s9 _ _ => n - (intOf s9).toNat)
          case atStart => exact ⟨0, rows, by go_num, by omega, hrl, HM.out, HS.out, HB.out⟩
          case round =>
            clear HM HS HB hrl
            obtain ⟨a, rows, rfl, ha, hrl, hmt, hsd, hb⟩ := hrel
            have HM := Lib.hid hmt
            have HS := Lib.hid hsd
            have HB := Lib.hid hb
            clear hmt hsd hb
            by_cases hla : a < n
            · have hlaz : (a : Int) < (n : Int) := by omega
              go_wp2_with fail
              go_loopw [10] (fun s10 wr => ∃ (k : Nat) (rows : List (Nat × List Bool)), s10 = .int .i64 k ∧ k ≤ n ∧ rows.length = n ∧ MatAt wr W0.heap.size (.slice (some ⟨g, 0, none⟩) n cap) n rows ∧ Snd (afters ts) rows ∧ Below W0.heap.size W0 wr) (fun s10 _ => n - (intOf s10).toNat)
              case atStart => exact ⟨0, rows, by go_num, by omega, hrl, HM.out, HS.out, HB.out⟩
              case round =>
                clear HM HS HB hrl
                obtain ⟨k, rows, rfl, hk, hrl, hmt, hsd, hb⟩ := hrel
                have HM := Lib.hid hmt
                have HS := Lib.hid hsd
                have HB := Lib.hid hb
                clear hmt hsd hb
                by_cases hlk : k < n
                · have hlkz : (k : Int) < (n : Int) := by omega
                  have hrk : a < rows.length := by omega
                  have hrm : m < rows.length := by omega
                  have r1 := HM.out.cellR2 hrk
                  have r2 := HM.out.cellR2 hrm
                  obtain ⟨b1, f1⟩ := HM.out.cellB hrk hlk
                  obtain ⟨b2, _⟩ := HM.out.cellB hrk hlm
                  obtain ⟨b3, _⟩ := HM.out.cellB hrm hlk
                  have HNX := Lib.hid (fun (X : World) (hX : Below wr.heap.size wr X) (b : Bool) => (HM.out.below hX).set (k := k) hrk b)
                  have HSX := Lib.hid (fun (b : Bool) (hb : b = true → Way (afters ts) a k) => HS.out.set hrk b hb)
                  have HW1 := Lib.hid (fun h => HS.out a hrk k h)
                  have HW2 := Lib.hid (fun h => HS.out a hrk m h)
                  have HW3 := Lib.hid (fun h => HS.out m hrm k h)
                  have HRL := Lib.hid (show (rows[a]!.1 : Nat) ≥ W0.heap.size from (HM.out.row a hrk).2.2.1)
                  have HZL := Lib.hid (fun b => show (rows.set a (rows[a]!.1, rows[a]!.2.set k b)).length = n from by simpa using hrl)
                  generalize rows[a]!.2[k]! = x1 at b1 HW1
                  generalize rows[a]!.2[m]! = x2 at b2 HW2
                  generalize rows[m]!.2[k]! = x3 at b3 HW3
                  generalize rows[m]!.1 = q2 at r2 b3
                  generalize rows[a]!.1 = qa at *
                  clear hrk hrm
                  cases x1 with
                  | true =>
                    have HSN := Lib.hid (HSX.out true (fun _ => HW1.out rfl))
                    have HZN := Lib.hid (HZL.out true)
                    clear HSX HZL
                    go_wp2_with fail
                    have HMN := Lib.hid ((HNX.out wr (Below.refl _ _) true).below ((Below.refl _ _).drew))
                    have HBN := Lib.hid ((HB.out.setCell (p := ⟨qa, k, none⟩) HRL.out (.bool true)).drew)
                    go_region
                    clear r1 r2 b1 b2 b3 f1
                    generalize (wr.setCell ⟨qa, k, none⟩ (.bool true)).drew = wx at HMN HBN ⊢
                    go_wp2
                    go_roundw
                    case rel => exact ⟨k + 1, _, by go_num, by omega, HZN.out, HMN.out, HSN.out, HBN.out⟩
                    case measure => simp [intOf] <;> omega
                  | false =>
                    cases x2 with
                    | false =>
                      have HSN := Lib.hid (HSX.out false (fun h => nomatch h))
                      have HZN := Lib.hid (HZL.out false)
                      clear HSX HZL
                      go_wp2_with fail
                      have HMN := Lib.hid ((HNX.out wr (Below.refl _ _) false).below ((Below.refl _ _).drew))
                      have HBN := Lib.hid ((HB.out.setCell (p := ⟨qa, k, none⟩) HRL.out (.bool false)).drew)
                      go_region
                      clear r1 r2 b1 b2 b3 f1
                      generalize (wr.setCell ⟨qa, k, none⟩ (.bool false)).drew = wx at HMN HBN ⊢
                      go_wp2
                      go_roundw
                      case rel => exact ⟨k + 1, _, by go_num, by omega, HZN.out, HMN.out, HSN.out, HBN.out⟩
                      case measure => simp [intOf] <;> omega
                    | true =>
                      have HSN := Lib.hid (HSX.out x3 (fun h => .more (HW2.out rfl) (HW3.out h)))
                      have HZN := Lib.hid (HZL.out x3)
                      clear HSX HZL
                      go_wp2_with fail
                      have HMN := Lib.hid ((HNX.out wr (Below.refl _ _) x3).below ((Below.refl _ _).drew))
                      have HBN := Lib.hid ((HB.out.setCell (p := ⟨qa, k, none⟩) HRL.out (.bool x3)).drew)
                      go_region
                      clear r1 r2 b1 b2 b3 f1
                      generalize (wr.setCell ⟨qa, k, none⟩ (.bool x3)).drew = wx at HMN HBN ⊢
                      go_wp2
                      go_roundw
                      case rel => exact ⟨k + 1, _, by go_num, by omega, HZN.out, HMN.out, HSN.out, HBN.out⟩
                      case measure => simp [intOf] <;> omega
                · have hkn : n = k := by omega
                  subst hkn
                  go_wp2
                  go_roundw
                  case rel => exact ⟨a + 1, rows, by go_num, by omega, hrl, HM.out, HS.out, HB.out⟩
                  case measure => simp [intOf] <;> omega
            · have han : n = a := by omega
              subst han
              go_wp2
              go_roundw
              case rel => exact ⟨m + 1, rows, by go_num, by omega, hrl, HM.out, HS.out, HB.out⟩
              case measure => simp [intOf] <;> omega
        · have hmn : n = m := by omega
          subst hmn
          have HF := Lib.hid (HFIN.out _ _ rows _ HM.out hrl HS.out (HB0.out.trans (HB.out.mono HB0.out.size)))
          go_wp2
          exact HF.out
end Go.Proofs.YtbbcicengfmhiaaGreatDoor

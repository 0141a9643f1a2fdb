/- LabelLattice: Leq is an order; Join is the least one above both, Meet the greatest one below. Every input. -/
import Derived.Test.YtpkmgdpnimecfabDoorLat
import Derived.Test.YtpkmgdpnimecfabDoorAwk1
import Derived.Test.YtpkmgdpnimecfabDoorOpn
import Derived.Test.YtpkmgdpnimecfabDoorTk
import Derived.Deep.DeepCutAuto
namespace Go.Proofs.YtpkmgdpnimecfabDoor
open Go.ChangeShapes Go.WideShapes Go.ChangeAt Go.RowKit

theorem LBx.zero {b : Nat} (w : World) (h : w.heap.size = b) : LBx b 0 0 (w.alloc (.cells #[.int .i64 0, .int .u16 0] 26)) := LBx.mk2 w 0 0 h
theorem LBx.store {b : Nat} {a a' : Int} {x x' : Nat} {w : World} (h : LBx b a x w) : LBx b a' x' ((w.setCell ⟨b, 0, none⟩ (.int .i64 a')).setCell ⟨b, 1, none⟩ (.int .u16 (x' : Int))) := by
  obtain ⟨h0, h1, h2, h3, h4⟩ := h
  refine ⟨by simpa using h0, ?_, ?_, ?_, ?_⟩ <;> go_simp
theorem LBx.storeO {b c : Nat} {a : Int} {x : Nat} {v v' : Value} {w : World} (h : LBx b a x w) (hne : b ≠ c) : LBx b a x ((w.setCell ⟨c, 0, none⟩ v).setCell ⟨c, 1, none⟩ v') := by
  obtain ⟨h0, h1, h2, h3, h4⟩ := h
  refine ⟨by simpa using h0, ?_, ?_, ?_, ?_⟩ <;> go_simp
theorem stayOf {W w1 : World} (h : Below W.heap.size W w1) : (fun w' => (∀ b o, b < (W).heap.size → w'.cell? ⟨b, o, none⟩ = (W).cell? ⟨b, o, none⟩) ∧ Below (W).heap.size (W) w') w1 := ⟨fun b o hl => h.cell (p := ⟨b, o, none⟩) hl, h⟩
def LatAt (w : World) (b1 b2 b3 bj bm : Nat) (a b c jl ml : Int) (x y u jx mx : Nat) (wx : World) : Prop :=
  Below w.heap.size w wx ∧ LBx b1 a x wx ∧ LBx b2 b y wx ∧ LBx b3 c u wx ∧ LBx bj jl jx wx ∧ LBx bm ml mx wx
theorem LatAt.next {w : World} {b1 b2 b3 bj bm : Nat} {a b c jl ml : Int} {x y u jx mx : Nat} {wx wy : World} (h : LatAt w b1 b2 b3 bj bm a b c jl ml x y u jx mx wx) (hb : Below wx.heap.size wx wy) :
    LatAt w b1 b2 b3 bj bm a b c jl ml x y u jx mx wy :=
  ⟨h.1.trans (hb.mono h.1.size), h.2.1.below hb, h.2.2.1.below hb, h.2.2.2.1.below hb, h.2.2.2.2.1.below hb, h.2.2.2.2.2.below hb⟩
set_option maxRecDepth 100000 in
set_option maxHeartbeats 32000000 in
theorem labelLattice_walk (a b c : Int) (x y u : Nat) (hx : x < 65536) (hy : y < 65536) (hu : u < 65536) (w : World) (hM : Met w) :
    Calls Tryd.prog 6 #[(.agg #[.int .i64 (a), .int .u16 ((x : Nat) : Int)]), (.agg #[.int .i64 (b), .int .u16 ((y : Nat) : Int)]), (.agg #[.int .i64 (c), .int .u16 ((u : Nat) : Int)])] w fun e w' => e = .returned (.bool true) ∧ Below w.heap.size w w' := by
  have HM := Lib.hid hM
  have hj := mOr_lt hx hy
  have hm : mAnd x y < 65536 := mAnd_lt hx
  have k27 := fun W => labelJoin a b x y hx hy W
  have k28 := fun W => labelMeet a b x y hx hy W
  have kaa := fun W => labelLeq a a x x hx hx W
  rw [leqB_refl a hx] at kaa
  have kp := fun W => labelLeq a b x y hx hy W
  have kq := fun W => labelLeq b a y x hy hx W
  have kr := fun W => labelLeq b c y u hy hu W
  have ks := fun W => labelLeq a c x u hx hu W
  have kaj := fun W => labelLeq a (joinLv a b) x (mOr x y) hx hj W
  rw [leqB_left a b hx hy] at kaj
  have kbj := fun W => labelLeq b (joinLv a b) y (mOr x y) hy hj W
  rw [leqB_right a b hx hy] at kbj
  have kma := fun W => labelLeq (meetLv a b) a (mAnd x y) x hm hx W
  rw [leqB_meetL a b hx] at kma
  have kmb := fun W => labelLeq (meetLv a b) b (mAnd x y) y hm hy W
  rw [leqB_meetR a b hx hy] at kmb
  have kjc := fun W => labelLeq (joinLv a b) c (mOr x y) u hj hu W
  rw [leqB_join a b c hx hy hu] at kjc
  have kf := fun W => labelLeq c a u x hu hx W
  have kg := fun W => labelLeq c b u y hu hy W
  have kcm := fun W => labelLeq c (meetLv a b) u (mAnd x y) hu hm W
  rw [leqB_meet a b c hx hy hu] at kcm
  have k27b := fun W => labelJoin a (meetLv a b) x (mAnd x y) hx hm W
  rw [join_meet_lv, or_and_set] at k27b
  have k28b := fun W => labelMeet a (joinLv a b) x (mOr x y) hx hj W
  rw [meet_join_lv, and_or_set] at k28b
  have hE : ∀ W, (binOp .eql 26 (.agg #[.int .i64 (a), .int .u16 ((x : Nat) : Int)]) (.agg #[.int .i64 (a), .int .u16 ((x : Nat) : Int)])).run Tryd.prog W = .ok (.bool true) W := fun W => by rw [run_eqL', sameB_self]
  have hN := fun W => run_neqL' a b x y W
  have F1 := Lib.hid (leqB_anti (a := a) (b := b) hx hy)
  have F2 := Lib.hid (leqB_trans (a := a) (b := b) (c := c) hx hy hu)
  have hgu := eqGuard26
  generalize joinLv a b = jl at k27 kaj kbj kjc k28b
  generalize mOr x y = jx at k27 kaj kbj kjc k28b
  generalize meetLv a b = ml at k28 kma kmb kcm k27b
  generalize mAnd x y = mx at k28 kma kmb kcm k27b
  generalize leqB a x b y = p at kp F1 F2
  generalize leqB b y a x = q at kq F1
  generalize leqB b y c u = r at kr kjc F2
  generalize leqB a x c u = s at ks kjc F2
  generalize leqB c u a x = f at kf kcm
  generalize leqB c u b y = g at kg kcm
  generalize sameB a x b y = sm at hN F1
  have K27 := Lib.hid k27
  have K28 := Lib.hid k28
  have KAA := Lib.hid kaa
  have KP := Lib.hid kp
  have KQ := Lib.hid kq
  have KR := Lib.hid kr
  have KS := Lib.hid ks
  have KAJ := Lib.hid kaj
  have KBJ := Lib.hid kbj
  have KMA := Lib.hid kma
  have KMB := Lib.hid kmb
  have KJC := Lib.hid kjc
  have KF := Lib.hid kf
  have KG := Lib.hid kg
  have KCM := Lib.hid kcm
  have K27B := Lib.hid k27b
  have K28B := Lib.hid k28b
  clear hM hx hy hu hj hm k27 k28 kaa kp kq kr ks kaj kbj kma kmb kjc kf kg kcm k27b k28b
  go_enter Tryd.func6, Tryd.ntmps6
  go_upto_region 1 with fail
  have H1 := LBx.mk w a x
  have B1 := below1 w (.cells #[.int .i64 (a), .int .u16 ((x : Nat) : Int)] 26)
  have H1 := H1.below (below1 (w.alloc (.cells #[.int .i64 (a), .int .u16 ((x : Nat) : Int)] 26)) (.cells #[.int .i64 (b), .int .u16 ((y : Nat) : Int)] 26))
  have H2 := LBx.mk2 (b := w.heap.size + 1) (w.alloc (.cells #[.int .i64 (a), .int .u16 ((x : Nat) : Int)] 26)) b y (by simp)
  have B2 := B1.trans ((below1 (w.alloc (.cells #[.int .i64 (a), .int .u16 ((x : Nat) : Int)] 26)) (.cells #[.int .i64 (b), .int .u16 ((y : Nat) : Int)] 26)).mono B1.size)
  have H1 := H1.below (below1 ((w.alloc (.cells #[.int .i64 (a), .int .u16 ((x : Nat) : Int)] 26)).alloc (.cells #[.int .i64 (b), .int .u16 ((y : Nat) : Int)] 26)) (.cells #[.int .i64 (c), .int .u16 ((u : Nat) : Int)] 26))
  have H2 := H2.below (below1 ((w.alloc (.cells #[.int .i64 (a), .int .u16 ((x : Nat) : Int)] 26)).alloc (.cells #[.int .i64 (b), .int .u16 ((y : Nat) : Int)] 26)) (.cells #[.int .i64 (c), .int .u16 ((u : Nat) : Int)] 26))
  have H3 := LBx.mk2 (b := w.heap.size + 1 + 1) ((w.alloc (.cells #[.int .i64 (a), .int .u16 ((x : Nat) : Int)] 26)).alloc (.cells #[.int .i64 (b), .int .u16 ((y : Nat) : Int)] 26)) c u (by simp)
  have B3 := B2.trans ((below1 ((w.alloc (.cells #[.int .i64 (a), .int .u16 ((x : Nat) : Int)] 26)).alloc (.cells #[.int .i64 (b), .int .u16 ((y : Nat) : Int)] 26)) (.cells #[.int .i64 (c), .int .u16 ((u : Nat) : Int)] 26)).mono B2.size)
  clear B1 B2
  generalize ((w.alloc (.cells #[.int .i64 (a), .int .u16 ((x : Nat) : Int)] 26)).alloc (.cells #[.int .i64 (b), .int .u16 ((y : Nat) : Int)] 26)).alloc (.cells #[.int .i64 (c), .int .u16 ((u : Nat) : Int)] 26) = W at H1 H2 H3 B3 ⊢
  have HB := Lib.hid B3
  have HX1 := Lib.hid H1
  have HX2 := Lib.hid H2
  have HX3 := Lib.hid H3
  clear B3
  obtain ⟨z1, c10, c11, _, _⟩ := H1
  obtain ⟨z2, c20, c21, _, _⟩ := H2
  obtain ⟨z3, c30, c31, _, _⟩ := H3
  generalize w.heap.size + 1 + 1 = b3 at *
  generalize w.heap.size + 1 = b2 at *
  generalize hb1 : w.heap.size = b1 at c10 c11 z1 HX1 ⊢
  clear hb1
  go_cut [7, 8] (fun s7 s8 wx => ∃ bj bm, s7 = .pointer (some ⟨bj, 0, none⟩) ∧ s8 = .pointer (some ⟨bm, 0, none⟩) ∧ LatAt w b1 b2 b3 bj bm a b c jl ml x y u jx mx wx)
  case first =>
    refine wp_region_held_drew (S := (fun w' => (∀ b o, b < (W).heap.size → w'.cell? ⟨b, o, none⟩ = (W).cell? ⟨b, o, none⟩) ∧ Below (W).heap.size (W) w')) (by kernel_rfl) (stay0 _) (fun hH0 => ?_)
    try dsimp only [List.size_toArray, List.length_cons, List.length_nil]
    generalize W.drew = v0 at hH0 ⊢
    refine takeL (i := 0) rfl (v := ?vr0) (by kernel_rfl) (by kernel_rfl) (by kernel_rfl) (fun _ _ _ h => h) (Or.inl ⟨by rfl, fun _w _hSw => ?hyr0⟩) (by assumption) ?restr0
    case hyr0 =>
      (try dsimp only at _hSw)
      go_simp
      try with_reducible rfl
    try simp only [Act.put, List.setIfInBounds_toArray, List.set_cons_zero, List.set_cons_succ]
    refine takeL (i := 1) rfl (v := ?vr1) (by kernel_rfl) (by kernel_rfl) (by kernel_rfl) (fun _ _ _ h => h) (Or.inl ⟨by rfl, fun _w _hSw => ?hyr1⟩) (by assumption) ?restr1
    case hyr1 =>
      (try dsimp only at _hSw)
      go_simp
      try with_reducible rfl
    try simp only [Act.put, List.setIfInBounds_toArray, List.set_cons_zero, List.set_cons_succ]
    refine takeL (i := 3) rfl (v := ?vr3) (by kernel_rfl) (by kernel_rfl) (by kernel_rfl) (fun _ _ _ h => h) (Or.inl ⟨by rfl, fun _w _hSw => ?hyr3⟩) (by assumption) ?restr3
    case hyr3 =>
      (try dsimp only at _hSw)
      go_simp
      try with_reducible rfl
    try simp only [Act.put, List.setIfInBounds_toArray, List.set_cons_zero, List.set_cons_succ]
    refine takeL (i := 4) rfl (v := ?vr4) (by kernel_rfl) (by kernel_rfl) (by kernel_rfl) (fun _ _ _ h => h) (Or.inl ⟨by rfl, fun _w _hSw => ?hyr4⟩) (by assumption) ?restr4
    case hyr4 =>
      (try dsimp only at _hSw)
      go_simp
      try with_reducible rfl
    try simp only [Act.put, List.setIfInBounds_toArray, List.set_cons_zero, List.set_cons_succ]
    refine wpAnyH_ready (rs := [2, 6, 7]) (by kernel_rfl) (by simp) (readyL rfl (fun K hK => ?_) (readyL rfl (fun K hK => ?_) (readyL rfl (fun K hK => ?_) AllReadyH.nil)))
    ·
      go_simp
      with_reducible refine (K27.out _).mono ?_
      rintro e v1 ⟨rfl, hb⟩
      try dsimp only
      refine hK.out _ _ (stay hH0 hb) (fun hH1 => ?_)
      clear hK K hb hH0
      try simp only [Act.put, List.setIfInBounds_toArray, List.set_cons_zero, List.set_cons_succ]
      refine wpAnyH_ready (rs := [5, 6, 7]) (by kernel_rfl) (by simp) (readyL rfl (fun K hK => ?_) (readyL rfl (fun K hK => ?_) (readyL rfl (fun K hK => ?_) AllReadyH.nil)))
      ·
        go_simp
        with_reducible refine (K28.out _).mono ?_
        rintro e v2 ⟨rfl, hb⟩
        try dsimp only
        refine hK.out _ _ (stay hH1 hb) (fun hH2 => ?_)
        clear hK K hb hH1
        try simp only [Act.put, List.setIfInBounds_toArray, List.set_cons_zero, List.set_cons_succ]
        refine wpAnyH_ready (rs := [6, 7]) (by kernel_rfl) (by simp) (readyL rfl (fun K hK => ?_) (readyL rfl (fun K hK => ?_) AllReadyH.nil))
        ·
          go_simp
          refine hK.out _ _ (stay hH2 (below1 _ _)) (fun hH3 => ?_)
          clear hK K
          have hz7 := hH2.2.size
          have FX7 := LBx.zero v2 rfl
          generalize v2.alloc (.cells #[.int .i64 0, .int .u16 0] 26) = v3 at hH3 FX7 ⊢
          generalize v2.heap.size = b7x at hz7 FX7 ⊢
          try simp only [Act.put, List.setIfInBounds_toArray, List.set_cons_zero, List.set_cons_succ]
          refine wpAnyH_ready (rs := [7]) (by kernel_rfl) (by simp) (readyL rfl (fun K hK => ?_) AllReadyH.nil)
          ·
            go_simp
            refine hK.out _ _ (stay hH3 (below1 _ _)) (fun hH4 => ?_)
            clear hK K
            have hz8 := hH3.2.size
            have FX8 := LBx.zero v3 rfl
            have hn := FX7.1
            have FX7 := FX7.below (below1 v3 (.cells #[.int .i64 0, .int .u16 0] 26))
            generalize v3.alloc (.cells #[.int .i64 0, .int .u16 0] 26) = v4 at hH4 FX8 FX7 ⊢
            generalize v3.heap.size = b8x at hz8 FX8 hn ⊢
            try simp only [Act.put, List.setIfInBounds_toArray, List.set_cons_zero, List.set_cons_succ]
            obtain ⟨y7, d70, d71, f70, f71⟩ := FX7
            obtain ⟨y8, d80, d81, f80, f81⟩ := FX8
            have e78 : b7x ≠ b8x := by omega
            have e87 : b8x ≠ b7x := by omega
            refine wpAnyH_ready (rs := [8]) (by kernel_rfl) (by simp) (readyL rfl (fun K hK => ?_) AllReadyH.nil)
            go_simp
            refine hK.out _ _ (stayOf ((hH4.2.setCell (p := ⟨b7x, 0, none⟩) hz7 _).setCell (p := ⟨b7x, 1, none⟩) hz7 _)) (fun hHa => ?_)
            clear hK K
            try simp only [Act.put, List.setIfInBounds_toArray, List.set_cons_zero, List.set_cons_succ]
            refine wpAnyH_ready (rs := [9]) (by kernel_rfl) (by simp) (readyL rfl (fun K hK => ?_) AllReadyH.nil)
            go_simp
            refine hK.out _ _ (stayOf ((hHa.2.setCell (p := ⟨b8x, 0, none⟩) hz8 _).setCell (p := ⟨b8x, 1, none⟩) hz8 _)) (fun hHb => ?_)
            clear hK K
            try simp only [Act.put, List.setIfInBounds_toArray, List.set_cons_zero, List.set_cons_succ]
            refine wpAnyH_done (by kernel_rfl) ?_ _
            go_wp2_with fail
            go_meet
            case rel =>
              have FX7 : LBx b7x 0 0 v4 := ⟨y7, d70, d71, f70, f71⟩
              have FX8 : LBx b8x 0 0 v4 := ⟨y8, d80, d81, f80, f81⟩
              exact ⟨b7x, b8x, rfl, rfl, HB.out.trans (hHb.2.mono HB.out.size), HX1.out.below hHb.2, HX2.out.below hHb.2, HX3.out.below hHb.2, FX7.store.storeO e78, (FX8.storeO e87).store⟩
        ·
          go_simp
          refine hK.out _ _ (stay hH2 (below1 _ _)) (fun hH5 => ?_)
          clear hK K
          have hz8 := hH2.2.size
          have FX8 := LBx.zero v2 rfl
          generalize v2.alloc (.cells #[.int .i64 0, .int .u16 0] 26) = v5 at hH5 FX8 ⊢
          generalize v2.heap.size = b8x at hz8 FX8 ⊢
          try simp only [Act.put, List.setIfInBounds_toArray, List.set_cons_zero, List.set_cons_succ]
          refine wpAnyH_ready (rs := [6]) (by kernel_rfl) (by simp) (readyL rfl (fun K hK => ?_) AllReadyH.nil)
          ·
            go_simp
            refine hK.out _ _ (stay hH5 (below1 _ _)) (fun hH6 => ?_)
            clear hK K
            have hz7 := hH5.2.size
            have FX7 := LBx.zero v5 rfl
            have hn := FX8.1
            have FX8 := FX8.below (below1 v5 (.cells #[.int .i64 0, .int .u16 0] 26))
            generalize v5.alloc (.cells #[.int .i64 0, .int .u16 0] 26) = v6 at hH6 FX7 FX8 ⊢
            generalize v5.heap.size = b7x at hz7 FX7 hn ⊢
            try simp only [Act.put, List.setIfInBounds_toArray, List.set_cons_zero, List.set_cons_succ]
            obtain ⟨y7, d70, d71, f70, f71⟩ := FX7
            obtain ⟨y8, d80, d81, f80, f81⟩ := FX8
            have e78 : b7x ≠ b8x := by omega
            have e87 : b8x ≠ b7x := by omega
            refine wpAnyH_ready (rs := [8]) (by kernel_rfl) (by simp) (readyL rfl (fun K hK => ?_) AllReadyH.nil)
            go_simp
            refine hK.out _ _ (stayOf ((hH6.2.setCell (p := ⟨b7x, 0, none⟩) hz7 _).setCell (p := ⟨b7x, 1, none⟩) hz7 _)) (fun hHa => ?_)
            clear hK K
            try simp only [Act.put, List.setIfInBounds_toArray, List.set_cons_zero, List.set_cons_succ]
            refine wpAnyH_ready (rs := [9]) (by kernel_rfl) (by simp) (readyL rfl (fun K hK => ?_) AllReadyH.nil)
            go_simp
            refine hK.out _ _ (stayOf ((hHa.2.setCell (p := ⟨b8x, 0, none⟩) hz8 _).setCell (p := ⟨b8x, 1, none⟩) hz8 _)) (fun hHb => ?_)
            clear hK K
            try simp only [Act.put, List.setIfInBounds_toArray, List.set_cons_zero, List.set_cons_succ]
            refine wpAnyH_done (by kernel_rfl) ?_ _
            go_wp2_with fail
            go_meet
            case rel =>
              have FX7 : LBx b7x 0 0 v6 := ⟨y7, d70, d71, f70, f71⟩
              have FX8 : LBx b8x 0 0 v6 := ⟨y8, d80, d81, f80, f81⟩
              exact ⟨b7x, b8x, rfl, rfl, HB.out.trans (hHb.2.mono HB.out.size), HX1.out.below hHb.2, HX2.out.below hHb.2, HX3.out.below hHb.2, FX7.store.storeO e78, (FX8.storeO e87).store⟩
      ·
        go_simp
        refine hK.out _ _ (stay hH1 (below1 _ _)) (fun hH7 => ?_)
        clear hK K
        have hz7 := hH1.2.size
        have FX7 := LBx.zero v1 rfl
        generalize v1.alloc (.cells #[.int .i64 0, .int .u16 0] 26) = v7 at hH7 FX7 ⊢
        generalize v1.heap.size = b7x at hz7 FX7 ⊢
        try simp only [Act.put, List.setIfInBounds_toArray, List.set_cons_zero, List.set_cons_succ]
        refine wpAnyH_ready (rs := [5, 7]) (by kernel_rfl) (by simp) (readyL rfl (fun K hK => ?_) (readyL rfl (fun K hK => ?_) AllReadyH.nil))
        ·
          go_simp
          with_reducible refine (K28.out _).mono ?_
          rintro e v8 ⟨rfl, hb⟩
          try dsimp only
          refine hK.out _ _ (stay hH7 hb) (fun hH8 => ?_)
          have FX7 := FX7.below hb
          clear hK K hb hH7
          try simp only [Act.put, List.setIfInBounds_toArray, List.set_cons_zero, List.set_cons_succ]
          refine wpAnyH_ready (rs := [7]) (by kernel_rfl) (by simp) (readyL rfl (fun K hK => ?_) AllReadyH.nil)
          ·
            go_simp
            refine hK.out _ _ (stay hH8 (below1 _ _)) (fun hH9 => ?_)
            clear hK K
            have hz8 := hH8.2.size
            have FX8 := LBx.zero v8 rfl
            have hn := FX7.1
            have FX7 := FX7.below (below1 v8 (.cells #[.int .i64 0, .int .u16 0] 26))
            generalize v8.alloc (.cells #[.int .i64 0, .int .u16 0] 26) = v9 at hH9 FX8 FX7 ⊢
            generalize v8.heap.size = b8x at hz8 FX8 hn ⊢
            try simp only [Act.put, List.setIfInBounds_toArray, List.set_cons_zero, List.set_cons_succ]
            obtain ⟨y7, d70, d71, f70, f71⟩ := FX7
            obtain ⟨y8, d80, d81, f80, f81⟩ := FX8
            have e78 : b7x ≠ b8x := by omega
            have e87 : b8x ≠ b7x := by omega
            refine wpAnyH_ready (rs := [8]) (by kernel_rfl) (by simp) (readyL rfl (fun K hK => ?_) AllReadyH.nil)
            go_simp
            refine hK.out _ _ (stayOf ((hH9.2.setCell (p := ⟨b7x, 0, none⟩) hz7 _).setCell (p := ⟨b7x, 1, none⟩) hz7 _)) (fun hHa => ?_)
            clear hK K
            try simp only [Act.put, List.setIfInBounds_toArray, List.set_cons_zero, List.set_cons_succ]
            refine wpAnyH_ready (rs := [9]) (by kernel_rfl) (by simp) (readyL rfl (fun K hK => ?_) AllReadyH.nil)
            go_simp
            refine hK.out _ _ (stayOf ((hHa.2.setCell (p := ⟨b8x, 0, none⟩) hz8 _).setCell (p := ⟨b8x, 1, none⟩) hz8 _)) (fun hHb => ?_)
            clear hK K
            try simp only [Act.put, List.setIfInBounds_toArray, List.set_cons_zero, List.set_cons_succ]
            refine wpAnyH_done (by kernel_rfl) ?_ _
            go_wp2_with fail
            go_meet
            case rel =>
              have FX7 : LBx b7x 0 0 v9 := ⟨y7, d70, d71, f70, f71⟩
              have FX8 : LBx b8x 0 0 v9 := ⟨y8, d80, d81, f80, f81⟩
              exact ⟨b7x, b8x, rfl, rfl, HB.out.trans (hHb.2.mono HB.out.size), HX1.out.below hHb.2, HX2.out.below hHb.2, HX3.out.below hHb.2, FX7.store.storeO e78, (FX8.storeO e87).store⟩
        ·
          go_simp
          refine hK.out _ _ (stay hH7 (below1 _ _)) (fun hH10 => ?_)
          clear hK K
          have hz8 := hH7.2.size
          have FX8 := LBx.zero v7 rfl
          have hn := FX7.1
          have FX7 := FX7.below (below1 v7 (.cells #[.int .i64 0, .int .u16 0] 26))
          generalize v7.alloc (.cells #[.int .i64 0, .int .u16 0] 26) = v10 at hH10 FX8 FX7 ⊢
          generalize v7.heap.size = b8x at hz8 FX8 hn ⊢
          try simp only [Act.put, List.setIfInBounds_toArray, List.set_cons_zero, List.set_cons_succ]
          refine wpAnyH_ready (rs := [5]) (by kernel_rfl) (by simp) (readyL rfl (fun K hK => ?_) AllReadyH.nil)
          ·
            go_simp
            with_reducible refine (K28.out _).mono ?_
            rintro e v11 ⟨rfl, hb⟩
            try dsimp only
            refine hK.out _ _ (stay hH10 hb) (fun hH11 => ?_)
            have FX7 := FX7.below hb
            have FX8 := FX8.below hb
            clear hK K hb hH10
            try simp only [Act.put, List.setIfInBounds_toArray, List.set_cons_zero, List.set_cons_succ]
            obtain ⟨y7, d70, d71, f70, f71⟩ := FX7
            obtain ⟨y8, d80, d81, f80, f81⟩ := FX8
            have e78 : b7x ≠ b8x := by omega
            have e87 : b8x ≠ b7x := by omega
            refine wpAnyH_ready (rs := [8]) (by kernel_rfl) (by simp) (readyL rfl (fun K hK => ?_) AllReadyH.nil)
            go_simp
            refine hK.out _ _ (stayOf ((hH11.2.setCell (p := ⟨b7x, 0, none⟩) hz7 _).setCell (p := ⟨b7x, 1, none⟩) hz7 _)) (fun hHa => ?_)
            clear hK K
            try simp only [Act.put, List.setIfInBounds_toArray, List.set_cons_zero, List.set_cons_succ]
            refine wpAnyH_ready (rs := [9]) (by kernel_rfl) (by simp) (readyL rfl (fun K hK => ?_) AllReadyH.nil)
            go_simp
            refine hK.out _ _ (stayOf ((hHa.2.setCell (p := ⟨b8x, 0, none⟩) hz8 _).setCell (p := ⟨b8x, 1, none⟩) hz8 _)) (fun hHb => ?_)
            clear hK K
            try simp only [Act.put, List.setIfInBounds_toArray, List.set_cons_zero, List.set_cons_succ]
            refine wpAnyH_done (by kernel_rfl) ?_ _
            go_wp2_with fail
            go_meet
            case rel =>
              have FX7 : LBx b7x 0 0 v11 := ⟨y7, d70, d71, f70, f71⟩
              have FX8 : LBx b8x 0 0 v11 := ⟨y8, d80, d81, f80, f81⟩
              exact ⟨b7x, b8x, rfl, rfl, HB.out.trans (hHb.2.mono HB.out.size), HX1.out.below hHb.2, HX2.out.below hHb.2, HX3.out.below hHb.2, FX7.store.storeO e78, (FX8.storeO e87).store⟩
      ·
        go_simp
        refine hK.out _ _ (stay hH1 (below1 _ _)) (fun hH12 => ?_)
        clear hK K
        have hz8 := hH1.2.size
        have FX8 := LBx.zero v1 rfl
        generalize v1.alloc (.cells #[.int .i64 0, .int .u16 0] 26) = v12 at hH12 FX8 ⊢
        generalize v1.heap.size = b8x at hz8 FX8 ⊢
        try simp only [Act.put, List.setIfInBounds_toArray, List.set_cons_zero, List.set_cons_succ]
        refine wpAnyH_ready (rs := [5, 6]) (by kernel_rfl) (by simp) (readyL rfl (fun K hK => ?_) (readyL rfl (fun K hK => ?_) AllReadyH.nil))
        ·
          go_simp
          with_reducible refine (K28.out _).mono ?_
          rintro e v13 ⟨rfl, hb⟩
          try dsimp only
          refine hK.out _ _ (stay hH12 hb) (fun hH13 => ?_)
          have FX8 := FX8.below hb
          clear hK K hb hH12
          try simp only [Act.put, List.setIfInBounds_toArray, List.set_cons_zero, List.set_cons_succ]
          refine wpAnyH_ready (rs := [6]) (by kernel_rfl) (by simp) (readyL rfl (fun K hK => ?_) AllReadyH.nil)
          ·
            go_simp
            refine hK.out _ _ (stay hH13 (below1 _ _)) (fun hH14 => ?_)
            clear hK K
            have hz7 := hH13.2.size
            have FX7 := LBx.zero v13 rfl
            have hn := FX8.1
            have FX8 := FX8.below (below1 v13 (.cells #[.int .i64 0, .int .u16 0] 26))
            generalize v13.alloc (.cells #[.int .i64 0, .int .u16 0] 26) = v14 at hH14 FX7 FX8 ⊢
            generalize v13.heap.size = b7x at hz7 FX7 hn ⊢
            try simp only [Act.put, List.setIfInBounds_toArray, List.set_cons_zero, List.set_cons_succ]
            obtain ⟨y7, d70, d71, f70, f71⟩ := FX7
            obtain ⟨y8, d80, d81, f80, f81⟩ := FX8
            have e78 : b7x ≠ b8x := by omega
            have e87 : b8x ≠ b7x := by omega
            refine wpAnyH_ready (rs := [8]) (by kernel_rfl) (by simp) (readyL rfl (fun K hK => ?_) AllReadyH.nil)
            go_simp
            refine hK.out _ _ (stayOf ((hH14.2.setCell (p := ⟨b7x, 0, none⟩) hz7 _).setCell (p := ⟨b7x, 1, none⟩) hz7 _)) (fun hHa => ?_)
            clear hK K
            try simp only [Act.put, List.setIfInBounds_toArray, List.set_cons_zero, List.set_cons_succ]
            refine wpAnyH_ready (rs := [9]) (by kernel_rfl) (by simp) (readyL rfl (fun K hK => ?_) AllReadyH.nil)
            go_simp
            refine hK.out _ _ (stayOf ((hHa.2.setCell (p := ⟨b8x, 0, none⟩) hz8 _).setCell (p := ⟨b8x, 1, none⟩) hz8 _)) (fun hHb => ?_)
            clear hK K
            try simp only [Act.put, List.setIfInBounds_toArray, List.set_cons_zero, List.set_cons_succ]
            refine wpAnyH_done (by kernel_rfl) ?_ _
            go_wp2_with fail
            go_meet
            case rel =>
              have FX7 : LBx b7x 0 0 v14 := ⟨y7, d70, d71, f70, f71⟩
              have FX8 : LBx b8x 0 0 v14 := ⟨y8, d80, d81, f80, f81⟩
              exact ⟨b7x, b8x, rfl, rfl, HB.out.trans (hHb.2.mono HB.out.size), HX1.out.below hHb.2, HX2.out.below hHb.2, HX3.out.below hHb.2, FX7.store.storeO e78, (FX8.storeO e87).store⟩
        ·
          go_simp
          refine hK.out _ _ (stay hH12 (below1 _ _)) (fun hH15 => ?_)
          clear hK K
          have hz7 := hH12.2.size
          have FX7 := LBx.zero v12 rfl
          have hn := FX8.1
          have FX8 := FX8.below (below1 v12 (.cells #[.int .i64 0, .int .u16 0] 26))
          generalize v12.alloc (.cells #[.int .i64 0, .int .u16 0] 26) = v15 at hH15 FX7 FX8 ⊢
          generalize v12.heap.size = b7x at hz7 FX7 hn ⊢
          try simp only [Act.put, List.setIfInBounds_toArray, List.set_cons_zero, List.set_cons_succ]
          refine wpAnyH_ready (rs := [5]) (by kernel_rfl) (by simp) (readyL rfl (fun K hK => ?_) AllReadyH.nil)
          ·
            go_simp
            with_reducible refine (K28.out _).mono ?_
            rintro e v16 ⟨rfl, hb⟩
            try dsimp only
            refine hK.out _ _ (stay hH15 hb) (fun hH16 => ?_)
            have FX7 := FX7.below hb
            have FX8 := FX8.below hb
            clear hK K hb hH15
            try simp only [Act.put, List.setIfInBounds_toArray, List.set_cons_zero, List.set_cons_succ]
            obtain ⟨y7, d70, d71, f70, f71⟩ := FX7
            obtain ⟨y8, d80, d81, f80, f81⟩ := FX8
            have e78 : b7x ≠ b8x := by omega
            have e87 : b8x ≠ b7x := by omega
            refine wpAnyH_ready (rs := [8]) (by kernel_rfl) (by simp) (readyL rfl (fun K hK => ?_) AllReadyH.nil)
            go_simp
            refine hK.out _ _ (stayOf ((hH16.2.setCell (p := ⟨b7x, 0, none⟩) hz7 _).setCell (p := ⟨b7x, 1, none⟩) hz7 _)) (fun hHa => ?_)
            clear hK K
            try simp only [Act.put, List.setIfInBounds_toArray, List.set_cons_zero, List.set_cons_succ]
            refine wpAnyH_ready (rs := [9]) (by kernel_rfl) (by simp) (readyL rfl (fun K hK => ?_) AllReadyH.nil)
            go_simp
            refine hK.out _ _ (stayOf ((hHa.2.setCell (p := ⟨b8x, 0, none⟩) hz8 _).setCell (p := ⟨b8x, 1, none⟩) hz8 _)) (fun hHb => ?_)
            clear hK K
            try simp only [Act.put, List.setIfInBounds_toArray, List.set_cons_zero, List.set_cons_succ]
            refine wpAnyH_done (by kernel_rfl) ?_ _
            go_wp2_with fail
            go_meet
            case rel =>
              have FX7 : LBx b7x 0 0 v16 := ⟨y7, d70, d71, f70, f71⟩
              have FX8 : LBx b8x 0 0 v16 := ⟨y8, d80, d81, f80, f81⟩
              exact ⟨b7x, b8x, rfl, rfl, HB.out.trans (hHb.2.mono HB.out.size), HX1.out.below hHb.2, HX2.out.below hHb.2, HX3.out.below hHb.2, FX7.store.storeO e78, (FX8.storeO e87).store⟩
    ·
      go_simp
      refine hK.out _ _ (stay hH0 (below1 _ _)) (fun hH17 => ?_)
      clear hK K
      have hz7 := hH0.2.size
      have FX7 := LBx.zero v0 rfl
      generalize v0.alloc (.cells #[.int .i64 0, .int .u16 0] 26) = v17 at hH17 FX7 ⊢
      generalize v0.heap.size = b7x at hz7 FX7 ⊢
      try simp only [Act.put, List.setIfInBounds_toArray, List.set_cons_zero, List.set_cons_succ]
      refine wpAnyH_ready (rs := [2, 7]) (by kernel_rfl) (by simp) (readyL rfl (fun K hK => ?_) (readyL rfl (fun K hK => ?_) AllReadyH.nil))
      ·
        go_simp
        with_reducible refine (K27.out _).mono ?_
        rintro e v18 ⟨rfl, hb⟩
        try dsimp only
        refine hK.out _ _ (stay hH17 hb) (fun hH18 => ?_)
        have FX7 := FX7.below hb
        clear hK K hb hH17
        try simp only [Act.put, List.setIfInBounds_toArray, List.set_cons_zero, List.set_cons_succ]
        refine wpAnyH_ready (rs := [5, 7]) (by kernel_rfl) (by simp) (readyL rfl (fun K hK => ?_) (readyL rfl (fun K hK => ?_) AllReadyH.nil))
        ·
          go_simp
          with_reducible refine (K28.out _).mono ?_
          rintro e v19 ⟨rfl, hb⟩
          try dsimp only
          refine hK.out _ _ (stay hH18 hb) (fun hH19 => ?_)
          have FX7 := FX7.below hb
          clear hK K hb hH18
          try simp only [Act.put, List.setIfInBounds_toArray, List.set_cons_zero, List.set_cons_succ]
          refine wpAnyH_ready (rs := [7]) (by kernel_rfl) (by simp) (readyL rfl (fun K hK => ?_) AllReadyH.nil)
          ·
            go_simp
            refine hK.out _ _ (stay hH19 (below1 _ _)) (fun hH20 => ?_)
            clear hK K
            have hz8 := hH19.2.size
            have FX8 := LBx.zero v19 rfl
            have hn := FX7.1
            have FX7 := FX7.below (below1 v19 (.cells #[.int .i64 0, .int .u16 0] 26))
            generalize v19.alloc (.cells #[.int .i64 0, .int .u16 0] 26) = v20 at hH20 FX8 FX7 ⊢
            generalize v19.heap.size = b8x at hz8 FX8 hn ⊢
            try simp only [Act.put, List.setIfInBounds_toArray, List.set_cons_zero, List.set_cons_succ]
            obtain ⟨y7, d70, d71, f70, f71⟩ := FX7
            obtain ⟨y8, d80, d81, f80, f81⟩ := FX8
            have e78 : b7x ≠ b8x := by omega
            have e87 : b8x ≠ b7x := by omega
            refine wpAnyH_ready (rs := [8]) (by kernel_rfl) (by simp) (readyL rfl (fun K hK => ?_) AllReadyH.nil)
            go_simp
            refine hK.out _ _ (stayOf ((hH20.2.setCell (p := ⟨b7x, 0, none⟩) hz7 _).setCell (p := ⟨b7x, 1, none⟩) hz7 _)) (fun hHa => ?_)
            clear hK K
            try simp only [Act.put, List.setIfInBounds_toArray, List.set_cons_zero, List.set_cons_succ]
            refine wpAnyH_ready (rs := [9]) (by kernel_rfl) (by simp) (readyL rfl (fun K hK => ?_) AllReadyH.nil)
            go_simp
            refine hK.out _ _ (stayOf ((hHa.2.setCell (p := ⟨b8x, 0, none⟩) hz8 _).setCell (p := ⟨b8x, 1, none⟩) hz8 _)) (fun hHb => ?_)
            clear hK K
            try simp only [Act.put, List.setIfInBounds_toArray, List.set_cons_zero, List.set_cons_succ]
            refine wpAnyH_done (by kernel_rfl) ?_ _
            go_wp2_with fail
            go_meet
            case rel =>
              have FX7 : LBx b7x 0 0 v20 := ⟨y7, d70, d71, f70, f71⟩
              have FX8 : LBx b8x 0 0 v20 := ⟨y8, d80, d81, f80, f81⟩
              exact ⟨b7x, b8x, rfl, rfl, HB.out.trans (hHb.2.mono HB.out.size), HX1.out.below hHb.2, HX2.out.below hHb.2, HX3.out.below hHb.2, FX7.store.storeO e78, (FX8.storeO e87).store⟩
        ·
          go_simp
          refine hK.out _ _ (stay hH18 (below1 _ _)) (fun hH21 => ?_)
          clear hK K
          have hz8 := hH18.2.size
          have FX8 := LBx.zero v18 rfl
          have hn := FX7.1
          have FX7 := FX7.below (below1 v18 (.cells #[.int .i64 0, .int .u16 0] 26))
          generalize v18.alloc (.cells #[.int .i64 0, .int .u16 0] 26) = v21 at hH21 FX8 FX7 ⊢
          generalize v18.heap.size = b8x at hz8 FX8 hn ⊢
          try simp only [Act.put, List.setIfInBounds_toArray, List.set_cons_zero, List.set_cons_succ]
          refine wpAnyH_ready (rs := [5]) (by kernel_rfl) (by simp) (readyL rfl (fun K hK => ?_) AllReadyH.nil)
          ·
            go_simp
            with_reducible refine (K28.out _).mono ?_
            rintro e v22 ⟨rfl, hb⟩
            try dsimp only
            refine hK.out _ _ (stay hH21 hb) (fun hH22 => ?_)
            have FX7 := FX7.below hb
            have FX8 := FX8.below hb
            clear hK K hb hH21
            try simp only [Act.put, List.setIfInBounds_toArray, List.set_cons_zero, List.set_cons_succ]
            obtain ⟨y7, d70, d71, f70, f71⟩ := FX7
            obtain ⟨y8, d80, d81, f80, f81⟩ := FX8
            have e78 : b7x ≠ b8x := by omega
            have e87 : b8x ≠ b7x := by omega
            refine wpAnyH_ready (rs := [8]) (by kernel_rfl) (by simp) (readyL rfl (fun K hK => ?_) AllReadyH.nil)
            go_simp
            refine hK.out _ _ (stayOf ((hH22.2.setCell (p := ⟨b7x, 0, none⟩) hz7 _).setCell (p := ⟨b7x, 1, none⟩) hz7 _)) (fun hHa => ?_)
            clear hK K
            try simp only [Act.put, List.setIfInBounds_toArray, List.set_cons_zero, List.set_cons_succ]
            refine wpAnyH_ready (rs := [9]) (by kernel_rfl) (by simp) (readyL rfl (fun K hK => ?_) AllReadyH.nil)
            go_simp
            refine hK.out _ _ (stayOf ((hHa.2.setCell (p := ⟨b8x, 0, none⟩) hz8 _).setCell (p := ⟨b8x, 1, none⟩) hz8 _)) (fun hHb => ?_)
            clear hK K
            try simp only [Act.put, List.setIfInBounds_toArray, List.set_cons_zero, List.set_cons_succ]
            refine wpAnyH_done (by kernel_rfl) ?_ _
            go_wp2_with fail
            go_meet
            case rel =>
              have FX7 : LBx b7x 0 0 v22 := ⟨y7, d70, d71, f70, f71⟩
              have FX8 : LBx b8x 0 0 v22 := ⟨y8, d80, d81, f80, f81⟩
              exact ⟨b7x, b8x, rfl, rfl, HB.out.trans (hHb.2.mono HB.out.size), HX1.out.below hHb.2, HX2.out.below hHb.2, HX3.out.below hHb.2, FX7.store.storeO e78, (FX8.storeO e87).store⟩
      ·
        go_simp
        refine hK.out _ _ (stay hH17 (below1 _ _)) (fun hH23 => ?_)
        clear hK K
        have hz8 := hH17.2.size
        have FX8 := LBx.zero v17 rfl
        have hn := FX7.1
        have FX7 := FX7.below (below1 v17 (.cells #[.int .i64 0, .int .u16 0] 26))
        generalize v17.alloc (.cells #[.int .i64 0, .int .u16 0] 26) = v23 at hH23 FX8 FX7 ⊢
        generalize v17.heap.size = b8x at hz8 FX8 hn ⊢
        try simp only [Act.put, List.setIfInBounds_toArray, List.set_cons_zero, List.set_cons_succ]
        refine wpAnyH_ready (rs := [2]) (by kernel_rfl) (by simp) (readyL rfl (fun K hK => ?_) AllReadyH.nil)
        ·
          go_simp
          with_reducible refine (K27.out _).mono ?_
          rintro e v24 ⟨rfl, hb⟩
          try dsimp only
          refine hK.out _ _ (stay hH23 hb) (fun hH24 => ?_)
          have FX7 := FX7.below hb
          have FX8 := FX8.below hb
          clear hK K hb hH23
          try simp only [Act.put, List.setIfInBounds_toArray, List.set_cons_zero, List.set_cons_succ]
          refine wpAnyH_ready (rs := [5]) (by kernel_rfl) (by simp) (readyL rfl (fun K hK => ?_) AllReadyH.nil)
          ·
            go_simp
            with_reducible refine (K28.out _).mono ?_
            rintro e v25 ⟨rfl, hb⟩
            try dsimp only
            refine hK.out _ _ (stay hH24 hb) (fun hH25 => ?_)
            have FX7 := FX7.below hb
            have FX8 := FX8.below hb
            clear hK K hb hH24
            try simp only [Act.put, List.setIfInBounds_toArray, List.set_cons_zero, List.set_cons_succ]
            obtain ⟨y7, d70, d71, f70, f71⟩ := FX7
            obtain ⟨y8, d80, d81, f80, f81⟩ := FX8
            have e78 : b7x ≠ b8x := by omega
            have e87 : b8x ≠ b7x := by omega
            refine wpAnyH_ready (rs := [8]) (by kernel_rfl) (by simp) (readyL rfl (fun K hK => ?_) AllReadyH.nil)
            go_simp
            refine hK.out _ _ (stayOf ((hH25.2.setCell (p := ⟨b7x, 0, none⟩) hz7 _).setCell (p := ⟨b7x, 1, none⟩) hz7 _)) (fun hHa => ?_)
            clear hK K
            try simp only [Act.put, List.setIfInBounds_toArray, List.set_cons_zero, List.set_cons_succ]
            refine wpAnyH_ready (rs := [9]) (by kernel_rfl) (by simp) (readyL rfl (fun K hK => ?_) AllReadyH.nil)
            go_simp
            refine hK.out _ _ (stayOf ((hHa.2.setCell (p := ⟨b8x, 0, none⟩) hz8 _).setCell (p := ⟨b8x, 1, none⟩) hz8 _)) (fun hHb => ?_)
            clear hK K
            try simp only [Act.put, List.setIfInBounds_toArray, List.set_cons_zero, List.set_cons_succ]
            refine wpAnyH_done (by kernel_rfl) ?_ _
            go_wp2_with fail
            go_meet
            case rel =>
              have FX7 : LBx b7x 0 0 v25 := ⟨y7, d70, d71, f70, f71⟩
              have FX8 : LBx b8x 0 0 v25 := ⟨y8, d80, d81, f80, f81⟩
              exact ⟨b7x, b8x, rfl, rfl, HB.out.trans (hHb.2.mono HB.out.size), HX1.out.below hHb.2, HX2.out.below hHb.2, HX3.out.below hHb.2, FX7.store.storeO e78, (FX8.storeO e87).store⟩
    ·
      go_simp
      refine hK.out _ _ (stay hH0 (below1 _ _)) (fun hH26 => ?_)
      clear hK K
      have hz8 := hH0.2.size
      have FX8 := LBx.zero v0 rfl
      generalize v0.alloc (.cells #[.int .i64 0, .int .u16 0] 26) = v26 at hH26 FX8 ⊢
      generalize v0.heap.size = b8x at hz8 FX8 ⊢
      try simp only [Act.put, List.setIfInBounds_toArray, List.set_cons_zero, List.set_cons_succ]
      refine wpAnyH_ready (rs := [2, 6]) (by kernel_rfl) (by simp) (readyL rfl (fun K hK => ?_) (readyL rfl (fun K hK => ?_) AllReadyH.nil))
      ·
        go_simp
        with_reducible refine (K27.out _).mono ?_
        rintro e v27 ⟨rfl, hb⟩
        try dsimp only
        refine hK.out _ _ (stay hH26 hb) (fun hH27 => ?_)
        have FX8 := FX8.below hb
        clear hK K hb hH26
        try simp only [Act.put, List.setIfInBounds_toArray, List.set_cons_zero, List.set_cons_succ]
        refine wpAnyH_ready (rs := [5, 6]) (by kernel_rfl) (by simp) (readyL rfl (fun K hK => ?_) (readyL rfl (fun K hK => ?_) AllReadyH.nil))
        ·
          go_simp
          with_reducible refine (K28.out _).mono ?_
          rintro e v28 ⟨rfl, hb⟩
          try dsimp only
          refine hK.out _ _ (stay hH27 hb) (fun hH28 => ?_)
          have FX8 := FX8.below hb
          clear hK K hb hH27
          try simp only [Act.put, List.setIfInBounds_toArray, List.set_cons_zero, List.set_cons_succ]
          refine wpAnyH_ready (rs := [6]) (by kernel_rfl) (by simp) (readyL rfl (fun K hK => ?_) AllReadyH.nil)
          ·
            go_simp
            refine hK.out _ _ (stay hH28 (below1 _ _)) (fun hH29 => ?_)
            clear hK K
            have hz7 := hH28.2.size
            have FX7 := LBx.zero v28 rfl
            have hn := FX8.1
            have FX8 := FX8.below (below1 v28 (.cells #[.int .i64 0, .int .u16 0] 26))
            generalize v28.alloc (.cells #[.int .i64 0, .int .u16 0] 26) = v29 at hH29 FX7 FX8 ⊢
            generalize v28.heap.size = b7x at hz7 FX7 hn ⊢
            try simp only [Act.put, List.setIfInBounds_toArray, List.set_cons_zero, List.set_cons_succ]
            obtain ⟨y7, d70, d71, f70, f71⟩ := FX7
            obtain ⟨y8, d80, d81, f80, f81⟩ := FX8
            have e78 : b7x ≠ b8x := by omega
            have e87 : b8x ≠ b7x := by omega
            refine wpAnyH_ready (rs := [8]) (by kernel_rfl) (by simp) (readyL rfl (fun K hK => ?_) AllReadyH.nil)
            go_simp
            refine hK.out _ _ (stayOf ((hH29.2.setCell (p := ⟨b7x, 0, none⟩) hz7 _).setCell (p := ⟨b7x, 1, none⟩) hz7 _)) (fun hHa => ?_)
            clear hK K
            try simp only [Act.put, List.setIfInBounds_toArray, List.set_cons_zero, List.set_cons_succ]
            refine wpAnyH_ready (rs := [9]) (by kernel_rfl) (by simp) (readyL rfl (fun K hK => ?_) AllReadyH.nil)
            go_simp
            refine hK.out _ _ (stayOf ((hHa.2.setCell (p := ⟨b8x, 0, none⟩) hz8 _).setCell (p := ⟨b8x, 1, none⟩) hz8 _)) (fun hHb => ?_)
            clear hK K
            try simp only [Act.put, List.setIfInBounds_toArray, List.set_cons_zero, List.set_cons_succ]
            refine wpAnyH_done (by kernel_rfl) ?_ _
            go_wp2_with fail
            go_meet
            case rel =>
              have FX7 : LBx b7x 0 0 v29 := ⟨y7, d70, d71, f70, f71⟩
              have FX8 : LBx b8x 0 0 v29 := ⟨y8, d80, d81, f80, f81⟩
              exact ⟨b7x, b8x, rfl, rfl, HB.out.trans (hHb.2.mono HB.out.size), HX1.out.below hHb.2, HX2.out.below hHb.2, HX3.out.below hHb.2, FX7.store.storeO e78, (FX8.storeO e87).store⟩
        ·
          go_simp
          refine hK.out _ _ (stay hH27 (below1 _ _)) (fun hH30 => ?_)
          clear hK K
          have hz7 := hH27.2.size
          have FX7 := LBx.zero v27 rfl
          have hn := FX8.1
          have FX8 := FX8.below (below1 v27 (.cells #[.int .i64 0, .int .u16 0] 26))
          generalize v27.alloc (.cells #[.int .i64 0, .int .u16 0] 26) = v30 at hH30 FX7 FX8 ⊢
          generalize v27.heap.size = b7x at hz7 FX7 hn ⊢
          try simp only [Act.put, List.setIfInBounds_toArray, List.set_cons_zero, List.set_cons_succ]
          refine wpAnyH_ready (rs := [5]) (by kernel_rfl) (by simp) (readyL rfl (fun K hK => ?_) AllReadyH.nil)
          ·
            go_simp
            with_reducible refine (K28.out _).mono ?_
            rintro e v31 ⟨rfl, hb⟩
            try dsimp only
            refine hK.out _ _ (stay hH30 hb) (fun hH31 => ?_)
            have FX7 := FX7.below hb
            have FX8 := FX8.below hb
            clear hK K hb hH30
            try simp only [Act.put, List.setIfInBounds_toArray, List.set_cons_zero, List.set_cons_succ]
            obtain ⟨y7, d70, d71, f70, f71⟩ := FX7
            obtain ⟨y8, d80, d81, f80, f81⟩ := FX8
            have e78 : b7x ≠ b8x := by omega
            have e87 : b8x ≠ b7x := by omega
            refine wpAnyH_ready (rs := [8]) (by kernel_rfl) (by simp) (readyL rfl (fun K hK => ?_) AllReadyH.nil)
            go_simp
            refine hK.out _ _ (stayOf ((hH31.2.setCell (p := ⟨b7x, 0, none⟩) hz7 _).setCell (p := ⟨b7x, 1, none⟩) hz7 _)) (fun hHa => ?_)
            clear hK K
            try simp only [Act.put, List.setIfInBounds_toArray, List.set_cons_zero, List.set_cons_succ]
            refine wpAnyH_ready (rs := [9]) (by kernel_rfl) (by simp) (readyL rfl (fun K hK => ?_) AllReadyH.nil)
            go_simp
            refine hK.out _ _ (stayOf ((hHa.2.setCell (p := ⟨b8x, 0, none⟩) hz8 _).setCell (p := ⟨b8x, 1, none⟩) hz8 _)) (fun hHb => ?_)
            clear hK K
            try simp only [Act.put, List.setIfInBounds_toArray, List.set_cons_zero, List.set_cons_succ]
            refine wpAnyH_done (by kernel_rfl) ?_ _
            go_wp2_with fail
            go_meet
            case rel =>
              have FX7 : LBx b7x 0 0 v31 := ⟨y7, d70, d71, f70, f71⟩
              have FX8 : LBx b8x 0 0 v31 := ⟨y8, d80, d81, f80, f81⟩
              exact ⟨b7x, b8x, rfl, rfl, HB.out.trans (hHb.2.mono HB.out.size), HX1.out.below hHb.2, HX2.out.below hHb.2, HX3.out.below hHb.2, FX7.store.storeO e78, (FX8.storeO e87).store⟩
      ·
        go_simp
        refine hK.out _ _ (stay hH26 (below1 _ _)) (fun hH32 => ?_)
        clear hK K
        have hz7 := hH26.2.size
        have FX7 := LBx.zero v26 rfl
        have hn := FX8.1
        have FX8 := FX8.below (below1 v26 (.cells #[.int .i64 0, .int .u16 0] 26))
        generalize v26.alloc (.cells #[.int .i64 0, .int .u16 0] 26) = v32 at hH32 FX7 FX8 ⊢
        generalize v26.heap.size = b7x at hz7 FX7 hn ⊢
        try simp only [Act.put, List.setIfInBounds_toArray, List.set_cons_zero, List.set_cons_succ]
        refine wpAnyH_ready (rs := [2]) (by kernel_rfl) (by simp) (readyL rfl (fun K hK => ?_) AllReadyH.nil)
        ·
          go_simp
          with_reducible refine (K27.out _).mono ?_
          rintro e v33 ⟨rfl, hb⟩
          try dsimp only
          refine hK.out _ _ (stay hH32 hb) (fun hH33 => ?_)
          have FX7 := FX7.below hb
          have FX8 := FX8.below hb
          clear hK K hb hH32
          try simp only [Act.put, List.setIfInBounds_toArray, List.set_cons_zero, List.set_cons_succ]
          refine wpAnyH_ready (rs := [5]) (by kernel_rfl) (by simp) (readyL rfl (fun K hK => ?_) AllReadyH.nil)
          ·
            go_simp
            with_reducible refine (K28.out _).mono ?_
            rintro e v34 ⟨rfl, hb⟩
            try dsimp only
            refine hK.out _ _ (stay hH33 hb) (fun hH34 => ?_)
            have FX7 := FX7.below hb
            have FX8 := FX8.below hb
            clear hK K hb hH33
            try simp only [Act.put, List.setIfInBounds_toArray, List.set_cons_zero, List.set_cons_succ]
            obtain ⟨y7, d70, d71, f70, f71⟩ := FX7
            obtain ⟨y8, d80, d81, f80, f81⟩ := FX8
            have e78 : b7x ≠ b8x := by omega
            have e87 : b8x ≠ b7x := by omega
            refine wpAnyH_ready (rs := [8]) (by kernel_rfl) (by simp) (readyL rfl (fun K hK => ?_) AllReadyH.nil)
            go_simp
            refine hK.out _ _ (stayOf ((hH34.2.setCell (p := ⟨b7x, 0, none⟩) hz7 _).setCell (p := ⟨b7x, 1, none⟩) hz7 _)) (fun hHa => ?_)
            clear hK K
            try simp only [Act.put, List.setIfInBounds_toArray, List.set_cons_zero, List.set_cons_succ]
            refine wpAnyH_ready (rs := [9]) (by kernel_rfl) (by simp) (readyL rfl (fun K hK => ?_) AllReadyH.nil)
            go_simp
            refine hK.out _ _ (stayOf ((hHa.2.setCell (p := ⟨b8x, 0, none⟩) hz8 _).setCell (p := ⟨b8x, 1, none⟩) hz8 _)) (fun hHb => ?_)
            clear hK K
            try simp only [Act.put, List.setIfInBounds_toArray, List.set_cons_zero, List.set_cons_succ]
            refine wpAnyH_done (by kernel_rfl) ?_ _
            go_wp2_with fail
            go_meet
            case rel =>
              have FX7 : LBx b7x 0 0 v34 := ⟨y7, d70, d71, f70, f71⟩
              have FX8 : LBx b8x 0 0 v34 := ⟨y8, d80, d81, f80, f81⟩
              exact ⟨b7x, b8x, rfl, rfl, HB.out.trans (hHb.2.mono HB.out.size), HX1.out.below hHb.2, HX2.out.below hHb.2, HX3.out.below hHb.2, FX7.store.storeO e78, (FX8.storeO e87).store⟩
  case rest =>
    obtain ⟨bj, bm, rfl, rfl, hR⟩ := hcut
    have HR := Lib.hid hR
    clear hR HB HX1 HX2 HX3 c10 c11 c20 c21 c30 c31 z1 z2 z3
    obtain ⟨_, ⟨z1, c10, c11, _, _⟩, ⟨z2, c20, c21, _, _⟩, ⟨z3, c30, c31, _, _⟩, ⟨z4, c40, c41, _, _⟩, ⟨z5, c50, c51, _, _⟩⟩ := HR.out
    go_upto_region 2 with fail
    go_cut [55] (fun s55 wx => s55 = .bool false ∧ LatAt w b1 b2 b3 bj bm a b c jl ml x y u jx mx wx)
    case first =>
      go_wp2_with fail
      clear c10 c11 c20 c21 c30 c31 c40 c41 c50 c51 z1 z2 z3 z4 z5
      refine (awake01 _ (HM.out.below HR.out.1)).mono ?_
      rintro e wn ⟨rfl, hb⟩
      have HR := Lib.hid (HR.out.next hb)
      clear hb
      obtain ⟨_, ⟨z1, c10, c11, _, _⟩, ⟨z2, c20, c21, _, _⟩, ⟨z3, c30, c31, _, _⟩, ⟨z4, c40, c41, _, _⟩, ⟨z5, c50, c51, _, _⟩⟩ := HR.out
      go_wp2_with fail
      clear c10 c11 c20 c21 c30 c31 c40 c41 c50 c51 z1 z2 z3 z4 z5
      refine (KAA.out _).mono ?_
      rintro e wn ⟨rfl, hb⟩
      have HR := Lib.hid (HR.out.next hb)
      clear hb
      obtain ⟨_, ⟨z1, c10, c11, _, _⟩, ⟨z2, c20, c21, _, _⟩, ⟨z3, c30, c31, _, _⟩, ⟨z4, c40, c41, _, _⟩, ⟨z5, c50, c51, _, _⟩⟩ := HR.out
      go_wp2_with fail
      clear c10 c11 c20 c21 c30 c31 c40 c41 c50 c51 z1 z2 z3 z4 z5
      refine (KP.out _).mono ?_
      rintro e wn ⟨rfl, hb⟩
      have HR := Lib.hid (HR.out.next hb)
      clear hb
      obtain ⟨_, ⟨z1, c10, c11, _, _⟩, ⟨z2, c20, c21, _, _⟩, ⟨z3, c30, c31, _, _⟩, ⟨z4, c40, c41, _, _⟩, ⟨z5, c50, c51, _, _⟩⟩ := HR.out
      cases p with
      | false =>
        go_wp2_with fail
        clear c10 c11 c20 c21 c30 c31 c40 c41 c50 c51 z1 z2 z3 z4 z5
        refine (KP.out _).mono ?_
        rintro e wn ⟨rfl, hb⟩
        have HR := Lib.hid (HR.out.next hb)
        clear hb
        obtain ⟨_, ⟨z1, c10, c11, _, _⟩, ⟨z2, c20, c21, _, _⟩, ⟨z3, c30, c31, _, _⟩, ⟨z4, c40, c41, _, _⟩, ⟨z5, c50, c51, _, _⟩⟩ := HR.out
        go_wp2_with fail
        go_meet
        case rel => exact ⟨rfl, HR.out⟩
      | true =>
        go_wp2_with fail
        clear c10 c11 c20 c21 c30 c31 c40 c41 c50 c51 z1 z2 z3 z4 z5
        refine (KQ.out _).mono ?_
        rintro e wn ⟨rfl, hb⟩
        have HR := Lib.hid (HR.out.next hb)
        clear hb
        obtain ⟨_, ⟨z1, c10, c11, _, _⟩, ⟨z2, c20, c21, _, _⟩, ⟨z3, c30, c31, _, _⟩, ⟨z4, c40, c41, _, _⟩, ⟨z5, c50, c51, _, _⟩⟩ := HR.out
        cases q with
        | false =>
          go_wp2_with fail
          clear c10 c11 c20 c21 c30 c31 c40 c41 c50 c51 z1 z2 z3 z4 z5
          refine (KP.out _).mono ?_
          rintro e wn ⟨rfl, hb⟩
          have HR := Lib.hid (HR.out.next hb)
          clear hb
          obtain ⟨_, ⟨z1, c10, c11, _, _⟩, ⟨z2, c20, c21, _, _⟩, ⟨z3, c30, c31, _, _⟩, ⟨z4, c40, c41, _, _⟩, ⟨z5, c50, c51, _, _⟩⟩ := HR.out
          go_wp2_with fail
          clear c10 c11 c20 c21 c30 c31 c40 c41 c50 c51 z1 z2 z3 z4 z5
          refine (KR.out _).mono ?_
          rintro e wn ⟨rfl, hb⟩
          have HR := Lib.hid (HR.out.next hb)
          clear hb
          obtain ⟨_, ⟨z1, c10, c11, _, _⟩, ⟨z2, c20, c21, _, _⟩, ⟨z3, c30, c31, _, _⟩, ⟨z4, c40, c41, _, _⟩, ⟨z5, c50, c51, _, _⟩⟩ := HR.out
          cases r with
          | false =>
            go_wp2_with fail
            go_meet
            case rel => exact ⟨rfl, HR.out⟩
          | true =>
            obtain rfl := F2.out (by trivial) (by trivial)
            go_wp2_with fail
            clear c10 c11 c20 c21 c30 c31 c40 c41 c50 c51 z1 z2 z3 z4 z5
            refine (KS.out _).mono ?_
            rintro e wn ⟨rfl, hb⟩
            have HR := Lib.hid (HR.out.next hb)
            clear hb
            obtain ⟨_, ⟨z1, c10, c11, _, _⟩, ⟨z2, c20, c21, _, _⟩, ⟨z3, c30, c31, _, _⟩, ⟨z4, c40, c41, _, _⟩, ⟨z5, c50, c51, _, _⟩⟩ := HR.out
            go_wp2_with fail
            go_meet
            case rel => exact ⟨rfl, HR.out⟩
        | true =>
          obtain rfl := F1.out (by trivial) (by trivial)
          go_wp2_with fail
          clear c10 c11 c20 c21 c30 c31 c40 c41 c50 c51 z1 z2 z3 z4 z5
          refine (KP.out _).mono ?_
          rintro e wn ⟨rfl, hb⟩
          have HR := Lib.hid (HR.out.next hb)
          clear hb
          obtain ⟨_, ⟨z1, c10, c11, _, _⟩, ⟨z2, c20, c21, _, _⟩, ⟨z3, c30, c31, _, _⟩, ⟨z4, c40, c41, _, _⟩, ⟨z5, c50, c51, _, _⟩⟩ := HR.out
          go_wp2_with fail
          clear c10 c11 c20 c21 c30 c31 c40 c41 c50 c51 z1 z2 z3 z4 z5
          refine (KR.out _).mono ?_
          rintro e wn ⟨rfl, hb⟩
          have HR := Lib.hid (HR.out.next hb)
          clear hb
          obtain ⟨_, ⟨z1, c10, c11, _, _⟩, ⟨z2, c20, c21, _, _⟩, ⟨z3, c30, c31, _, _⟩, ⟨z4, c40, c41, _, _⟩, ⟨z5, c50, c51, _, _⟩⟩ := HR.out
          cases r with
          | false =>
            go_wp2_with fail
            go_meet
            case rel => exact ⟨rfl, HR.out⟩
          | true =>
            obtain rfl := F2.out (by trivial) (by trivial)
            go_wp2_with fail
            clear c10 c11 c20 c21 c30 c31 c40 c41 c50 c51 z1 z2 z3 z4 z5
            refine (KS.out _).mono ?_
            rintro e wn ⟨rfl, hb⟩
            have HR := Lib.hid (HR.out.next hb)
            clear hb
            obtain ⟨_, ⟨z1, c10, c11, _, _⟩, ⟨z2, c20, c21, _, _⟩, ⟨z3, c30, c31, _, _⟩, ⟨z4, c40, c41, _, _⟩, ⟨z5, c50, c51, _, _⟩⟩ := HR.out
            go_wp2_with fail
            go_meet
            case rel => exact ⟨rfl, HR.out⟩
    case rest =>
      obtain ⟨rfl, hR⟩ := hcut
      have HR := Lib.hid hR
      clear hR
      clear c10 c11 c20 c21 c30 c31 c40 c41 c50 c51 z1 z2 z3 z4 z5
      obtain ⟨_, ⟨z1, c10, c11, _, _⟩, ⟨z2, c20, c21, _, _⟩, ⟨z3, c30, c31, _, _⟩, ⟨z4, c40, c41, _, _⟩, ⟨z5, c50, c51, _, _⟩⟩ := HR.out
      go_wp2_with fail
      clear c10 c11 c20 c21 c30 c31 c40 c41 c50 c51 z1 z2 z3 z4 z5
      refine (KAJ.out _).mono ?_
      rintro e wn ⟨rfl, hb⟩
      have HR := Lib.hid (HR.out.next hb)
      clear hb
      obtain ⟨_, ⟨z1, c10, c11, _, _⟩, ⟨z2, c20, c21, _, _⟩, ⟨z3, c30, c31, _, _⟩, ⟨z4, c40, c41, _, _⟩, ⟨z5, c50, c51, _, _⟩⟩ := HR.out
      go_wp2_with fail
      clear c10 c11 c20 c21 c30 c31 c40 c41 c50 c51 z1 z2 z3 z4 z5
      refine (KBJ.out _).mono ?_
      rintro e wn ⟨rfl, hb⟩
      have HR := Lib.hid (HR.out.next hb)
      clear hb
      obtain ⟨_, ⟨z1, c10, c11, _, _⟩, ⟨z2, c20, c21, _, _⟩, ⟨z3, c30, c31, _, _⟩, ⟨z4, c40, c41, _, _⟩, ⟨z5, c50, c51, _, _⟩⟩ := HR.out
      go_wp2_with fail
      clear c10 c11 c20 c21 c30 c31 c40 c41 c50 c51 z1 z2 z3 z4 z5
      refine (KMA.out _).mono ?_
      rintro e wn ⟨rfl, hb⟩
      have HR := Lib.hid (HR.out.next hb)
      clear hb
      obtain ⟨_, ⟨z1, c10, c11, _, _⟩, ⟨z2, c20, c21, _, _⟩, ⟨z3, c30, c31, _, _⟩, ⟨z4, c40, c41, _, _⟩, ⟨z5, c50, c51, _, _⟩⟩ := HR.out
      go_wp2_with fail
      clear c10 c11 c20 c21 c30 c31 c40 c41 c50 c51 z1 z2 z3 z4 z5
      refine (KMB.out _).mono ?_
      rintro e wn ⟨rfl, hb⟩
      have HR := Lib.hid (HR.out.next hb)
      clear hb
      obtain ⟨_, ⟨z1, c10, c11, _, _⟩, ⟨z2, c20, c21, _, _⟩, ⟨z3, c30, c31, _, _⟩, ⟨z4, c40, c41, _, _⟩, ⟨z5, c50, c51, _, _⟩⟩ := HR.out
      go_upto_region 6 with fail
      go_cut [9] (fun s9 wx => s9 = .bool (s && r) ∧ LatAt w b1 b2 b3 bj bm a b c jl ml x y u jx mx wx)
      case first =>
        go_wp2_with fail
        clear c10 c11 c20 c21 c30 c31 c40 c41 c50 c51 z1 z2 z3 z4 z5
        refine (KS.out _).mono ?_
        rintro e wn ⟨rfl, hb⟩
        have HR := Lib.hid (HR.out.next hb)
        clear hb
        obtain ⟨_, ⟨z1, c10, c11, _, _⟩, ⟨z2, c20, c21, _, _⟩, ⟨z3, c30, c31, _, _⟩, ⟨z4, c40, c41, _, _⟩, ⟨z5, c50, c51, _, _⟩⟩ := HR.out
        cases s with
        | false =>
          go_wp2_with fail
          go_meet
          case rel => exact ⟨rfl, HR.out⟩
        | true =>
          go_wp2_with fail
          clear c10 c11 c20 c21 c30 c31 c40 c41 c50 c51 z1 z2 z3 z4 z5
          refine (KR.out _).mono ?_
          rintro e wn ⟨rfl, hb⟩
          have HR := Lib.hid (HR.out.next hb)
          clear hb
          obtain ⟨_, ⟨z1, c10, c11, _, _⟩, ⟨z2, c20, c21, _, _⟩, ⟨z3, c30, c31, _, _⟩, ⟨z4, c40, c41, _, _⟩, ⟨z5, c50, c51, _, _⟩⟩ := HR.out
          go_wp2_with fail
          go_meet
          case rel => exact ⟨rfl, HR.out⟩
      case rest =>
        obtain ⟨rfl, hR⟩ := hcut
        have HR := Lib.hid hR
        clear hR
        clear c10 c11 c20 c21 c30 c31 c40 c41 c50 c51 z1 z2 z3 z4 z5
        obtain ⟨_, ⟨z1, c10, c11, _, _⟩, ⟨z2, c20, c21, _, _⟩, ⟨z3, c30, c31, _, _⟩, ⟨z4, c40, c41, _, _⟩, ⟨z5, c50, c51, _, _⟩⟩ := HR.out
        go_upto_region 7 with fail
        go_cut [10] (fun s10 wx => s10 = .bool (f && g) ∧ LatAt w b1 b2 b3 bj bm a b c jl ml x y u jx mx wx)
        case first =>
          go_wp2_with fail
          clear c10 c11 c20 c21 c30 c31 c40 c41 c50 c51 z1 z2 z3 z4 z5
          refine (KF.out _).mono ?_
          rintro e wn ⟨rfl, hb⟩
          have HR := Lib.hid (HR.out.next hb)
          clear hb
          obtain ⟨_, ⟨z1, c10, c11, _, _⟩, ⟨z2, c20, c21, _, _⟩, ⟨z3, c30, c31, _, _⟩, ⟨z4, c40, c41, _, _⟩, ⟨z5, c50, c51, _, _⟩⟩ := HR.out
          cases f with
          | false =>
            go_wp2_with fail
            go_meet
            case rel => exact ⟨rfl, HR.out⟩
          | true =>
            go_wp2_with fail
            clear c10 c11 c20 c21 c30 c31 c40 c41 c50 c51 z1 z2 z3 z4 z5
            refine (KG.out _).mono ?_
            rintro e wn ⟨rfl, hb⟩
            have HR := Lib.hid (HR.out.next hb)
            clear hb
            obtain ⟨_, ⟨z1, c10, c11, _, _⟩, ⟨z2, c20, c21, _, _⟩, ⟨z3, c30, c31, _, _⟩, ⟨z4, c40, c41, _, _⟩, ⟨z5, c50, c51, _, _⟩⟩ := HR.out
            go_wp2_with fail
            go_meet
            case rel => exact ⟨rfl, HR.out⟩
        case rest =>
          obtain ⟨rfl, hR⟩ := hcut
          have HR := Lib.hid hR
          clear hR
          clear c10 c11 c20 c21 c30 c31 c40 c41 c50 c51 z1 z2 z3 z4 z5
          obtain ⟨_, ⟨z1, c10, c11, _, _⟩, ⟨z2, c20, c21, _, _⟩, ⟨z3, c30, c31, _, _⟩, ⟨z4, c40, c41, _, _⟩, ⟨z5, c50, c51, _, _⟩⟩ := HR.out
          go_upto_region 8 with fail
          generalize (s && r) = sr at KJC ⊢
          generalize (f && g) = fg at KCM ⊢
          refine wp_region_held_drew (S := (fun w' => (∀ b o, b < (wc).heap.size → w'.cell? ⟨b, o, none⟩ = (wc).cell? ⟨b, o, none⟩) ∧ Below (wc).heap.size (wc) w')) (by kernel_rfl) (stay0 _) (fun hHeld => ?_)
          try dsimp only [List.size_toArray, List.length_cons, List.length_nil]
          refine takeL (i := 0) rfl (v := ?v0z) (by kernel_rfl) (by kernel_rfl) (by kernel_rfl) (fun _ _ _ h => h) (Or.inl ⟨by rfl, fun _w _hSw => ?hy0z⟩) (by assumption) ?rest0z
          case hy0z =>
            (try dsimp only at _hSw)
            go_simp
            try with_reducible rfl
          try simp only [Act.put, List.setIfInBounds_toArray, List.set_cons_zero, List.set_cons_succ]
          refine takeL (i := 1) rfl (v := ?v1z) (by kernel_rfl) (by kernel_rfl) (by kernel_rfl) (fun _ _ _ h => h) (Or.inl ⟨by rfl, fun _w _hSw => ?hy1z⟩) (by assumption) ?rest1z
          case hy1z =>
            (try dsimp only at _hSw)
            go_simp
            try with_reducible rfl
          try simp only [Act.put, List.setIfInBounds_toArray, List.set_cons_zero, List.set_cons_succ]
          refine takeL (i := 2) rfl (v := ?v2z) (by kernel_rfl) (by kernel_rfl) (by kernel_rfl) (fun _ _ _ h => h) (Or.inl ⟨by rfl, fun _w _hSw => ?hy2z⟩) (by assumption) ?rest2z
          case hy2z =>
            (try dsimp only at _hSw)
            go_simp
            try with_reducible rfl
          try simp only [Act.put, List.setIfInBounds_toArray, List.set_cons_zero, List.set_cons_succ]
          refine wpAnyH_ready (rs := [3]) (by kernel_rfl) (by simp) (readyL rfl (fun K hK => ?_) AllReadyH.nil)
          go_simp
          with_reducible refine (KJC.out _).mono ?_
          rintro e w' ⟨rfl, hb⟩
          try dsimp only
          refine hK.out _ _ (stay ‹_› ‹_›) (fun hHeld => ?_)
          clear hK K
          try simp only [Act.put, List.setIfInBounds_toArray, List.set_cons_zero, List.set_cons_succ]
          refine takeL (i := 4) rfl (v := ?v4z) (by kernel_rfl) (by kernel_rfl) (by kernel_rfl) (fun _ _ _ h => h) (Or.inl ⟨by rfl, fun _w _hSw => ?hy4z⟩) (by assumption) ?rest4z
          case hy4z =>
            (try dsimp only at _hSw)
            go_simp
            try with_reducible rfl
          try simp only [Act.put, List.setIfInBounds_toArray, List.set_cons_zero, List.set_cons_succ]
          refine takeL (i := 5) rfl (v := ?v5z) (by kernel_rfl) (by kernel_rfl) (by kernel_rfl) (fun _ _ _ h => h) (Or.inl ⟨by rfl, fun _w _hSw => ?hy5z⟩) (by assumption) ?rest5z
          case hy5z =>
            (try dsimp only at _hSw)
            go_simp
            try with_reducible rfl
          try simp only [Act.put, List.setIfInBounds_toArray, List.set_cons_zero, List.set_cons_succ]
          refine takeL (i := 6) rfl (v := ?v6z) (by kernel_rfl) (by kernel_rfl) (by kernel_rfl) (fun _ _ _ h => h) (Or.inl ⟨by rfl, fun _w _hSw => ?hy6z⟩) (by assumption) ?rest6z
          case hy6z =>
            (try dsimp only at _hSw)
            go_simp
            try with_reducible rfl
          try simp only [Act.put, List.setIfInBounds_toArray, List.set_cons_zero, List.set_cons_succ]
          refine takeL (i := 7) rfl (v := ?v7z) (by kernel_rfl) (by kernel_rfl) (by kernel_rfl) (fun _ _ _ h => h) (Or.inl ⟨by rfl, fun _w _hSw => ?hy7z⟩) (by assumption) ?rest7z
          case hy7z =>
            (try dsimp only at _hSw)
            go_simp
            try with_reducible rfl
          try simp only [Act.put, List.setIfInBounds_toArray, List.set_cons_zero, List.set_cons_succ]
          refine takeL (i := 8) rfl (v := ?v8z) (by kernel_rfl) (by kernel_rfl) (by kernel_rfl) (fun _ _ _ h => h) (Or.inl ⟨by rfl, fun _w _hSw => ?hy8z⟩) (by assumption) ?rest8z
          case hy8z =>
            (try dsimp only at _hSw)
            go_simp
            try with_reducible rfl
          try simp only [Act.put, List.setIfInBounds_toArray, List.set_cons_zero, List.set_cons_succ]
          refine wpAnyH_ready (rs := [9]) (by kernel_rfl) (by simp) (readyL rfl (fun K hK => ?_) AllReadyH.nil)
          go_simp
          with_reducible refine (KCM.out _).mono ?_
          rintro e w' ⟨rfl, hb⟩
          try dsimp only
          refine hK.out _ _ (stay ‹_› ‹_›) (fun hHeld => ?_)
          clear hK K
          try simp only [Act.put, List.setIfInBounds_toArray, List.set_cons_zero, List.set_cons_succ]
          refine takeL (i := 10) rfl (v := ?v10z) (by kernel_rfl) (by kernel_rfl) (by kernel_rfl) (fun _ _ _ h => h) (Or.inl ⟨by rfl, fun _w _hSw => ?hy10z⟩) (by assumption) ?rest10z
          case hy10z =>
            (try dsimp only at _hSw)
            go_simp
            try with_reducible rfl
          try simp only [Act.put, List.setIfInBounds_toArray, List.set_cons_zero, List.set_cons_succ]
          refine takeL (i := 11) rfl (v := ?v11z) (by kernel_rfl) (by kernel_rfl) (by kernel_rfl) (fun _ _ _ h => h) (Or.inl ⟨by rfl, fun _w _hSw => ?hy11z⟩) (by assumption) ?rest11z
          case hy11z =>
            (try dsimp only at _hSw)
            go_simp
            try with_reducible rfl
          try simp only [Act.put, List.setIfInBounds_toArray, List.set_cons_zero, List.set_cons_succ]
          refine takeL (i := 12) rfl (v := ?v12z) (by kernel_rfl) (by kernel_rfl) (by kernel_rfl) (fun _ _ _ h => h) (Or.inl ⟨by rfl, fun _w _hSw => ?hy12z⟩) (by assumption) ?rest12z
          case hy12z =>
            (try dsimp only at _hSw)
            go_simp
            try with_reducible rfl
          try simp only [Act.put, List.setIfInBounds_toArray, List.set_cons_zero, List.set_cons_succ]
          refine takeL (i := 13) rfl (v := ?v13z) (by kernel_rfl) (by kernel_rfl) (by kernel_rfl) (fun _ _ _ h => h) (Or.inl ⟨by rfl, fun _w _hSw => ?hy13z⟩) (by assumption) ?rest13z
          case hy13z =>
            (try dsimp only at _hSw)
            go_simp
            try with_reducible rfl
          try simp only [Act.put, List.setIfInBounds_toArray, List.set_cons_zero, List.set_cons_succ]
          refine takeL (i := 14) rfl (v := ?v14z) (by kernel_rfl) (by kernel_rfl) (by kernel_rfl) (fun _ _ _ h => h) (Or.inl ⟨by rfl, fun _w _hSw => ?hy14z⟩) (by assumption) ?rest14z
          case hy14z =>
            (try dsimp only at _hSw)
            go_simp
            try with_reducible rfl
          try simp only [Act.put, List.setIfInBounds_toArray, List.set_cons_zero, List.set_cons_succ]
          refine takeL (i := 15) rfl (v := ?v15z) (by kernel_rfl) (by kernel_rfl) (by kernel_rfl) (fun _ _ _ h => h) (Or.inl ⟨by rfl, fun _w _hSw => ?hy15z⟩) (by assumption) ?rest15z
          case hy15z =>
            (try dsimp only at _hSw)
            go_simp
            try with_reducible rfl
          try simp only [Act.put, List.setIfInBounds_toArray, List.set_cons_zero, List.set_cons_succ]
          refine takeL (i := 18) rfl (v := ?v18z) (by kernel_rfl) (by kernel_rfl) (by kernel_rfl) (fun _ _ _ h => h) (Or.inl ⟨by rfl, fun _w _hSw => ?hy18z⟩) (by assumption) ?rest18z
          case hy18z =>
            (try dsimp only at _hSw)
            go_simp
            try with_reducible rfl
          try simp only [Act.put, List.setIfInBounds_toArray, List.set_cons_zero, List.set_cons_succ]
          refine wpAnyH_ready (rs := [16]) (by kernel_rfl) (by simp) (readyL rfl (fun K hK => ?_) AllReadyH.nil)
          go_simp
          with_reducible refine (K28.out _).mono ?_
          rintro e w' ⟨rfl, hb⟩
          try dsimp only
          refine hK.out _ _ (stay ‹_› ‹_›) (fun hHeld => ?_)
          clear hK K
          try simp only [Act.put, List.setIfInBounds_toArray, List.set_cons_zero, List.set_cons_succ]
          refine wpAnyH_ready (rs := [17]) (by kernel_rfl) (by simp) (readyL rfl (fun K hK => ?_) AllReadyH.nil)
          go_simp
          with_reducible refine (K27B.out _).mono ?_
          rintro e w' ⟨rfl, hb⟩
          try dsimp only
          refine hK.out _ _ (stay ‹_› ‹_›) (fun hHeld => ?_)
          clear hK K
          try simp only [Act.put, List.setIfInBounds_toArray, List.set_cons_zero, List.set_cons_succ]
          refine takeL (i := 19) rfl (v := ?v19z) (by kernel_rfl) (by kernel_rfl) (by kernel_rfl) (fun _ _ _ h => h) (Or.inl ⟨by rfl, fun _w _hSw => ?hy19z⟩) (by assumption) ?rest19z
          case hy19z =>
            (try dsimp only at _hSw)
            go_simp
            try with_reducible rfl
          try simp only [Act.put, List.setIfInBounds_toArray, List.set_cons_zero, List.set_cons_succ]
          refine takeL (i := 20) rfl (v := ?v20z) (by kernel_rfl) (by kernel_rfl) (by kernel_rfl) (fun _ _ _ h => h) (Or.inl ⟨by rfl, fun _w _hSw => ?hy20z⟩) (by assumption) ?rest20z
          case hy20z =>
            (try dsimp only at _hSw)
            go_simp
            try with_reducible rfl
          try simp only [Act.put, List.setIfInBounds_toArray, List.set_cons_zero, List.set_cons_succ]
          refine takeL (i := 21) rfl (v := ?v21z) (by kernel_rfl) (by kernel_rfl) (by kernel_rfl) (fun _ _ _ h => h) (Or.inl ⟨by rfl, fun _w _hSw => ?hy21z⟩) (by assumption) ?rest21z
          case hy21z =>
            (try dsimp only at _hSw)
            go_simp
            try with_reducible rfl
          try simp only [Act.put, List.setIfInBounds_toArray, List.set_cons_zero, List.set_cons_succ]
          refine takeL (i := 22) rfl (v := ?v22z) (by kernel_rfl) (by kernel_rfl) (by kernel_rfl) (fun _ _ _ h => h) (Or.inl ⟨by rfl, fun _w _hSw => ?hy22z⟩) (by assumption) ?rest22z
          case hy22z =>
            (try dsimp only at _hSw)
            go_simp
            try with_reducible rfl
          try simp only [Act.put, List.setIfInBounds_toArray, List.set_cons_zero, List.set_cons_succ]
          refine takeL (i := 23) rfl (v := ?v23z) (by kernel_rfl) (by kernel_rfl) (by kernel_rfl) (fun _ _ _ h => h) (Or.inl ⟨by rfl, fun _w _hSw => ?hy23z⟩) (by assumption) ?rest23z
          case hy23z =>
            (try dsimp only at _hSw)
            go_simp
            try with_reducible rfl
          try simp only [Act.put, List.setIfInBounds_toArray, List.set_cons_zero, List.set_cons_succ]
          refine takeL (i := 24) rfl (v := ?v24z) (by kernel_rfl) (by kernel_rfl) (by kernel_rfl) (fun _ _ _ h => h) (Or.inl ⟨by rfl, fun _w _hSw => ?hy24z⟩) (by assumption) ?rest24z
          case hy24z =>
            (try dsimp only at _hSw)
            go_simp
            try with_reducible rfl
          try simp only [Act.put, List.setIfInBounds_toArray, List.set_cons_zero, List.set_cons_succ]
          refine takeL (i := 27) rfl (v := ?v27z) (by kernel_rfl) (by kernel_rfl) (by kernel_rfl) (fun _ _ _ h => h) (Or.inl ⟨by rfl, fun _w _hSw => ?hy27z⟩) (by assumption) ?rest27z
          case hy27z =>
            (try dsimp only at _hSw)
            go_simp
            try with_reducible rfl
          try simp only [Act.put, List.setIfInBounds_toArray, List.set_cons_zero, List.set_cons_succ]
          refine wpAnyH_ready (rs := [25]) (by kernel_rfl) (by simp) (readyL rfl (fun K hK => ?_) AllReadyH.nil)
          go_simp
          with_reducible refine (K27.out _).mono ?_
          rintro e w' ⟨rfl, hb⟩
          try dsimp only
          refine hK.out _ _ (stay ‹_› ‹_›) (fun hHeld => ?_)
          clear hK K
          try simp only [Act.put, List.setIfInBounds_toArray, List.set_cons_zero, List.set_cons_succ]
          refine wpAnyH_ready (rs := [26]) (by kernel_rfl) (by simp) (readyL rfl (fun K hK => ?_) AllReadyH.nil)
          go_simp
          with_reducible refine (K28B.out _).mono ?_
          rintro e w' ⟨rfl, hb⟩
          try dsimp only
          refine hK.out _ _ (stay ‹_› ‹_›) (fun hHeld => ?_)
          clear hK K
          try simp only [Act.put, List.setIfInBounds_toArray, List.set_cons_zero, List.set_cons_succ]
          refine takeL (i := 28) rfl (v := ?v28z) (by kernel_rfl) (by kernel_rfl) (by kernel_rfl) (fun _ _ _ h => h) (Or.inl ⟨by rfl, fun _w _hSw => ?hy28z⟩) (by assumption) ?rest28z
          case hy28z =>
            (try dsimp only at _hSw)
            go_simp
            try with_reducible rfl
          try simp only [Act.put, List.setIfInBounds_toArray, List.set_cons_zero, List.set_cons_succ]
          refine takeL (i := 29) rfl (v := ?v29z) (by kernel_rfl) (by kernel_rfl) (by kernel_rfl) (fun _ _ _ h => h) (Or.inl ⟨by rfl, fun _w _hSw => ?hy29z⟩) (by assumption) ?rest29z
          case hy29z =>
            (try dsimp only at _hSw)
            go_simp
            try with_reducible rfl
          try simp only [Act.put, List.setIfInBounds_toArray, List.set_cons_zero, List.set_cons_succ]
          refine takeL (i := 30) rfl (v := ?v30z) (by kernel_rfl) (by kernel_rfl) (by kernel_rfl) (fun _ _ _ h => h) (Or.inl ⟨by rfl, fun _w _hSw => ?hy30z⟩) (by assumption) ?rest30z
          case hy30z =>
            (try dsimp only at _hSw)
            go_simp
            try with_reducible rfl
          try simp only [Act.put, List.setIfInBounds_toArray, List.set_cons_zero, List.set_cons_succ]
          refine wpAnyH_done (by kernel_rfl) ?_ _
          go_wp2_with fail
          go_wp2
          go_ret
          exact ⟨by simp, stayEnd HR.out.1 HR.out.1.size ‹_›⟩

theorem okI_of {n : Int} (h : (Lit.int .i64 n).wf = true) : okI n := by
  simp [Lit.wf, IntKind.min, IntKind.max, IntKind.bits, IntKind.signed] at h
  exact ⟨by omega, by omega⟩
set_option maxRecDepth 100000 in
theorem labelLattice_lifted (os : Os) (started : os.Started) (H : Type) (enc : TypeId × Value → H) :
    ReturnsInHanded {} Tryd.checked os 6 .any (fun w args => (Rows.labelLatticeSpec.pre enc Tryd.prog Tryd.f6 [] false w args ∧ laidMetH Tryd.prog laidL w) ∧ sizedMet enc Tryd.prog Tryd.f6 (OpenSpec.ofChange Rows.labelLatticeSpec) false w args) (Rows.labelLatticeSpec.post enc Tryd.prog Tryd.f6 false true false false) := by
  refine law_liftD started Tryd.func6 (by kernel_rfl) (by kernel_rfl) rfl (by kernel_rfl) ?_
    (ChangeSpec.witness_shaped (enc := enc) (C := Tryd.checked) (os := os) (X := fun w _ => laidMetH Tryd.prog laidL w) false (World.doorLaid Tryd.prog 69 os) #[.agg #[.int .i64 0, .int .u16 0], .agg #[.int .i64 0, .int .u16 0], .agg #[.int .i64 0, .int .u16 0]] 8 rfl (World.shaped_of_RefB (by kernel_rfl) (by kernel_rfl)) (by kernel_rfl) (by kernel_rfl) (by kernel_rfl) (door_met os _)) ?_
  · intro ds hd
    rw [Tryd.params6] at hd
    match ds, hd with
    | [d0, d1, d2], _ => rfl
  · intro W base args ds ps hM hval hA
    rw [Tryd.params6] at hA hval
    obtain ⟨v0, vs0, d0, ds0, p0, q0, hargs, rfl, rfl, h0, r0⟩ := trodAll_cons hA
    obtain ⟨v1, vs1, d1, ds1, p1, q1, rfl, rfl, rfl, h1, r1⟩ := trodAll_cons r0
    obtain ⟨v2, vs2, d2, ds2, p2, q2, rfl, rfl, rfl, h2, r2⟩ := trodAll_cons r1
    obtain ⟨rfl, rfl, rfl⟩ := trodAll_nil r2
    obtain rfl : args = #[v0, v1, v2] := by cases args; simp_all
    obtain ⟨cs0, rfl, n0, y0, g0⟩ := open_struct fields26 (hval 0 26 v0 rfl rfl) h0
    obtain ⟨a0, x0, _, hx0, rfl⟩ := lbl_of g0
    obtain ⟨cs1, rfl, n1, y1, g1⟩ := open_struct fields26 (hval 1 26 v1 rfl rfl) h1
    obtain ⟨a1, x1, _, hx1, rfl⟩ := lbl_of g1
    obtain ⟨cs2, rfl, n2, y2, g2⟩ := open_struct fields26 (hval 2 26 v2 rfl rfl) h2
    obtain ⟨a2, x2, _, hx2, rfl⟩ := lbl_of g2
    exact labelLattice_walk a0 a1 a2 x0 x1 x2 hx0 hx1 hx2 _ hM

theorem labelLattice_row : Rows.LabelLatticeSaid :=
  OpenClaim.holds_of_wide 6 Tryd.f6 rfl rfl rfl rfl rfl rfl rfl ⟨rfl, rfl, rfl, rfl, rfl⟩ rfl rfl rfl rfl rfl (by kernel_rfl) Tryd.func6 (by kernel_rfl)
    (of_decide_eq_true (by kernel_rfl)) (by unfold Func.isWrapper; first | (rw [if_pos (by decide +kernel)]; kernel_rfl) | (rw [if_neg (by decide +kernel)]; exact ⟨rfl, rfl⟩))
    (fun os started H enc _ => labelLattice_lifted os started H enc)
theorem labelLattice_holds : Rows.LabelLatticeCardSaid :=
  Claim7.holds_tied_plain_at .later [] [.data, .data, .data, .sentinel, .sentinel] true (true, "cfe63c5658b6bd1a0fc7e38934e65126801f8a0fa6b3d3db120216d21a504323") true
    labelLattice_row (fun _ h => by cases h) (by kernel_rfl) (fun _ h => by cases h) labelLattice_row_tie rfl ⟨rfl, rfl⟩ (by kernel_rfl) rfl
    (fun f fn hf hfn => by
      obtain rfl : f = 6 := Option.some.inj ((show Tryd.prog.funcNamed "lockage/lockagelaw01.LabelLattice" = some 6 by kernel_rfl).symm.trans hf) |>.symm
      obtain rfl : fn = Tryd.f6 := (Option.some.inj (Tryd.func6.symm.trans hfn)).symm
      exact ⟨by kernel_rfl, fun j t ht => by
        rw [Tryd.params6] at ht
        have hm : t ∈ [26, 26, 26] := by simpa using Array.mem_of_getElem? ht
        have hall : ([26, 26, 26].all fun u => !Tryd.prog.wantsStandIn u) = true := by kernel_rfl
        exact (show Tryd.prog.wantsStandIn t = false by simpa using List.all_eq_true.1 hall t hm)⟩)
    (by kernel_rfl)
end Go.Proofs.YtpkmgdpnimecfabDoor

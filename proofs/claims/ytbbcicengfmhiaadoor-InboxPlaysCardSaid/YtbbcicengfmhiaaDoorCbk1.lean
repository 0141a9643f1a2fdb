/- The document's texts of numbers; a codec's labels. -/
import Derived.Test.YtbbcicengfmhiaaDoorCod4
import Derived.Test.YtbbcicengfmhiaaDoorTk
import Derived.Lib.SmallJoins
namespace Go.Proofs.YtbbcicengfmhiaaDoor
open Go.RowKit

theorem conv1 (b : Nat) (c : UInt8) (W : World) (h : W.cell? ⟨b, 0, none⟩ = some (.int .u8 (c.toNat : Int))) (cap : Nat) : (convert 56 9 (.slice (some ⟨b, 0, none⟩) 1 cap)).run Tryd.prog W = .ok (.string ⟨#[c]⟩) W := by
  refine run_convert_bytes_back W 56 9 5 _ cap [c] Tryd.underlying56 Tryd.underlying5 Tryd.underlying9 fun j hj => ?_
  match j, hj with
  | 0, _ =>
    rw [Go.WideShapes.add_plain]
    exact h
theorem dec_step (n : Nat) (h : ¬ n < 10) : Lib.decDigits n = Lib.decDigits (n / 10) ++ [UInt8.ofNat (48 + n % 10)] := by
  rw [Lib.decDigits, dif_neg h]
theorem dec_len (n : Nat) (h : n < 18446744073709551616) : (Lib.decDigits n).length ≤ 20 := by
  have h2 : ∀ (k n : Nat), n < 10 ^ k → (Lib.decDigits n).length ≤ max 1 k := by
    intro k
    induction k with
    | zero =>
      intro n h
      rw [Lib.decDigits_one (by omega)]
      simp
    | succ k ih =>
      intro n h
      by_cases h1 : n < 10
      · rw [Lib.decDigits_one h1]; simp <;> omega
      · rw [dec_step n h1]
        have := ih (n / 10) (by rw [Nat.pow_succ] at h; omega)
        have : 1 ≤ k := by
          rcases k with _ | k
          · omega
          · omega
        simp
        omega
  have := h2 20 n (by omega)
  omega
set_option maxRecDepth 100000 in
set_option maxHeartbeats 4000000 in
theorem countR : ∀ (n : Nat), n < 18446744073709551616 → ∀ (w : World), Calls Tryd.prog 83 #[.int .u64 n] w fun e w' => e = .returned (.string ⟨(Lib.decDigits n).toArray⟩) ∧ Below w.heap.size w w' := by
  intro n
  induction n using Nat.strongRecOn with
  | _ n ih =>
    intro hn w
    by_cases h1 : n < 10
    · rw [Lib.decDigits_one h1]
      have hw : IntKind.u8.wrap (48 + (n : Int)) = (((UInt8.ofNat (48 + n)).toNat : Nat) : Int) := by
        rw [UInt8.toNat_ofNat']
        simp [IntKind.wrap, IntKind.signed, IntKind.bits]
      have hz : (n : Int) < 10 := by omega
      generalize UInt8.ofNat (48 + n) = c at hw
      have kc := fun cap => conv1 w.heap.size c (w.alloc (.cells #[.int .u8 (c.toNat : Int)] 5)) (by go_simp) cap
      clear ih
      go_enter Tryd.func83, Tryd.ntmps83
      go_wp2
      go_ret
      exact ⟨rfl, below1 _ _⟩
    · have K := Lib.hid (ih (n / 10) (by omega) (by omega))
      rw [dec_step n h1]
      have hS : ∀ W, (Op.stringOp .add ⟨(Lib.decDigits (n / 10)).toArray⟩ ⟨#[UInt8.ofNat (48 + n % 10)]⟩).run Tryd.prog W = .ok (.string ⟨(Lib.decDigits (n / 10) ++ [UInt8.ofNat (48 + n % 10)]).toArray⟩) W := fun W =>
        run_string_add_lists W (Lib.decDigits (n / 10)) [UInt8.ofNat (48 + n % 10)] (by have := dec_len (n / 10) (by omega); omega) (by simp)
      have hw : IntKind.u8.wrap (48 + ((n % 10 : Nat) : Int)) = (((UInt8.ofNat (48 + n % 10)).toNat : Nat) : Int) := by
        rw [UInt8.toNat_ofNat']
        simp [IntKind.wrap, IntKind.signed, IntKind.bits]
      obtain ⟨r, hr⟩ : ∃ r, r = n % 10 := ⟨_, rfl⟩
      obtain ⟨q, hq⟩ : ∃ q, q = n / 10 := ⟨_, rfl⟩
      have e1 : (n : Int) / 10 = (q : Int) := by omega
      have e2 : (n : Int) % 10 = (r : Int) := by omega
      have e3 : (n : Int).tdiv 10 = (q : Int) := by rw [Int.tdiv_eq_ediv_of_nonneg (by omega)]; omega
      have e4 : (n : Int).tmod 10 = (r : Int) := by rw [Int.tmod_eq_emod_of_nonneg (by omega)]; omega
      have hr9 : (r : Int) < 10 := by omega
      have hq6 : IntKind.u64.wrap (q : Int) = (q : Int) := by simp [IntKind.wrap, IntKind.signed, IntKind.bits]; omega
      have hr6 : IntKind.u64.wrap (48 + (r : Int)) = 48 + (r : Int) := by simp [IntKind.wrap, IntKind.signed, IntKind.bits]; omega
      have hr0 : (0 : Int) ≤ (r : Int) := by omega
      have hz : ¬ (n : Int) < 10 := by omega
      rw [← hr] at hS hw ⊢
      rw [← hq] at hS K ⊢
      generalize (⟨(Lib.decDigits q ++ [UInt8.ofNat (48 + r)]).toArray⟩ : ByteArray) = S2 at hS ⊢
      generalize (⟨(Lib.decDigits q).toArray⟩ : ByteArray) = S1 at hS K
      generalize UInt8.ofNat (48 + r) = c at hS hw
      clear ih hr hq h1
      go_enter Tryd.func83, Tryd.ntmps83
      go_upto_region 3 with fail
      refine wp_region_held_drew (S := (fun w' => (∀ b o, b < (w).heap.size → w'.cell? ⟨b, o, none⟩ = (w).cell? ⟨b, o, none⟩) ∧ Below (w).heap.size (w) w')) (by kernel_rfl) (stay0 _) (fun hH0 => ?_)
      try dsimp only [List.size_toArray, List.length_cons, List.length_nil]
      generalize w.drew = v0 at hH0 ⊢
      refine takeL (i := 0) rfl (v := ?vr0) (by kernel_rfl) (by kernel_rfl) (by kernel_rfl) (fun _ _ _ h => h) (Or.inl ⟨by rfl, fun _w _hSw => ?hyr0⟩) (by assumption) ?restr0
      case hyr0 =>
        (try dsimp only at _hSw)
        go_simp
        try with_reducible rfl
      try simp only [Act.put, List.setIfInBounds_toArray, List.set_cons_zero, List.set_cons_succ]
      refine takeL (i := 1) rfl (v := ?vr1) (by kernel_rfl) (by kernel_rfl) (by kernel_rfl) (fun _ _ _ h => h) (Or.inl ⟨by rfl, fun _w _hSw => ?hyr1⟩) (by assumption) ?restr1
      case hyr1 =>
        (try dsimp only at _hSw)
        go_simp
        try with_reducible rfl
      try simp only [Act.put, List.setIfInBounds_toArray, List.set_cons_zero, List.set_cons_succ]
      refine takeL (i := 3) rfl (v := ?vr3) (by kernel_rfl) (by kernel_rfl) (by kernel_rfl) (fun _ _ _ h => h) (Or.inl ⟨by rfl, fun _w _hSw => ?hyr3⟩) (by assumption) ?restr3
      case hyr3 =>
        (try dsimp only at _hSw)
        go_simp
        try with_reducible rfl
      try simp only [Act.put, List.setIfInBounds_toArray, List.set_cons_zero, List.set_cons_succ]
      refine takeL (i := 4) rfl (v := ?vr4) (by kernel_rfl) (by kernel_rfl) (by kernel_rfl) (fun _ _ _ h => h) (Or.inl ⟨by rfl, fun _w _hSw => ?hyr4⟩) (by assumption) ?restr4
      case hyr4 =>
        (try dsimp only at _hSw)
        go_simp
        try with_reducible rfl
      try simp only [Act.put, List.setIfInBounds_toArray, List.set_cons_zero, List.set_cons_succ]
      refine takeL (i := 5) rfl (v := ?vr5) (by kernel_rfl) (by kernel_rfl) (by kernel_rfl) (fun _ _ _ h => h) (Or.inl ⟨by rfl, fun _w _hSw => ?hyr5⟩) (by assumption) ?restr5
      case hyr5 =>
        (try dsimp only at _hSw)
        go_simp
        try with_reducible rfl
      try simp only [Act.put, List.setIfInBounds_toArray, List.set_cons_zero, List.set_cons_succ]
      refine takeL (i := 6) rfl (v := ?vr6) (by kernel_rfl) (by kernel_rfl) (by kernel_rfl) (fun _ _ _ h => h) (Or.inl ⟨by rfl, fun _w _hSw => ?hyr6⟩) (by assumption) ?restr6
      case hyr6 =>
        (try dsimp only at _hSw)
        go_simp
        try with_reducible rfl
      try simp only [Act.put, List.setIfInBounds_toArray, List.set_cons_zero, List.set_cons_succ]
      refine wpAnyH_ready (rs := [2, 7]) (by kernel_rfl) (by simp) (readyL rfl (fun K1 hK => ?_) (readyL rfl (fun K1 hK => ?_) AllReadyH.nil))
      ·
        go_simp
        with_reducible refine (K.out _).mono ?_
        rintro e v1 ⟨rfl, hb⟩
        try dsimp only
        refine hK.out _ _ (stay hH0 hb) (fun hH1 => ?_)
        clear hK K1 hb hH0
        try simp only [Act.put, List.setIfInBounds_toArray, List.set_cons_zero, List.set_cons_succ]
        refine wpAnyH_ready (rs := [7]) (by kernel_rfl) (by simp) (readyL rfl (fun K1 hK => ?_) AllReadyH.nil)
        ·
          go_simp
          refine hK.out _ _ (stay hH1 (below1 _ _)) (fun hH2 => ?_)
          clear hK K1
          have cb : (v1.alloc (.cells #[.int .u8 (c.toNat : Int)] 5)).cell? ⟨v1.heap.size, 0, none⟩ = some (.int .u8 (c.toNat : Int)) := by go_simp
          have zb : v1.heap.size < (v1.alloc (.cells #[.int .u8 (c.toNat : Int)] 5)).heap.size := by simp
          generalize v1.alloc (.cells #[.int .u8 (c.toNat : Int)] 5) = v2 at hH2 cb zb ⊢
          generalize v1.heap.size = bx at cb zb ⊢
          try simp only [Act.put, List.setIfInBounds_toArray, List.set_cons_zero, List.set_cons_succ]
          refine wpAnyH_ready (rs := [8]) (by kernel_rfl) (by simp) (readyL rfl (fun K1 hK => ?_) AllReadyH.nil)
          ·
            have kc := conv1 bx c v2 cb
            go_simp
            refine hK.out _ _ hH2 (fun hH3 => ?_)
            clear hK K1 kc
            try simp only [Act.put, List.setIfInBounds_toArray, List.set_cons_zero, List.set_cons_succ]
            refine takeL (i := 9) rfl (v := ?vl1) (by kernel_rfl) (by kernel_rfl) (by kernel_rfl) (fun _ _ _ h => h) (Or.inl ⟨by rfl, fun _w _hSw => ?hyl1⟩) (by assumption) ?restl1
            case hyl1 =>
              (try dsimp only at _hSw)
              go_simp
              try with_reducible rfl
            try simp only [Act.put, List.setIfInBounds_toArray, List.set_cons_zero, List.set_cons_succ]
            refine takeL (i := 10) rfl (v := ?vm1) (by kernel_rfl) (by kernel_rfl) (by kernel_rfl) (fun _ _ _ h => h) (Or.inl ⟨by rfl, fun _w _hSw => ?hym1⟩) (by assumption) ?restm1
            case hym1 =>
              (try dsimp only at _hSw)
              go_simp
              try with_reducible rfl
            try simp only [Act.put, List.setIfInBounds_toArray, List.set_cons_zero, List.set_cons_succ]
            refine wpAnyH_done (by kernel_rfl) ?_ _
            go_wp2
            go_ret
            exact ⟨rfl, hH3.2⟩
      ·
        go_simp
        refine hK.out _ _ (stay hH0 (below1 _ _)) (fun hH4 => ?_)
        clear hK K1
        have cb : (v0.alloc (.cells #[.int .u8 (c.toNat : Int)] 5)).cell? ⟨v0.heap.size, 0, none⟩ = some (.int .u8 (c.toNat : Int)) := by go_simp
        have zb : v0.heap.size < (v0.alloc (.cells #[.int .u8 (c.toNat : Int)] 5)).heap.size := by simp
        generalize v0.alloc (.cells #[.int .u8 (c.toNat : Int)] 5) = v4 at hH4 cb zb ⊢
        generalize v0.heap.size = bx at cb zb ⊢
        try simp only [Act.put, List.setIfInBounds_toArray, List.set_cons_zero, List.set_cons_succ]
        refine wpAnyH_ready (rs := [2, 8]) (by kernel_rfl) (by simp) (readyL rfl (fun K1 hK => ?_) (readyL rfl (fun K1 hK => ?_) AllReadyH.nil))
        ·
          go_simp
          with_reducible refine (K.out _).mono ?_
          rintro e v5 ⟨rfl, hb⟩
          try dsimp only
          refine hK.out _ _ (stay hH4 hb) (fun hH5 => ?_)
          have cb := (hb.cell (p := ⟨bx, 0, none⟩) zb).trans cb
          have zb := Nat.lt_of_lt_of_le zb hb.size
          clear hK K1 hb hH4
          try simp only [Act.put, List.setIfInBounds_toArray, List.set_cons_zero, List.set_cons_succ]
          refine wpAnyH_ready (rs := [8]) (by kernel_rfl) (by simp) (readyL rfl (fun K1 hK => ?_) AllReadyH.nil)
          ·
            have kc := conv1 bx c v5 cb
            go_simp
            refine hK.out _ _ hH5 (fun hH6 => ?_)
            clear hK K1 kc
            try simp only [Act.put, List.setIfInBounds_toArray, List.set_cons_zero, List.set_cons_succ]
            refine takeL (i := 9) rfl (v := ?vl2) (by kernel_rfl) (by kernel_rfl) (by kernel_rfl) (fun _ _ _ h => h) (Or.inl ⟨by rfl, fun _w _hSw => ?hyl2⟩) (by assumption) ?restl2
            case hyl2 =>
              (try dsimp only at _hSw)
              go_simp
              try with_reducible rfl
            try simp only [Act.put, List.setIfInBounds_toArray, List.set_cons_zero, List.set_cons_succ]
            refine takeL (i := 10) rfl (v := ?vm2) (by kernel_rfl) (by kernel_rfl) (by kernel_rfl) (fun _ _ _ h => h) (Or.inl ⟨by rfl, fun _w _hSw => ?hym2⟩) (by assumption) ?restm2
            case hym2 =>
              (try dsimp only at _hSw)
              go_simp
              try with_reducible rfl
            try simp only [Act.put, List.setIfInBounds_toArray, List.set_cons_zero, List.set_cons_succ]
            refine wpAnyH_done (by kernel_rfl) ?_ _
            go_wp2
            go_ret
            exact ⟨rfl, hH6.2⟩
        ·
          have kc := conv1 bx c v4 cb
          go_simp
          refine hK.out _ _ hH4 (fun hH7 => ?_)
          clear hK K1 kc
          try simp only [Act.put, List.setIfInBounds_toArray, List.set_cons_zero, List.set_cons_succ]
          refine wpAnyH_ready (rs := [2]) (by kernel_rfl) (by simp) (readyL rfl (fun K1 hK => ?_) AllReadyH.nil)
          ·
            go_simp
            with_reducible refine (K.out _).mono ?_
            rintro e v8 ⟨rfl, hb⟩
            try dsimp only
            refine hK.out _ _ (stay hH7 hb) (fun hH8 => ?_)
            have cb := (hb.cell (p := ⟨bx, 0, none⟩) zb).trans cb
            have zb := Nat.lt_of_lt_of_le zb hb.size
            clear hK K1 hb hH7
            try simp only [Act.put, List.setIfInBounds_toArray, List.set_cons_zero, List.set_cons_succ]
            refine takeL (i := 9) rfl (v := ?vl3) (by kernel_rfl) (by kernel_rfl) (by kernel_rfl) (fun _ _ _ h => h) (Or.inl ⟨by rfl, fun _w _hSw => ?hyl3⟩) (by assumption) ?restl3
            case hyl3 =>
              (try dsimp only at _hSw)
              go_simp
              try with_reducible rfl
            try simp only [Act.put, List.setIfInBounds_toArray, List.set_cons_zero, List.set_cons_succ]
            refine takeL (i := 10) rfl (v := ?vm3) (by kernel_rfl) (by kernel_rfl) (by kernel_rfl) (fun _ _ _ h => h) (Or.inl ⟨by rfl, fun _w _hSw => ?hym3⟩) (by assumption) ?restm3
            case hym3 =>
              (try dsimp only at _hSw)
              go_simp
              try with_reducible rfl
            try simp only [Act.put, List.setIfInBounds_toArray, List.set_cons_zero, List.set_cons_succ]
            refine wpAnyH_done (by kernel_rfl) ?_ _
            go_wp2
            go_ret
            exact ⟨rfl, hH8.2⟩
theorem numT (n : Int) (hn : okI n) : ∀ W, (Op.stringOp .add ⟨(Lib.itoa n).toArray⟩ ⟨#[44]⟩).run Tryd.prog W = .ok (.string ⟨(numL n).toArray⟩) W := fun W =>
  run_string_add_lists W (Lib.itoa n) [44] (by have := Lib.itoa_length_le n hn.1 hn.2; omega) (by simp)
set_option maxRecDepth 100000 in
theorem ref06Int (n : Int) (hn : okI n) (w : World) : Calls Tryd.prog 24 #[.int .i64 n] w fun e w' => e = .returned (.string ⟨(numL n).toArray⟩) ∧ Below w.heap.size w w' := by
  have hS := numT n hn
  by_cases h : n < 0
  · have hm : ∃ m : Nat, n = -(m : Int) ∧ 1 ≤ m ∧ m ≤ 9223372036854775808 := ⟨n.natAbs, by omega, by omega, by have := hn.1; omega⟩
    obtain ⟨m, rfl, h1, h2⟩ := hm
    have hi : Lib.itoa (-(m : Int)) = 45 :: Lib.decDigits m := Lib.itoa_neg m h1
    rw [hi] at hS
    have hS1 : ∀ W, (Op.stringOp .add ⟨#[45]⟩ ⟨(Lib.decDigits m).toArray⟩).run Tryd.prog W = .ok (.string ⟨(45 :: Lib.decDigits m).toArray⟩) W := fun W =>
      run_string_add_lists W [45] (Lib.decDigits m) (by simp) (by have := dec_len m (by omega); simp; omega)
    have K := Lib.hid (countR m (by omega))
    generalize (⟨(numL (-(m : Int))).toArray⟩ : ByteArray) = S3 at hS ⊢
    generalize (⟨(45 :: Lib.decDigits m).toArray⟩ : ByteArray) = S2 at hS hS1
    generalize (⟨(Lib.decDigits m).toArray⟩ : ByteArray) = S1 at K hS1
    have e1 : IntKind.u64.wrap (IntKind.u64.wrap (-(-(m : Int) + 1)) + 1) = (m : Int) := by simp [IntKind.wrap, IntKind.signed, IntKind.bits]; omega
    have e2 : wrap64 (-(m : Int) + 1) = -(m : Int) + 1 := by unfold wrap64; omega
    have e3 : wrap64 (-(-(m : Int) + 1)) = -(-(m : Int) + 1) := by unfold wrap64; omega
    have e4 : IntKind.u64.wrap (-(-(m : Int) + 1)) = -(-(m : Int) + 1) := by simp [IntKind.wrap, IntKind.signed, IntKind.bits]; omega
    have e5 : -(-(m : Int) + 1) + 1 = (m : Int) := by omega
    have e6 : IntKind.u64.wrap (-(-(m : Int) + 1) + 1) = (m : Int) := by rw [e5]; simp [IntKind.wrap, IntKind.signed, IntKind.bits]; omega
    clear hi
    go_enter Tryd.func24, Tryd.ntmps24
    go_wp2_with fail
    refine (K.out _).mono ?_
    rintro e w1 ⟨rfl, hb⟩
    have HB := Lib.hid hb
    clear hb e1 e2 e3 e4 e5 e6
    go_wp2
    go_ret
    exact ⟨rfl, HB.out⟩
  · obtain ⟨m, rfl⟩ := Int.eq_ofNat_of_zero_le (show 0 ≤ n by omega)
    have hi : Lib.itoa (m : Int) = Lib.decDigits m := Lib.itoa_nonneg m
    rw [hi] at hS
    have h2 := hn.2
    have K := Lib.hid (countR m (by omega))
    generalize (⟨(numL (m : Int)).toArray⟩ : ByteArray) = S3 at hS ⊢
    generalize (⟨(Lib.decDigits m).toArray⟩ : ByteArray) = S1 at K hS
    have e1 : IntKind.u64.wrap (m : Int) = (m : Int) := by simp [IntKind.wrap, IntKind.signed, IntKind.bits]; omega
    clear hi
    go_enter Tryd.func24, Tryd.ntmps24
    go_wp2_with fail
    refine (K.out _).mono ?_
    rintro e w1 ⟨rfl, hb⟩
    have HB := Lib.hid hb
    clear hb e1
    go_wp2
    go_ret
    exact ⟨rfl, HB.out⟩
end Go.Proofs.YtbbcicengfmhiaaDoor

/- A word as a name: lexer.isName, lexer.fault, lexer.Name; errors.Is at a fault; manifest.isName, manifest.within. No condition but sizes. -/
import Derived.Test.YtefnkoofgpmmmaaGreatDoorN1
import Derived.Test.YtefnkoofgpmmmaaGreatDoorRows
import Derived.LaidEql
import Derived.Stop.Asserts
import Derived.RowKitTokens
import Derived.Lib.IfaceEq
import Derived.Deep.QuietTactic
import Derived.BigQuiet
namespace Go.Proofs.YtefnkoofgpmmmaaGreatDoor
open Go.RowKit Go.Extern.Stop Go.Stop Go.Extern

theorem name_yes {s : ByteArray} (h : ∀ j (hj : j < s.size), lowB s[j] = true) : nameB s = (!s.data.toList.isEmpty && decide (s.size ≤ 8)) := by
  unfold nameB
  have : s.data.toList.all lowB = true := by
    rw [List.all_eq_true]
    intro c hc
    obtain ⟨j, hj, rfl⟩ := List.getElem_of_mem hc
    exact h j (by simpa using hj)
  rw [this, Bool.true_and]
theorem name_no {s : ByteArray} {k : Nat} (hk : k < s.size) (h : lowB s[k] = false) : nameB s = false := by
  unfold nameB
  have : s.data.toList.all lowB = false := by
    rw [List.all_eq_false]
    exact ⟨s[k], List.getElem_mem (by simpa using hk), by simp [h]⟩
  rw [this, Bool.false_and]

set_option maxHeartbeats 1000000 in
theorem lexIsName (s : ByteArray) (w : World) (hs : s.size ≤ maxLen) :
    Calls Tryz.prog 94 #[.string s] w fun e w' => e = .returned (.bool (nameB s)) ∧ Below w.heap.size w w' := by
  unfold maxLen at hs
  have HY := Lib.hid (fun (h : ∀ j (hj : j < s.size), lowB s[j] = true) => name_yes h)
  have HN := Lib.hid (fun k (hk : k < s.size) (h : lowB s[k] = false) => name_no hk h)
  generalize nameB s = R at HY HN ⊢
  go_enter Tryz.func94, Tryz.ntmps94
  go_wp2
  go_loopw [6] (fun i wr => ∃ k : Nat, k ≤ s.size ∧ i = .int .i64 k ∧ Below w.heap.size w wr ∧ ∀ j (hj : j < s.size), j < k → lowB s[j] = true) (fun i _ => s.size - (intOf i).toNat)
  case atStart => exact ⟨0, by omega, rfl, Below.refl _ _, fun j _ hj => absurd hj (by omega)⟩
  case round =>
    obtain ⟨k, hk, rfl, hb, hall⟩ := hrel
    have HB := Lib.hid hb
    have HA := Lib.hid hall
    clear hb hall
    by_cases hlt : k < s.size
    · have hltz : (k : Int) < (s.size : Int) := by omega
      have HL := Lib.hid (show lowB s[k] = (decide (97 ≤ s[k].toNat) && decide (s[k].toNat ≤ 122)) from rfl)
      have HX := Lib.hid (fun (h : lowB s[k] = true) => show ∀ j (hj : j < s.size), j < k + 1 → lowB s[j] = true from fun j hj hjk => by
        by_cases e : j = k
        · subst e; exact h
        · exact HA.out j hj (by omega))
      have HF := Lib.hid (fun (h : lowB s[k] = false) => HN.out k hlt h)
      go_wp2
      all_goals first
        | (go_roundw
           case rel => exact ⟨k + 1, by omega, by go_num, HB.out, HX.out (by rw [HL.out]; simp; omega)⟩
           case measure => simp [intOf]; omega)
        | (have hR := HF.out (by rw [HL.out]; simp; omega)
           go_ret
           exact ⟨by rw [hR]; rfl, HB.out⟩)
    · obtain rfl : k = s.size := by omega
      have HR := HY.out (fun j hj => HA.out j hj hj)
      cases he : s.data.toList.isEmpty with
      | true =>
        have hR : R = false := by rw [HR, he]; rfl
        have h0 : s.toList = [] := by rw [ByteArray.toList_eq]; simpa using he
        have HRR := Lib.hid hR
        clear HR hR he
        go_wp2
        go_ret
        exact ⟨by rw [HRR.out]; rfl, HB.out⟩
      | false =>
        have hR : R = decide (s.size ≤ 8) := by rw [HR, he]; rfl
        have h0 : s.toList.isEmpty = false := by rw [ByteArray.toList_eq]; exact he
        have h1 : (!s.toList.isEmpty) = true := by rw [h0]; rfl
        have HRR := Lib.hid hR
        clear HR hR he
        go_wp2
        go_ret
        exact ⟨by rw [HRR.out]; first | rfl | (congr 2; simp; try omega), HB.out⟩

/-! ### faults, names -/
theorem lexFault (i e : Int) (w : World) : Calls Tryz.prog 43 #[.int .i64 i, .int .i64 e] w fun en w' => en = .returned (.iface 182 (.pointer (some ⟨w.heap.size, 0, none⟩))) ∧ w' = w.alloc (.cells #[.int .i64 i, .iface 48 (.int .i64 e)] 186) := by
  go_enter Tryz.func43, Tryz.ntmps43
  go_wp2
  go_ret
  exact ⟨rfl, rfl⟩
/-- an error that is none, or a fault that lies there -/
def ErrAt (v : Value) (x : Option (Int × Int)) (w : World) : Prop := match x with
  | none => v = .nilIface
  | some (i, e) => ∃ b, v = .iface 182 (.pointer (some ⟨b, 0, none⟩)) ∧ w.heap[b]? = some (.cells #[.int .i64 i, .iface 48 (.int .i64 e)] 186 (0, 0))
theorem ErrAt.below {v : Value} {x : Option (Int × Int)} {w w' : World} (h : ErrAt v x w) (hb : Below w.heap.size w w') : ErrAt v x w' := by
  match x, h with
  | none, h => exact h
  | some (i, e), ⟨b, h1, h2⟩ => exact ⟨b, h1, (hb.block b (Array.getElem?_eq_some_iff.1 h2).1).trans h2⟩
theorem ErrAt.mk (w : World) (i e : Int) : ErrAt (.iface 182 (.pointer (some ⟨w.heap.size, 0, none⟩))) (some (i, e)) (w.alloc (.cells #[.int .i64 i, .iface 48 (.int .i64 e)] 186)) := ⟨_, rfl, (MapKept.heap_alloc w _).1⟩
def NamePost (s : ByteArray) (i : Int) (w : World) (en : Ending) (w' : World) : Prop :=
  (nameB s = true ∧ en = .returned (.tuple #[.string s, .nilIface]) ∧ Below w.heap.size w w') ∨
  (nameB s = false ∧ ∃ v, en = .returned (.tuple #[.string ⟨#[]⟩, v]) ∧ ErrAt v (some (i, 15)) w' ∧ Below w.heap.size w w')
set_option maxHeartbeats 1000000 in
theorem lexName (s : ByteArray) (i : Int) (w : World) (hs : s.size ≤ maxLen) : Calls Tryz.prog 41 #[.agg #[.string s, .int .i64 i]] w (NamePost s i w) := by
  have K := Lib.hid (lexIsName s (w.alloc (.cells #[.string s, .int .i64 i] 35)) hs)
  clear hs
  have hb0 := below1 w (.cells #[.string s, .int .i64 i] 35)
  have g0 : (w.alloc (.cells #[.string s, .int .i64 i] 35)).cell? ⟨w.heap.size, 0, none⟩ = some (.string s) := by go_simp
  have g1 : (w.alloc (.cells #[.string s, .int .i64 i] 35)).cell? ⟨w.heap.size, 1, none⟩ = some (.int .i64 i) := by go_simp
  have hz : w.heap.size < (w.alloc (.cells #[.string s, .int .i64 i] 35)).heap.size := by simp
  go_enter Tryz.func41, Tryz.ntmps41
  go_wp2_with fail
  refine K.out.mono ?_
  rintro e w1 ⟨rfl, hb⟩
  have HB := Lib.hid (hb0.trans (hb.mono hb0.size))
  have g0' := (hb.cell (p := ⟨w.heap.size, 0, none⟩) hz).trans g0
  have g1' := (hb.cell (p := ⟨w.heap.size, 1, none⟩) hz).trans g1
  clear g0 g1 hb hb0 K
  cases hq : nameB s with
  | true =>
    have HQ := Lib.hid hq
    clear hq
    go_wp2
    go_ret2
    exact .inl ⟨HQ.out, rfl, HB.out⟩
  | false =>
    have HQ := Lib.hid hq
    clear hq
    go_wp2_with fail
    refine (lexFault i 15 w1).mono ?_
    rintro e w2 ⟨rfl, rfl⟩
    have HE := Lib.hid (ErrAt.mk w1 i 15)
    have HB2 := Lib.hid (HB.out.trans ((below1 w1 (.cells #[.int .i64 i, .iface 48 (.int .i64 15)] 186)).mono HB.out.size))
    go_wp2
    go_ret2
    exact .inr ⟨HQ.out, _, rfl, HE.out, HB2.out⟩

/-! ### errors.Is at a fault -/
theorem Tryz.isTypeOfE (v : Value) (w : World) : (Extern.ReflectliteType.typeOf #[.iface 48 v]).run Tryz.prog w = .ok (.iface 259 (.agg #[.pointer (some ⟨9, 48, none⟩)])) w := by kernel_rfl
def cmpFn : Array Value → Sem Value := Extern.ReflectliteType.method fun t => do Extern.Rtype.noPackHeld "Comparable" t; pure (.bool (← typeInfo t).comparable)
theorem Tryz.isComparableE (w : World) : (cmpFn #[.agg #[.pointer (some ⟨9, 48, none⟩)]]).run Tryz.prog w = .ok (.bool true) w := by kernel_rfl
theorem Tryz.isMethodComparable (v : Value) (w : World) : (Go.method 507 259 v "Comparable").run Tryz.prog w = .ok (295, v) w := by kernel_rfl
theorem Tryz.noIsF (v : Value) (xT : TypeId) (w : World) : (Instr.typeAssert (.iface 182 v) xT 261 true).run Tryz.prog w = .ok (.tuple #[.nilIface, .bool false]) w := run_typeAssert_lacksB Tryz.underlying261 (by kernel_rfl) (by kernel_rfl) v xT w
theorem Tryz.hasUnwrapF (v : Value) (xT : TypeId) (w : World) : (Instr.typeAssert (.iface 182 v) xT 264 true).run Tryz.prog w = .ok (.tuple #[.iface 182 v, .bool true]) w := run_typeAssert_hasB Tryz.underlying264 (by kernel_rfl) v xT w
theorem Tryz.methodUnwrap (v : Value) (w : World) : (Go.method 507 182 v "Unwrap").run Tryz.prog w = .ok (289, v) w := by kernel_rfl
theorem Tryz.noIsE (v : Value) (xT : TypeId) (w : World) : (Instr.typeAssert (.iface 48 v) xT 261 true).run Tryz.prog w = .ok (.tuple #[.nilIface, .bool false]) w := run_typeAssert_lacksB Tryz.underlying261 (by kernel_rfl) (by kernel_rfl) v xT w
theorem Tryz.noUnwrapE (v : Value) (xT : TypeId) (w : World) : (Instr.typeAssert (.iface 48 v) xT 264 true).run Tryz.prog w = .ok (.tuple #[.nilIface, .bool false]) w := run_typeAssert_lacksB Tryz.underlying264 (by kernel_rfl) (by kernel_rfl) v xT w
theorem Tryz.noUnwrapsE (v : Value) (xT : TypeId) (w : World) : (Instr.typeAssert (.iface 48 v) xT 266 true).run Tryz.prog w = .ok (.tuple #[.nilIface, .bool false]) w := run_typeAssert_lacksB Tryz.underlying266 (by kernel_rfl) (by kernel_rfl) v xT w
theorem isNil (t : Int) (w : World) : Calls Tryz.prog 46 #[.nilIface, .iface 48 (.int .i64 t)] w fun e w' => e = .returned (.bool false) ∧ w = w' := by
  have hn := run_eql_iface_nil_left (P := Tryz.prog) w 48 (.int .i64 t) Tryz.underlying25
  go_enter Tryz.func46, Tryz.ntmps46
  go_wp2
  go_ret
  exact ⟨rfl, rfl⟩
theorem Tryz.compE : (Tryz.prog.info? 48).map (·.comparable) = some true := by kernel_rfl
theorem eqlE (a b : Int) (w : World) : (binOp .eql 25 (.iface 48 (.int .i64 a)) (.iface 48 (.int .i64 b))).run Tryz.prog w = .ok (.bool (a == b)) w := Lib.run_eql_iface_int w a b Tryz.underlying25 Tryz.compE Tryz.underlying48
set_option maxRecDepth 100000 in
set_option maxHeartbeats 4000000 in
theorem isIsFault (b : Nat) (i e t : Int) (w : World) (h : w.heap[b]? = some (.cells #[.int .i64 i, .iface 48 (.int .i64 e)] 186 (0, 0))) : Calls Tryz.prog 100 #[.iface 182 (.pointer (some ⟨b, 0, none⟩)), .iface 48 (.int .i64 t), .bool true] w fun en w' => en = .returned (.bool (e == t)) ∧ w = w' := by
  have c1 : w.cell? ⟨b, 1, none⟩ = some (.iface 48 (.int .i64 e)) := by rw [Lib.cell_of_heap h]; rfl
  have nF := Tryz.noIsF
  have uF := Tryz.hasUnwrapF
  have mU := Tryz.methodUnwrap
  have nE := Tryz.noIsE
  have uE := Tryz.noUnwrapE
  have vE := Tryz.noUnwrapsE
  have hty := run_eql_iface_types (P := Tryz.prog) 182 48 (.pointer (some ⟨b, 0, none⟩)) (.int .i64 t) Tryz.underlying25 (by decide) w
  have he := eqlE e t w
  clear h
  cases hq : e == t with
  | true =>
    rw [hq] at he
    clear hq
    go_enter Tryz.func100, Tryz.ntmps100
    go_wp2_with fail
    refine wp_loop_rounds 2 ?_
    rw [rounds_succ]
    go_wp2
    rw [rounds_succ]
    go_wp2
    go_ret
    exact ⟨rfl, rfl⟩
  | false =>
    rw [hq] at he
    clear hq
    go_enter Tryz.func100, Tryz.ntmps100
    go_wp2_with fail
    refine wp_loop_rounds 2 ?_
    rw [rounds_succ]
    go_wp2
    rw [rounds_succ]
    go_wp2
    go_ret
    exact ⟨rfl, rfl⟩
set_option maxHeartbeats 1000000 in
theorem isFault (b : Nat) (i e t : Int) (w : World) (h : w.heap[b]? = some (.cells #[.int .i64 i, .iface 48 (.int .i64 e)] 186 (0, 0))) : Calls Tryz.prog 46 #[.iface 182 (.pointer (some ⟨b, 0, none⟩)), .iface 48 (.int .i64 t)] w fun en w' => en = .returned (.bool (e == t)) ∧ w = w' := by
  have h8 := @run_callFunc_extern Tryz.prog 99 _ Extern.ReflectliteType.typeOf Tryz.func99 (by kernel_rfl) (by kernel_rfl) (by kernel_rfl) (by kernel_rfl)
  have h32 := @run_callFunc_extern Tryz.prog 295 _ cmpFn Tryz.func295 (by kernel_rfl) (by kernel_rfl) (by kernel_rfl) (by kernel_rfl)
  have tT := Tryz.isTypeOfE
  have cT := Tryz.isComparableE
  have mR := Tryz.isMethodComparable
  have K := Lib.hid (isIsFault b i e t w h)
  clear h
  go_enter Tryz.func46, Tryz.ntmps46
  go_wp2_with fail
  refine K.out.mono ?_
  rintro e w1 ⟨rfl, rfl⟩
  go_wp2
  go_ret
  exact ⟨rfl, rfl⟩
/-- errors.Is of an error that is none, or a fault -/
def isB (x : Option (Int × Int)) (t : Int) : Bool := match x with | none => false | some (_, e) => e == t
theorem isErr (v : Value) (x : Option (Int × Int)) (t : Int) (w : World) (h : ErrAt v x w) : Calls Tryz.prog 46 #[v, .iface 48 (.int .i64 t)] w fun en w' => en = .returned (.bool (isB x t)) ∧ w = w' := by
  match x, h with
  | none, h => obtain rfl : v = .nilIface := h; exact isNil t w
  | some (i, e), ⟨b, h1, h2⟩ => subst h1; exact isFault b i e t w h2

theorem manWithin (n lo hi : Int) (w : World) : Calls Tryz.prog 102 #[.int .i64 n, .int .i64 lo, .int .i64 hi] w fun en w' => en = .returned (.bool (withinB n lo hi)) ∧ w = w' := by
  have hR : withinB n lo hi = (decide (lo ≤ n) && decide (n ≤ hi)) := rfl
  have HR := Lib.hid hR
  clear hR
  cases h1 : decide (lo ≤ n) with
  | false =>
    go_enter Tryz.func102, Tryz.ntmps102
    go_wp2
    go_ret
    exact ⟨by rw [HR.out, h1]; rfl, rfl⟩
  | true =>
    go_enter Tryz.func102, Tryz.ntmps102
    go_wp2
    go_ret
    exact ⟨by rw [HR.out, h1]; rfl, rfl⟩
set_option maxHeartbeats 1000000 in
theorem manIsName (s : ByteArray) (w : World) (hs : s.size ≤ maxLen) : Calls Tryz.prog 101 #[.string s] w fun en w' => en = .returned (.bool (nameB s)) ∧ Below w.heap.size w w' := by
  have K := Lib.hid (lexName s 0 w hs)
  clear hs
  go_enter Tryz.func101, Tryz.ntmps101
  go_wp2_with fail
  refine K.out.mono ?_
  rintro e w1 (⟨hq, rfl, hb⟩ | ⟨hq, v, rfl, he, hb⟩)
  · have HQ := Lib.hid hq
    have HB := Lib.hid hb
    clear hq hb
    go_wp2_with fail
    refine (isErr _ none 15 w1 rfl).mono ?_
    rintro e w2 ⟨rfl, rfl⟩
    go_wp2
    go_ret
    exact ⟨by rw [HQ.out]; rfl, HB.out⟩
  · have HQ := Lib.hid hq
    have HB := Lib.hid hb
    have HE := Lib.hid he
    clear hq hb he
    go_wp2_with fail
    refine (isErr _ _ 15 w1 HE.out).mono ?_
    rintro e w2 ⟨rfl, rfl⟩
    go_wp2
    go_ret
    exact ⟨by rw [HQ.out]; rfl, HB.out⟩
end Go.Proofs.YtefnkoofgpmmmaaGreatDoor

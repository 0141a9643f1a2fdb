/- errors.As at a fault's pointer; lexer.At; Wrong. Conditions: the library's variable errors.errorType holds the type error. -/
import Derived.Test.YtefnkoofgpmmmaaGreatDoorNam
import Derived.Deep.RegionHeld3
namespace Go.Proofs.YtefnkoofgpmmmaaGreatDoor
set_option maxRecDepth 100000
open Go.RowKit Go.Extern.Stop Go.Stop Go.Extern

/-- errors.As(nil, target). -/
theorem as_nil (t : Value) (w : World) :
    Calls Tryz.prog 96 #[.nilIface, t] w fun e w' => e = .returned (.bool false) ∧ w' = w := by
  go_enter Tryz.func96, Tryz.ntmps96
  go_wp2
  go_ret
  exact ⟨rfl, rfl⟩

/-! ### CLOSED FACTS ON THE MODEL's ENTRIES FOR internal/reflectlite, at this program's types: 25: *api.Fault · 27: **api.Fault · 23: error · 45: reflectlite's rtype · 1: how many package-level variables the dump has -/
theorem Tryz.as_valueOfPP (t : Addr) (w : World) : (ReflectliteValue.unpack (.iface 184 (.pointer (some t)))).run Tryz.prog w
    = .ok (.agg #[.pointer (some ⟨9, 184, none⟩), .pointer (some ⟨w.heap.size, 0, none⟩), .int .u64 150]) (w.alloc (.cells #[.pointer (some t)] 184)) := by kernel_rfl
theorem Tryz.as_typePP (a : Addr) (w : World) : (ReflectliteValue.methodAny (ReflectliteValue.valueError "reflectlite.Value.Type" 0) (fun t _ _ _ => ReflectliteType.toType t) #[.agg #[.pointer (some ⟨9, 184, none⟩), .pointer (some a), .int .u64 150]]).run Tryz.prog w
    = .ok (.iface 259 (.agg #[.pointer (some ⟨9, 184, none⟩)])) w := by kernel_rfl
theorem Tryz.as_methodKind (h : Value) (w : World) : (Go.method 507 259 (.agg #[h]) "Kind").run Tryz.prog w = .ok (283, h) w := by kernel_rfl
theorem Tryz.as_kindPP (w : World) : ((ReflectliteType.abiMethod fun t => (fun a : Nat => Value.int IntKind.u8 (a : Int)) <$> Rtype.kind t) #[.pointer (some ⟨9, 184, none⟩)]).run Tryz.prog w = .ok (.int .u8 22) w := by kernel_rfl
theorem Tryz.as_kindP (w : World) : ((ReflectliteType.abiMethod fun t => (fun a : Nat => Value.int IntKind.u8 (a : Int)) <$> Rtype.kind t) #[.pointer (some ⟨9, 182, none⟩)]).run Tryz.prog w = .ok (.int .u8 22) w := by kernel_rfl

/-! ### THE ENTRIES THAT READ OR WRITE MEMORY: laws with a premise on the cell (after Derived/Lib/ReflectliteSlice.lean's manner: each unfolding a lemma of its own, by rfl) -/
theorem rlm (z : Sem Value) (f : TypeId → Addr → Nat → Nat → Sem Value) (v : Value) :
    ReflectliteValue.method z f #[v] = (do match ← ReflectliteValue.parts v with | none => z | some (t, a, fl) => f t a fl (fl % 32)) := rfl
theorem Tryz.as_partsPP (a : Addr) (w : World) : (ReflectliteValue.parts (.agg #[.pointer (some ⟨9, 184, none⟩), .pointer (some a), .int .u64 150])).run Tryz.prog w = .ok (some (184, a, 150)) w := by kernel_rfl
/-- (Value).IsNil at the Value of a **api.Fault that is not nil. -/
theorem Tryz.as_isNilPP (a p : Addr) (W : World) (ha : W.cell? a = some (.pointer (some p))) :
    (ReflectliteValue.method (ReflectliteValue.valueError "reflectlite.Value.IsNil" 0) ReflectliteValue.isNil #[.agg #[.pointer (some ⟨9, 184, none⟩), .pointer (some a), .int .u64 150]]).run Tryz.prog W = .ok (.bool false) W := by
  rw [rlm]
  simp only [Sem.run_bind, Tryz.as_partsPP, Result.andThen]
  simp [ReflectliteValue.isNil, loadVar, isAgg, underlying, Tryz.underlying184, ha, Result.andThen]

theorem Tryz.as_methodElem (h : Value) (w : World) : (Go.method 507 259 (.agg #[h]) "Elem").run Tryz.prog w = .ok (296, .agg #[h]) w := by kernel_rfl
theorem Tryz.as_methodImplements (h : Value) (w : World) : (Go.method 507 259 (.agg #[h]) "Implements").run Tryz.prog w = .ok (297, .agg #[h]) w := by kernel_rfl
theorem Tryz.as_methodAssignableTo (h : Value) (w : World) : (Go.method 507 259 (.agg #[h]) "AssignableTo").run Tryz.prog w = .ok (294, .agg #[h]) w := by kernel_rfl
theorem Tryz.as_elemPP (w : World) : (ReflectliteType.method ReflectliteType.elem #[.agg #[.pointer (some ⟨9, 184, none⟩)]]).run Tryz.prog w = .ok (.iface 259 (.agg #[.pointer (some ⟨9, 182, none⟩)])) w := by kernel_rfl
theorem Tryz.as_implementsP (w : World) : (ReflectliteType.relation "Implements" ReflectliteType.implements_ #[.agg #[.pointer (some ⟨9, 182, none⟩)], .iface 259 (.agg #[.pointer (some ⟨9, 25, none⟩)])]).run Tryz.prog w = .ok (.bool true) w := by kernel_rfl
theorem Tryz.as_typeOfP (v : Value) (w : World) : (ReflectliteType.typeOf #[.iface 182 v]).run Tryz.prog w = .ok (.iface 259 (.agg #[.pointer (some ⟨9, 182, none⟩)])) w := by kernel_rfl
theorem Tryz.as_assignableP (w : World) : (ReflectliteType.relation "AssignableTo" ReflectliteType.assignableTo #[.agg #[.pointer (some ⟨9, 182, none⟩)], .iface 259 (.agg #[.pointer (some ⟨9, 182, none⟩)])]).run Tryz.prog w = .ok (.bool true) w := by kernel_rfl
theorem Tryz.as_valueOfP (e : Addr) (w : World) : (ReflectliteValue.unpack (.iface 182 (.pointer (some e)))).run Tryz.prog w
    = .ok (.agg #[.pointer (some ⟨9, 182, none⟩), .pointer (some ⟨w.heap.size, 0, none⟩), .int .u64 150]) (w.alloc (.cells #[.pointer (some e)] 182)) := by kernel_rfl

theorem Tryz.as_elemOfPP (w : World) : (Rtype.elem? 184).run Tryz.prog w = .ok (some 182) w := by kernel_rfl
theorem Tryz.as_mkP (p : Addr) (w : World) : (ReflectliteValue.mk 182 p ReflectliteValue.flagAddr).run Tryz.prog w = .ok (.agg #[.pointer (some ⟨9, 182, none⟩), .pointer (some p), .int .u64 406]) w := by kernel_rfl
/-- (Value).Elem at the Value of a **api.Fault that is not nil: the Value of the *api.Fault variable that it points to, addressable. -/
theorem Tryz.as_elemVPP (a p : Addr) (W : World) (ha : W.cell? a = some (.pointer (some p))) :
    (ReflectliteValue.method (ReflectliteValue.valueError "reflectlite.Value.Elem" 0) ReflectliteValue.elem #[.agg #[.pointer (some ⟨9, 184, none⟩), .pointer (some a), .int .u64 150]]).run Tryz.prog W
      = .ok (.agg #[.pointer (some ⟨9, 182, none⟩), .pointer (some p), .int .u64 406]) W := by
  rw [rlm]
  simp only [Sem.run_bind, Tryz.as_partsPP, Result.andThen]
  simp [ReflectliteValue.elem, loadVar, isAgg, underlying, Tryz.underlying184, ha, Result.andThen, Tryz.as_elemOfPP, Tryz.as_mkP]
theorem rls (v x : Value) : ReflectliteValue.set #[v, x] = (do
    let (some (dst, a, fl), some (src, b, _)) := (← ReflectliteValue.parts v, ← ReflectliteValue.parts x)
      | unsupported (.noEntry "extern/(internal/reflectlite.Value).Set.zeroValue")
    if fl / ReflectliteValue.flagAddr % 2 == 0 then unsupported (.noEntry "extern/(internal/reflectlite.Value).Set.unaddressable")
    let val ← loadVar src b
    if ← Rtype.directlyAssignable dst src then storeVar dst a val
    else if ← Rtype.implements dst src then
      if (← Rtype.kind src) == 20 then
        match val with
        | .nilIface => unsupported (.noEntry "extern/reflectlite: a nil value of one interface type handed on as a value of another")
        | _ => storeVar dst a val
      else storeVar dst a (.iface src val)
    else panicString ("reflectlite.Set: value of type " ++ (← Rtype.spelt src) ++ " is not assignable to type " ++ (← Rtype.spelt dst))
    pure (.tuple #[])) := rfl
theorem Tryz.as_partsPa (a : Addr) (w : World) : (ReflectliteValue.parts (.agg #[.pointer (some ⟨9, 182, none⟩), .pointer (some a), .int .u64 406])).run Tryz.prog w = .ok (some (182, a, 406)) w := by kernel_rfl
theorem Tryz.as_partsP (a : Addr) (w : World) : (ReflectliteValue.parts (.agg #[.pointer (some ⟨9, 182, none⟩), .pointer (some a), .int .u64 150])).run Tryz.prog w = .ok (some (182, a, 150)) w := by kernel_rfl
theorem Tryz.as_directP (w : World) : (Rtype.directlyAssignable 182 182).run Tryz.prog w = .ok true w := by kernel_rfl
theorem Tryz.as_sizeP (w : World) : (sizeOf 182).run Tryz.prog w = .ok 1 w := by kernel_rfl
/-- (Value).Set: the *api.Fault variable at 'ta' gets what the Value's own variable 'b' holds. -/
theorem Tryz.as_setP (ta b e : Addr) (old : Value) (W : World) (hb : W.cell? b = some (.pointer (some e))) (ht : W.cell? ta = some old) (hf : W.frozen? ta = false) :
    (ReflectliteValue.set #[.agg #[.pointer (some ⟨9, 182, none⟩), .pointer (some ta), .int .u64 406], .agg #[.pointer (some ⟨9, 182, none⟩), .pointer (some b), .int .u64 150]]).run Tryz.prog W
      = .ok (.tuple #[]) (W.setCell ta (.pointer (some e))) := by
  rw [rls]
  simp only [Sem.run_bind, Tryz.as_partsPa, Tryz.as_partsP, Result.andThen]
  simp [ReflectliteValue.flagAddr, loadVar, isAgg, underlying, Tryz.underlying182, hb, Result.andThen, Tryz.as_directP, storeVar, Value.cells, storeCells, Addr.add]
  rw [run_store Tryz.prog W ta _ _ (by rfl)]
  simp [ht, hf]

set_option maxHeartbeats 4000000 in
theorem as_hit (e t : Addr) (old : Value) (w : World) (hg : w.cell? ⟨0, 0, none⟩ = some (.iface 259 (.agg #[.pointer (some ⟨9, 25, none⟩)]))) (ht0 : w.cell? t = some old) (hf0 : w.frozen? t = false) :
    Calls Tryz.prog 96 #[.iface 182 (.pointer (some e)), .iface 184 (.pointer (some t))] w fun ev w' => ev = .returned (.bool true) ∧ w' = ((((w.alloc (.cells #[.pointer (some t)] 184)).alloc (.cells #[.pointer (some ⟨9, 184, none⟩), .pointer (some ⟨w.heap.size, 0, none⟩), .int .u64 150] 248)).alloc (.cells #[.pointer (some ⟨9, 184, none⟩), .pointer (some ⟨w.heap.size, 0, none⟩), .int .u64 150] 248)).alloc (.cells #[.pointer (some e)] 182)).setCell t (.pointer (some e)) := by
  have h6 := @run_callFunc_extern Tryz.prog 145 _ (fun args => ReflectliteValue.unpack (args.getD 0 (.tuple #[]))) Tryz.func145 (by kernel_rfl) (by kernel_rfl) (by kernel_rfl) (by kernel_rfl)
  have h7 := @run_callFunc_extern Tryz.prog 146 _ (ReflectliteValue.methodAny (ReflectliteValue.valueError "reflectlite.Value.Type" 0) (fun t _ _ _ => ReflectliteType.toType t)) Tryz.func146 (by kernel_rfl) (by kernel_rfl) (by kernel_rfl) (by kernel_rfl)
  have h8 := @run_callFunc_extern Tryz.prog 147 _ (ReflectliteValue.method (ReflectliteValue.valueError "reflectlite.Value.IsNil" 0) ReflectliteValue.isNil) Tryz.func147 (by kernel_rfl) (by kernel_rfl) (by kernel_rfl) (by kernel_rfl)
  have h27 := @run_callFunc_extern Tryz.prog 283 _ (ReflectliteType.abiMethod fun t => do pure (.int .u8 (← Rtype.kind t))) Tryz.func283 (by kernel_rfl) (by kernel_rfl) (by kernel_rfl) (by kernel_rfl)
  have h37 := @run_callFunc_extern Tryz.prog 296 _ (ReflectliteType.method ReflectliteType.elem) Tryz.func296 (by kernel_rfl) (by kernel_rfl) (by kernel_rfl) (by kernel_rfl)
  have h38 := @run_callFunc_extern Tryz.prog 297 _ (ReflectliteType.relation "Implements" ReflectliteType.implements_) Tryz.func297 (by kernel_rfl) (by kernel_rfl) (by kernel_rfl) (by kernel_rfl)
  have h10 := @run_callFunc_extern Tryz.prog 99 _ ReflectliteType.typeOf Tryz.func99 (by kernel_rfl) (by kernel_rfl) (by kernel_rfl) (by kernel_rfl)
  have h35 := @run_callFunc_extern Tryz.prog 294 _ (ReflectliteType.relation "AssignableTo" ReflectliteType.assignableTo) Tryz.func294 (by kernel_rfl) (by kernel_rfl) (by kernel_rfl) (by kernel_rfl)
  have h11 := @run_callFunc_extern Tryz.prog 201 _ (ReflectliteValue.method (ReflectliteValue.valueError "reflectlite.Value.Elem" 0) ReflectliteValue.elem) Tryz.func201 (by kernel_rfl) (by kernel_rfl) (by kernel_rfl) (by kernel_rfl)
  have h12 := @run_callFunc_extern Tryz.prog 202 _ ReflectliteValue.set Tryz.func202 (by kernel_rfl) (by kernel_rfl) (by kernel_rfl) (by kernel_rfl)
  have tO := Tryz.as_typeOfP
  have mA := Tryz.as_methodAssignableTo
  have a25 := Tryz.as_assignableP
  have v25 := Tryz.as_valueOfP
  have f6 := Tryz.as_valueOfPP
  have f7 := Tryz.as_typePP
  have mK := Tryz.as_methodKind
  have mE := Tryz.as_methodElem
  have mI := Tryz.as_methodImplements
  have k27 := Tryz.as_kindPP
  have k25 := Tryz.as_kindP
  have e27 := Tryz.as_elemPP
  have i25 := Tryz.as_implementsP
  have n8 := Tryz.as_isNilPP ⟨w.heap.size, 0, none⟩ t ((w.alloc (.cells #[.pointer (some t)] 184)).alloc (.cells #[.pointer (some ⟨9, 184, none⟩), .pointer (some ⟨w.heap.size, 0, none⟩), .int .u64 150] 248)) (by simp)
  have hlt : 0 < w.heap.size := by
    rcases Nat.eq_zero_or_pos w.heap.size with h0 | h
    · simp [World.cell?, h0] at hg
    · exact h
  have hg2 : ((w.alloc (.cells #[.pointer (some t)] 184)).alloc (.cells #[.pointer (some ⟨9, 184, none⟩), .pointer (some ⟨w.heap.size, 0, none⟩), .int .u64 150] 248)).cell? ⟨0, 0, none⟩ = some (.iface 259 (.agg #[.pointer (some ⟨9, 25, none⟩)])) := by
    rw [World.cell?_alloc_lt _ _ ⟨0, 0, none⟩ (by simp), World.cell?_alloc_lt _ _ ⟨0, 0, none⟩ hlt]; exact hg
  have htl : t.block < w.heap.size := by
    rcases Nat.lt_or_ge t.block w.heap.size with h | h
    · exact h
    · simp [World.cell?, Array.getElem?_eq_none h] at ht0
  have el := Tryz.as_elemVPP ⟨w.heap.size, 0, none⟩ t (((w.alloc (.cells #[.pointer (some t)] 184)).alloc (.cells #[.pointer (some ⟨9, 184, none⟩), .pointer (some ⟨w.heap.size, 0, none⟩), .int .u64 150] 248)).alloc (.cells #[.pointer (some ⟨9, 184, none⟩), .pointer (some ⟨w.heap.size, 0, none⟩), .int .u64 150] 248)) (by rw [World.cell?_alloc_lt _ _ ⟨w.heap.size, 0, none⟩ (by simp; omega)]; simp)
  have st := Tryz.as_setP t ⟨w.heap.size + 1 + 1 + 1, 0, none⟩ e old ((((w.alloc (.cells #[.pointer (some t)] 184)).alloc (.cells #[.pointer (some ⟨9, 184, none⟩), .pointer (some ⟨w.heap.size, 0, none⟩), .int .u64 150] 248)).alloc (.cells #[.pointer (some ⟨9, 184, none⟩), .pointer (some ⟨w.heap.size, 0, none⟩), .int .u64 150] 248)).alloc (.cells #[.pointer (some e)] 182))
    (by rw [World.cell?_alloc_at _ _ _ _ (by simp)]; rfl)
    (by rw [World.cell?_alloc_lt _ _ t (by simp; omega), World.cell?_alloc_lt _ _ t (by simp; omega), World.cell?_alloc_lt _ _ t (by simp; omega), World.cell?_alloc_lt _ _ t htl]; exact ht0)
    (by rw [World.frozen?_alloc_old _ _ t (by simp; omega), World.frozen?_alloc_old _ _ t (by simp; omega), World.frozen?_alloc_old _ _ t (by simp; omega), World.frozen?_alloc_old _ _ t (Nat.ne_of_lt htl)]; exact hf0)
  go_enter Tryz.func96, Tryz.ntmps96
  go_wp2
  refine wp_loop_rounds 1 ?_
  rw [rounds_succ]
  go_wp2
  go_ret
  exact ⟨rfl, rfl⟩


/-- the library's variable holds the type error -/
def MetE (w : World) : Prop := w.cell? ⟨0, 0, none⟩ = some (.iface 259 (.agg #[.pointer (some ⟨9, 25, none⟩)]))
theorem MetE.lt {w : World} (h : MetE w) : 0 < w.heap.size := cell_lt h
theorem MetE.below {w w' : World} (h : MetE w) (hb : Below w.heap.size w w') : MetE w' := (hb.cell (p := ⟨0, 0, none⟩) h.lt).trans h
def atE (x : Option (Int × Int)) : Int := match x with | none => -1 | some (i, _) => i
theorem asHit (e : Addr) (w : World) (hg : MetE w) : Calls Tryz.prog 96 #[.iface 182 (.pointer (some e)), .iface 184 (.pointer (some ⟨w.heap.size, 0, none⟩))] (w.alloc (.cells #[.pointer none] 182)) fun ev w' =>
    ev = .returned (.bool true) ∧ Below w.heap.size w w' ∧ w'.cell? ⟨w.heap.size, 0, none⟩ = some (.pointer (some e)) := by
  have hb := below1 w (.cells #[.pointer none] 182)
  refine (as_hit e ⟨w.heap.size, 0, none⟩ (.pointer none) _ (hg.below hb) (by go_simp) (by go_simp)).mono ?_
  rintro ev w' ⟨rfl, rfl⟩
  refine ⟨rfl, ?_, ?_⟩
  · refine Below.setCell ?_ (p := ⟨w.heap.size, 0, none⟩) (Nat.le_refl _) _
    exact (((hb.alloc (by simp) _).alloc (by simp; omega) _).alloc (by simp; omega) _).alloc (by simp; omega) _
  · go_simp
set_option maxHeartbeats 1000000 in
theorem lexAt (v : Value) (x : Option (Int × Int)) (w : World) (h : ErrAt v x w) (hg : MetE w) : Calls Tryz.prog 42 #[v] w fun en w' => en = .returned (.int .i64 (atE x)) ∧ Below w.heap.size w w' := by
  match x, h with
  | none, h =>
    obtain rfl : v = .nilIface := h
    go_enter Tryz.func42, Tryz.ntmps42
    go_wp2_with fail
    refine (as_nil _ _).mono ?_
    rintro e w1 ⟨rfl, rfl⟩
    go_wp2
    go_ret
    exact ⟨rfl, below1 _ _⟩
  | some (i, e), ⟨b, h1, h2⟩ =>
    subst h1
    have H2 := Lib.hid h2
    have HG := Lib.hid hg
    clear h2 hg
    go_enter Tryz.func42, Tryz.ntmps42
    go_wp2_with fail
    refine (asHit ⟨b, 0, none⟩ w HG.out).mono ?_
    rintro e w1 ⟨rfl, hb, hc⟩
    have c0 : w1.cell? ⟨b, 0, none⟩ = some (.int .i64 i) := by
      have : w1.heap[b]? = _ := (hb.block b (Array.getElem?_eq_some_iff.1 H2.out).1).trans H2.out
      rw [Lib.cell_of_heap this]; rfl
    have HB := Lib.hid hb
    clear hb
    go_wp2
    go_ret
    exact ⟨rfl, HB.out⟩
set_option maxHeartbeats 1000000 in
theorem wrongC (v : Value) (x : Option (Int × Int)) (e at_ : Int) (w : World) (h : ErrAt v x w) (hg : MetE w) : Calls Tryz.prog 15 #[v, .int .i64 e, .int .i64 at_] w fun en w' => en = .returned (.bool (isB x e && atE x == at_)) ∧ Below w.heap.size w w' := by
  have K1 := Lib.hid (fun W (hb : Below w.heap.size w W) => isErr v x e W (h.below hb))
  have K2 := Lib.hid (fun W (hb : Below w.heap.size w W) => lexAt v x W (h.below hb) (hg.below hb))
  generalize isB x e = q1 at K1 ⊢
  generalize atE x = q2 at K2 ⊢
  clear h hg
  go_enter Tryz.func15, Tryz.ntmps15
  go_wp2_with fail
  refine (K1.out _ (Below.refl _ _)).mono ?_
  rintro en w1 ⟨rfl, rfl⟩
  cases q1 with
  | false =>
    go_wp2
    go_ret
    exact ⟨rfl, Below.refl _ _⟩
  | true =>
    go_wp2_with fail
    refine (K2.out _ (Below.refl _ _)).mono ?_
    rintro en w1 ⟨rfl, hb⟩
    go_wp2
    go_ret
    exact ⟨rfl, hb⟩
end Go.Proofs.YtefnkoofgpmmmaaGreatDoor

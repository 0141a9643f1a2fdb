/- errors.As at a fault's pointer; lexer.At; Wrong. Conditions: the library's variable errors.errorType holds the type error. -/
import Derived.Test.YtbbcicengfmhiaaDoorNam
import Derived.Deep.RegionHeld3
namespace Go.Proofs.YtbbcicengfmhiaaDoor
set_option maxRecDepth 100000
open Go.RowKit Go.Extern.Stop Go.Stop Go.Extern

/-- errors.As(nil, target). -/
theorem as_nil (t : Value) (w : World) :
    Calls Tryd.prog 144 #[.nilIface, t] w fun e w' => e = .returned (.bool false) ∧ w' = w := by
  go_enter Tryd.func144, Tryd.ntmps144
  go_wp2
  go_ret
  exact ⟨rfl, rfl⟩

/-! ### CLOSED FACTS ON THE MODEL's ENTRIES FOR internal/reflectlite, at this program's types: 25: *api.Fault · 27: **api.Fault · 23: error · 45: reflectlite's rtype · 1: how many package-level variables the dump has -/
theorem Tryd.as_valueOfPP (t : Addr) (w : World) : (ReflectliteValue.unpack (.iface 207 (.pointer (some t)))).run Tryd.prog w
    = .ok (.agg #[.pointer (some ⟨9, 207, none⟩), .pointer (some ⟨w.heap.size, 0, none⟩), .int .u64 150]) (w.alloc (.cells #[.pointer (some t)] 207)) := by kernel_rfl
theorem Tryd.as_typePP (a : Addr) (w : World) : (ReflectliteValue.methodAny (ReflectliteValue.valueError "reflectlite.Value.Type" 0) (fun t _ _ _ => ReflectliteType.toType t) #[.agg #[.pointer (some ⟨9, 207, none⟩), .pointer (some a), .int .u64 150]]).run Tryd.prog w
    = .ok (.iface 223 (.agg #[.pointer (some ⟨9, 207, none⟩)])) w := by kernel_rfl
theorem Tryd.as_methodKind (h : Value) (w : World) : (Go.method 428 223 (.agg #[h]) "Kind").run Tryd.prog w = .ok (235, h) w := by kernel_rfl
theorem Tryd.as_kindPP (w : World) : ((ReflectliteType.abiMethod fun t => (fun a : Nat => Value.int IntKind.u8 (a : Int)) <$> Rtype.kind t) #[.pointer (some ⟨9, 207, none⟩)]).run Tryd.prog w = .ok (.int .u8 22) w := by kernel_rfl
theorem Tryd.as_kindP (w : World) : ((ReflectliteType.abiMethod fun t => (fun a : Nat => Value.int IntKind.u8 (a : Int)) <$> Rtype.kind t) #[.pointer (some ⟨9, 175, none⟩)]).run Tryd.prog w = .ok (.int .u8 22) w := by kernel_rfl

/-! ### THE ENTRIES THAT READ OR WRITE MEMORY: laws with a premise on the cell (after Derived/Lib/ReflectliteSlice.lean's manner: each unfolding a lemma of its own, by rfl) -/
theorem rlm (z : Sem Value) (f : TypeId → Addr → Nat → Nat → Sem Value) (v : Value) :
    ReflectliteValue.method z f #[v] = (do match ← ReflectliteValue.parts v with | none => z | some (t, a, fl) => f t a fl (fl % 32)) := rfl
theorem Tryd.as_partsPP (a : Addr) (w : World) : (ReflectliteValue.parts (.agg #[.pointer (some ⟨9, 207, none⟩), .pointer (some a), .int .u64 150])).run Tryd.prog w = .ok (some (207, a, 150)) w := by kernel_rfl
/-- (Value).IsNil at the Value of a **api.Fault that is not nil. -/
theorem Tryd.as_isNilPP (a p : Addr) (W : World) (ha : W.cell? a = some (.pointer (some p))) :
    (ReflectliteValue.method (ReflectliteValue.valueError "reflectlite.Value.IsNil" 0) ReflectliteValue.isNil #[.agg #[.pointer (some ⟨9, 207, none⟩), .pointer (some a), .int .u64 150]]).run Tryd.prog W = .ok (.bool false) W := by
  rw [rlm]
  simp only [Sem.run_bind, Tryd.as_partsPP, Result.andThen]
  simp [ReflectliteValue.isNil, loadVar, isAgg, underlying, Tryd.underlying207, ha, Result.andThen]

theorem Tryd.as_methodElem (h : Value) (w : World) : (Go.method 428 223 (.agg #[h]) "Elem").run Tryd.prog w = .ok (245, .agg #[h]) w := by kernel_rfl
theorem Tryd.as_methodImplements (h : Value) (w : World) : (Go.method 428 223 (.agg #[h]) "Implements").run Tryd.prog w = .ok (246, .agg #[h]) w := by kernel_rfl
theorem Tryd.as_methodAssignableTo (h : Value) (w : World) : (Go.method 428 223 (.agg #[h]) "AssignableTo").run Tryd.prog w = .ok (243, .agg #[h]) w := by kernel_rfl
theorem Tryd.as_elemPP (w : World) : (ReflectliteType.method ReflectliteType.elem #[.agg #[.pointer (some ⟨9, 207, none⟩)]]).run Tryd.prog w = .ok (.iface 223 (.agg #[.pointer (some ⟨9, 175, none⟩)])) w := by kernel_rfl
theorem Tryd.as_implementsP (w : World) : (ReflectliteType.relation "Implements" ReflectliteType.implements_ #[.agg #[.pointer (some ⟨9, 175, none⟩)], .iface 223 (.agg #[.pointer (some ⟨9, 35, none⟩)])]).run Tryd.prog w = .ok (.bool true) w := by kernel_rfl
theorem Tryd.as_typeOfP (v : Value) (w : World) : (ReflectliteType.typeOf #[.iface 175 v]).run Tryd.prog w = .ok (.iface 223 (.agg #[.pointer (some ⟨9, 175, none⟩)])) w := by kernel_rfl
theorem Tryd.as_assignableP (w : World) : (ReflectliteType.relation "AssignableTo" ReflectliteType.assignableTo #[.agg #[.pointer (some ⟨9, 175, none⟩)], .iface 223 (.agg #[.pointer (some ⟨9, 175, none⟩)])]).run Tryd.prog w = .ok (.bool true) w := by kernel_rfl
theorem Tryd.as_valueOfP (e : Addr) (w : World) : (ReflectliteValue.unpack (.iface 175 (.pointer (some e)))).run Tryd.prog w
    = .ok (.agg #[.pointer (some ⟨9, 175, none⟩), .pointer (some ⟨w.heap.size, 0, none⟩), .int .u64 150]) (w.alloc (.cells #[.pointer (some e)] 175)) := by kernel_rfl

theorem Tryd.as_elemOfPP (w : World) : (Rtype.elem? 207).run Tryd.prog w = .ok (some 175) w := by kernel_rfl
theorem Tryd.as_mkP (p : Addr) (w : World) : (ReflectliteValue.mk 175 p ReflectliteValue.flagAddr).run Tryd.prog w = .ok (.agg #[.pointer (some ⟨9, 175, none⟩), .pointer (some p), .int .u64 406]) w := by kernel_rfl
/-- (Value).Elem at the Value of a **api.Fault that is not nil: the Value of the *api.Fault variable that it points to, addressable. -/
theorem Tryd.as_elemVPP (a p : Addr) (W : World) (ha : W.cell? a = some (.pointer (some p))) :
    (ReflectliteValue.method (ReflectliteValue.valueError "reflectlite.Value.Elem" 0) ReflectliteValue.elem #[.agg #[.pointer (some ⟨9, 207, none⟩), .pointer (some a), .int .u64 150]]).run Tryd.prog W
      = .ok (.agg #[.pointer (some ⟨9, 175, none⟩), .pointer (some p), .int .u64 406]) W := by
  rw [rlm]
  simp only [Sem.run_bind, Tryd.as_partsPP, Result.andThen]
  simp [ReflectliteValue.elem, loadVar, isAgg, underlying, Tryd.underlying207, ha, Result.andThen, Tryd.as_elemOfPP, Tryd.as_mkP]
theorem rls (v x : Value) : ReflectliteValue.set #[v, x] = (do
    let (some (dst, a, fl), some (src, b, _)) := (← ReflectliteValue.parts v, ← ReflectliteValue.parts x)
      | unsupported (.noEntry "extern/(internal/reflectlite.Value).Set.zeroValue")
    if fl / ReflectliteValue.flagAddr % 2 == 0 then unsupported (.noEntry "extern/(internal/reflectlite.Value).Set.unaddressable")
    let val ← loadVar src b
    if ← Rtype.directlyAssignable dst src then storeVar dst a val
    else if ← Rtype.implements dst src then
      if (← Rtype.kind src) == 20 then
        match val with
        | .nilIface => unsupported (.noEntry "extern/reflectlite: a nil value of one interface type handed on as a value of another")
        | _ => storeVar dst a val
      else storeVar dst a (.iface src val)
    else panicString ("reflectlite.Set: value of type " ++ (← Rtype.spelt src) ++ " is not assignable to type " ++ (← Rtype.spelt dst))
    pure (.tuple #[])) := rfl
theorem Tryd.as_partsPa (a : Addr) (w : World) : (ReflectliteValue.parts (.agg #[.pointer (some ⟨9, 175, none⟩), .pointer (some a), .int .u64 406])).run Tryd.prog w = .ok (some (175, a, 406)) w := by kernel_rfl
theorem Tryd.as_partsP (a : Addr) (w : World) : (ReflectliteValue.parts (.agg #[.pointer (some ⟨9, 175, none⟩), .pointer (some a), .int .u64 150])).run Tryd.prog w = .ok (some (175, a, 150)) w := by kernel_rfl
theorem Tryd.as_directP (w : World) : (Rtype.directlyAssignable 175 175).run Tryd.prog w = .ok true w := by kernel_rfl
theorem Tryd.as_sizeP (w : World) : (sizeOf 175).run Tryd.prog w = .ok 1 w := by kernel_rfl
/-- (Value).Set: the *api.Fault variable at 'ta' gets what the Value's own variable 'b' holds. -/
theorem Tryd.as_setP (ta b e : Addr) (old : Value) (W : World) (hb : W.cell? b = some (.pointer (some e))) (ht : W.cell? ta = some old) (hf : W.frozen? ta = false) :
    (ReflectliteValue.set #[.agg #[.pointer (some ⟨9, 175, none⟩), .pointer (some ta), .int .u64 406], .agg #[.pointer (some ⟨9, 175, none⟩), .pointer (some b), .int .u64 150]]).run Tryd.prog W
      = .ok (.tuple #[]) (W.setCell ta (.pointer (some e))) := by
  rw [rls]
  simp only [Sem.run_bind, Tryd.as_partsPa, Tryd.as_partsP, Result.andThen]
  simp [ReflectliteValue.flagAddr, loadVar, isAgg, underlying, Tryd.underlying175, hb, Result.andThen, Tryd.as_directP, storeVar, Value.cells, storeCells, Addr.add]
  rw [run_store Tryd.prog W ta _ _ (by rfl)]
  simp [ht, hf]

set_option maxHeartbeats 4000000 in
theorem as_hit (e t : Addr) (old : Value) (w : World) (hg : w.cell? ⟨0, 0, none⟩ = some (.iface 223 (.agg #[.pointer (some ⟨9, 35, none⟩)]))) (ht0 : w.cell? t = some old) (hf0 : w.frozen? t = false) :
    Calls Tryd.prog 144 #[.iface 175 (.pointer (some e)), .iface 207 (.pointer (some t))] w fun ev w' => ev = .returned (.bool true) ∧ w' = ((((w.alloc (.cells #[.pointer (some t)] 207)).alloc (.cells #[.pointer (some ⟨9, 207, none⟩), .pointer (some ⟨w.heap.size, 0, none⟩), .int .u64 150] 236)).alloc (.cells #[.pointer (some ⟨9, 207, none⟩), .pointer (some ⟨w.heap.size, 0, none⟩), .int .u64 150] 236)).alloc (.cells #[.pointer (some e)] 175)).setCell t (.pointer (some e)) := by
  have h6 := @run_callFunc_extern Tryd.prog 162 _ (fun args => ReflectliteValue.unpack (args.getD 0 (.tuple #[]))) Tryd.func162 (by kernel_rfl) (by kernel_rfl) (by kernel_rfl) (by kernel_rfl)
  have h7 := @run_callFunc_extern Tryd.prog 163 _ (ReflectliteValue.methodAny (ReflectliteValue.valueError "reflectlite.Value.Type" 0) (fun t _ _ _ => ReflectliteType.toType t)) Tryd.func163 (by kernel_rfl) (by kernel_rfl) (by kernel_rfl) (by kernel_rfl)
  have h8 := @run_callFunc_extern Tryd.prog 164 _ (ReflectliteValue.method (ReflectliteValue.valueError "reflectlite.Value.IsNil" 0) ReflectliteValue.isNil) Tryd.func164 (by kernel_rfl) (by kernel_rfl) (by kernel_rfl) (by kernel_rfl)
  have h27 := @run_callFunc_extern Tryd.prog 235 _ (ReflectliteType.abiMethod fun t => do pure (.int .u8 (← Rtype.kind t))) Tryd.func235 (by kernel_rfl) (by kernel_rfl) (by kernel_rfl) (by kernel_rfl)
  have h37 := @run_callFunc_extern Tryd.prog 245 _ (ReflectliteType.method ReflectliteType.elem) Tryd.func245 (by kernel_rfl) (by kernel_rfl) (by kernel_rfl) (by kernel_rfl)
  have h38 := @run_callFunc_extern Tryd.prog 246 _ (ReflectliteType.relation "Implements" ReflectliteType.implements_) Tryd.func246 (by kernel_rfl) (by kernel_rfl) (by kernel_rfl) (by kernel_rfl)
  have h10 := @run_callFunc_extern Tryd.prog 142 _ ReflectliteType.typeOf Tryd.func142 (by kernel_rfl) (by kernel_rfl) (by kernel_rfl) (by kernel_rfl)
  have h35 := @run_callFunc_extern Tryd.prog 243 _ (ReflectliteType.relation "AssignableTo" ReflectliteType.assignableTo) Tryd.func243 (by kernel_rfl) (by kernel_rfl) (by kernel_rfl) (by kernel_rfl)
  have h11 := @run_callFunc_extern Tryd.prog 186 _ (ReflectliteValue.method (ReflectliteValue.valueError "reflectlite.Value.Elem" 0) ReflectliteValue.elem) Tryd.func186 (by kernel_rfl) (by kernel_rfl) (by kernel_rfl) (by kernel_rfl)
  have h12 := @run_callFunc_extern Tryd.prog 187 _ ReflectliteValue.set Tryd.func187 (by kernel_rfl) (by kernel_rfl) (by kernel_rfl) (by kernel_rfl)
  have tO := Tryd.as_typeOfP
  have mA := Tryd.as_methodAssignableTo
  have a25 := Tryd.as_assignableP
  have v25 := Tryd.as_valueOfP
  have f6 := Tryd.as_valueOfPP
  have f7 := Tryd.as_typePP
  have mK := Tryd.as_methodKind
  have mE := Tryd.as_methodElem
  have mI := Tryd.as_methodImplements
  have k27 := Tryd.as_kindPP
  have k25 := Tryd.as_kindP
  have e27 := Tryd.as_elemPP
  have i25 := Tryd.as_implementsP
  have n8 := Tryd.as_isNilPP ⟨w.heap.size, 0, none⟩ t ((w.alloc (.cells #[.pointer (some t)] 207)).alloc (.cells #[.pointer (some ⟨9, 207, none⟩), .pointer (some ⟨w.heap.size, 0, none⟩), .int .u64 150] 236)) (by simp)
  have hlt : 0 < w.heap.size := by
    rcases Nat.eq_zero_or_pos w.heap.size with h0 | h
    · simp [World.cell?, h0] at hg
    · exact h
  have hg2 : ((w.alloc (.cells #[.pointer (some t)] 207)).alloc (.cells #[.pointer (some ⟨9, 207, none⟩), .pointer (some ⟨w.heap.size, 0, none⟩), .int .u64 150] 236)).cell? ⟨0, 0, none⟩ = some (.iface 223 (.agg #[.pointer (some ⟨9, 35, none⟩)])) := by
    rw [World.cell?_alloc_lt _ _ ⟨0, 0, none⟩ (by simp), World.cell?_alloc_lt _ _ ⟨0, 0, none⟩ hlt]; exact hg
  have htl : t.block < w.heap.size := by
    rcases Nat.lt_or_ge t.block w.heap.size with h | h
    · exact h
    · simp [World.cell?, Array.getElem?_eq_none h] at ht0
  have el := Tryd.as_elemVPP ⟨w.heap.size, 0, none⟩ t (((w.alloc (.cells #[.pointer (some t)] 207)).alloc (.cells #[.pointer (some ⟨9, 207, none⟩), .pointer (some ⟨w.heap.size, 0, none⟩), .int .u64 150] 236)).alloc (.cells #[.pointer (some ⟨9, 207, none⟩), .pointer (some ⟨w.heap.size, 0, none⟩), .int .u64 150] 236)) (by rw [World.cell?_alloc_lt _ _ ⟨w.heap.size, 0, none⟩ (by simp; omega)]; simp)
  have st := Tryd.as_setP t ⟨w.heap.size + 1 + 1 + 1, 0, none⟩ e old ((((w.alloc (.cells #[.pointer (some t)] 207)).alloc (.cells #[.pointer (some ⟨9, 207, none⟩), .pointer (some ⟨w.heap.size, 0, none⟩), .int .u64 150] 236)).alloc (.cells #[.pointer (some ⟨9, 207, none⟩), .pointer (some ⟨w.heap.size, 0, none⟩), .int .u64 150] 236)).alloc (.cells #[.pointer (some e)] 175))
    (by rw [World.cell?_alloc_at _ _ _ _ (by simp)]; rfl)
    (by rw [World.cell?_alloc_lt _ _ t (by simp; omega), World.cell?_alloc_lt _ _ t (by simp; omega), World.cell?_alloc_lt _ _ t (by simp; omega), World.cell?_alloc_lt _ _ t htl]; exact ht0)
    (by rw [World.frozen?_alloc_old _ _ t (by simp; omega), World.frozen?_alloc_old _ _ t (by simp; omega), World.frozen?_alloc_old _ _ t (by simp; omega), World.frozen?_alloc_old _ _ t (Nat.ne_of_lt htl)]; exact hf0)
  go_enter Tryd.func144, Tryd.ntmps144
  go_wp2
  refine wp_loop_rounds 1 ?_
  rw [rounds_succ]
  go_wp2
  go_ret
  exact ⟨rfl, rfl⟩


/-- the library's variable holds the type error -/
def MetE (w : World) : Prop := w.cell? ⟨0, 0, none⟩ = some (.iface 223 (.agg #[.pointer (some ⟨9, 35, none⟩)]))
theorem MetE.lt {w : World} (h : MetE w) : 0 < w.heap.size := cell_lt h
theorem MetE.below {w w' : World} (h : MetE w) (hb : Below w.heap.size w w') : MetE w' := (hb.cell (p := ⟨0, 0, none⟩) h.lt).trans h
def atE (x : Option (Int × Int)) : Int := match x with | none => -1 | some (i, _) => i
theorem asHit (e : Addr) (w : World) (hg : MetE w) : Calls Tryd.prog 144 #[.iface 175 (.pointer (some e)), .iface 207 (.pointer (some ⟨w.heap.size, 0, none⟩))] (w.alloc (.cells #[.pointer none] 175)) fun ev w' =>
    ev = .returned (.bool true) ∧ Below w.heap.size w w' ∧ w'.cell? ⟨w.heap.size, 0, none⟩ = some (.pointer (some e)) := by
  have hb := below1 w (.cells #[.pointer none] 175)
  refine (as_hit e ⟨w.heap.size, 0, none⟩ (.pointer none) _ (hg.below hb) (by go_simp) (by go_simp)).mono ?_
  rintro ev w' ⟨rfl, rfl⟩
  refine ⟨rfl, ?_, ?_⟩
  · refine Below.setCell ?_ (p := ⟨w.heap.size, 0, none⟩) (Nat.le_refl _) _
    exact (((hb.alloc (by simp) _).alloc (by simp; omega) _).alloc (by simp; omega) _).alloc (by simp; omega) _
  · go_simp
set_option maxHeartbeats 1000000 in
theorem lexAt (v : Value) (x : Option (Int × Int)) (w : World) (h : ErrAt v x w) (hg : MetE w) : Calls Tryd.prog 108 #[v] w fun en w' => en = .returned (.int .i64 (atE x)) ∧ Below w.heap.size w w' := by
  match x, h with
  | none, h =>
    obtain rfl : v = .nilIface := h
    go_enter Tryd.func108, Tryd.ntmps108
    go_wp2_with fail
    refine (as_nil _ _).mono ?_
    rintro e w1 ⟨rfl, rfl⟩
    go_wp2
    go_ret
    exact ⟨rfl, below1 _ _⟩
  | some (i, e), ⟨b, h1, h2⟩ =>
    subst h1
    have H2 := Lib.hid h2
    have HG := Lib.hid hg
    clear h2 hg
    go_enter Tryd.func108, Tryd.ntmps108
    go_wp2_with fail
    refine (asHit ⟨b, 0, none⟩ w HG.out).mono ?_
    rintro e w1 ⟨rfl, hb, hc⟩
    have c0 : w1.cell? ⟨b, 0, none⟩ = some (.int .i64 i) := by
      have : w1.heap[b]? = _ := (hb.block b (Array.getElem?_eq_some_iff.1 H2.out).1).trans H2.out
      rw [Lib.cell_of_heap this]; rfl
    have HB := Lib.hid hb
    clear hb
    go_wp2
    go_ret
    exact ⟨rfl, HB.out⟩
set_option maxHeartbeats 1000000 in
theorem wrongC (v : Value) (x : Option (Int × Int)) (e at_ : Int) (w : World) (h : ErrAt v x w) (hg : MetE w) : Calls Tryd.prog 57 #[v, .int .i64 e, .int .i64 at_] w fun en w' => en = .returned (.bool (isB x e && atE x == at_)) ∧ Below w.heap.size w w' := by
  have K1 := Lib.hid (fun W (hb : Below w.heap.size w W) => isErr v x e W (h.below hb))
  have K2 := Lib.hid (fun W (hb : Below w.heap.size w W) => lexAt v x W (h.below hb) (hg.below hb))
  generalize isB x e = q1 at K1 ⊢
  generalize atE x = q2 at K2 ⊢
  clear h hg
  go_enter Tryd.func57, Tryd.ntmps57
  go_wp2_with fail
  refine (K1.out _ (Below.refl _ _)).mono ?_
  rintro en w1 ⟨rfl, rfl⟩
  cases q1 with
  | false =>
    go_wp2
    go_ret
    exact ⟨rfl, Below.refl _ _⟩
  | true =>
    go_wp2_with fail
    refine (K2.out _ (Below.refl _ _)).mono ?_
    rintro en w1 ⟨rfl, hb⟩
    go_wp2
    go_ret
    exact ⟨rfl, hb⟩
end Go.Proofs.YtbbcicengfmhiaaDoor

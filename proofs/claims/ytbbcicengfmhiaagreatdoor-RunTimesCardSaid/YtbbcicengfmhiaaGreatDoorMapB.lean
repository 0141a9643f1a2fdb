/- A map of the call's own, read as a list of keys and elements: make, look-up, store, len. No program here; the key's type is told by 'KeyOf'. -/
import Derived.Test.YtbbcicengfmhiaaGreatDoorBase
import Derived.Maps.OwnSet
import Derived.Laws.StructEq
namespace Go.Proofs.YtbbcicengfmhiaaGreatDoor
open Go.RowKit

section
variable {κ ν : Type}

/-- the element at a key -/
def mlook [BEq κ] (l : List (κ × ν)) (k : κ) : Option ν := (l.find? fun p => k == p.1).map (·.2)
/-- a store -/
def mput [BEq κ] (l : List (κ × ν)) (k : κ) (v : ν) : List (κ × ν) :=
  match l with
  | [] => [(k, v)]
  | p :: l => if k == p.1 then (k, v) :: l else p :: mput l k v

theorem mlook_nil [BEq κ] (k : κ) : mlook ([] : List (κ × ν)) k = none := rfl
theorem mlook_put_same [BEq κ] [LawfulBEq κ] (l : List (κ × ν)) (k : κ) (v : ν) : mlook (mput l k v) k = some v := by
  induction l with
  | nil => simp [mput, mlook]
  | cons p l ih =>
    unfold mput
    by_cases h : k == p.1
    · simp [h, mlook]
    · simp only [h, Bool.false_eq_true, if_false]
      simpa [mlook, List.find?_cons, h] using ih
theorem mlook_put_other [BEq κ] [LawfulBEq κ] (l : List (κ × ν)) (k j : κ) (v : ν) (hj : j ≠ k) : mlook (mput l k v) j = mlook l j := by
  induction l with
  | nil => simp [mput, mlook, hj]
  | cons p l ih =>
    unfold mput
    by_cases h : k == p.1
    · have hp : (j == p.1) = false := by
        rw [← eq_of_beq h]; simpa using hj
      simp [h, mlook, List.find?_cons, hp, hj]
    · simp only [h, Bool.false_eq_true, if_false]
      unfold mlook at *
      by_cases h2 : j == p.1
      · simp [List.find?_cons, h2]
      · simpa [List.find?_cons, h2] using ih
theorem mput_length_new [BEq κ] (l : List (κ × ν)) (k : κ) (v : ν) (h : mlook l k = none) : (mput l k v).length = l.length + 1 := by
  induction l with
  | nil => rfl
  | cons p l ih =>
    unfold mput
    by_cases h2 : k == p.1
    · simp [mlook, List.find?_cons, h2] at h
    · simp only [h2, Bool.false_eq_true, if_false, List.length_cons]
      rw [ih (by simpa [mlook, List.find?_cons, h2] using h)]
theorem mput_length_old [BEq κ] (l : List (κ × ν)) (k : κ) (v w : ν) (h : mlook l k = some w) : (mput l k v).length = l.length := by
  induction l with
  | nil => simp [mlook] at h
  | cons p l ih =>
    unfold mput
    by_cases h2 : k == p.1
    · simp [h2]
    · simp only [h2, Bool.false_eq_true, if_false, List.length_cons]
      rw [ih (by simpa [mlook, List.find?_cons, h2] using h)]
theorem mput_length_le [BEq κ] (l : List (κ × ν)) (k : κ) (v : ν) : (mput l k v).length ≤ l.length + 1 := by
  cases h : mlook l k with
  | none => rw [mput_length_new l k v h]; omega
  | some w => rw [mput_length_old l k v w h]; omega

/-- the key's type, as the model goes by it -/
structure KeyOf [BEq κ] (P : Program) (kt : TypeId) (enc : κ → Value) : Prop where
  desc : ∃ d, P.underlying kt = some d ∧ ∀ a b, Instr.sameNow d (enc a) (enc b) = some (a == b)
  check : ∀ em a w, (Instr.checkKey em 10000 kt (enc a)).run P w = .ok () w
  bits : ∀ a, Instr.sameBits 10000 (enc a) (enc a) = true

/-- block b is a map that reads as l -/
def MapIs (w : World) (b : Nat) (enc : κ → Value) (venc : ν → Value) (l : List (κ × ν)) : Prop :=
  ∃ es clock, w.heap[b]? = some (.map es clock) ∧ es.toList.map (fun e => (e.key, e.val)) = l.map (fun p => (enc p.1, venc p.2))

variable {P : Program} {w : World} {kt et t : TypeId} {enc : κ → Value} {venc : ν → Value} {b : Nat} {l : List (κ × ν)}

theorem MapIs.made (w : World) (enc : κ → Value) (venc : ν → Value) : MapIs (w.alloc (.map #[] 0)) w.heap.size enc venc ([] : List (κ × ν)) :=
  ⟨#[], 0, (MapKept.heap_alloc w _).1, rfl⟩
theorem MapIs.lt (h : MapIs w b enc venc l) : b < w.heap.size := by
  obtain ⟨es, c, hb, _⟩ := h
  exact (Array.getElem?_eq_some_iff.1 hb).1
theorem MapIs.kept {w' : World} (h : MapIs w b enc venc l) (hb : w'.heap[b]? = w.heap[b]?) : MapIs w' b enc venc l := by
  obtain ⟨es, c, h1, h2⟩ := h
  exact ⟨es, c, hb.trans h1, h2⟩
theorem MapIs.below {B : Nat} {w' : World} (h : MapIs w b enc venc l) (hb : Below B w w') (hB : b < B) : MapIs w' b enc venc l := h.kept (hb.block b hB)

theorem find_l [BEq κ] [LawfulBEq κ] (d : TypeDesc) (hd : ∀ a b, Instr.sameNow d (enc a) (enc b) = some (a == b)) (k : κ) : ∀ (es : List MapEntry) (l : List (κ × ν)) (i : Nat), es.map (fun e => (e.key, e.val)) = l.map (fun p => (enc p.1, venc p.2)) →
    (∃ j v, Instr.findNow d (enc k) es i = some (some (i + j, venc v)) ∧ mlook l k = some v ∧ (∃ e, es[j]? = some e ∧ e.key = enc k) ∧ ∀ (nv : ν) (clk : Nat), (es.modify j fun (_ : MapEntry) => ({ key := enc k, val := venc nv, born := clk } : MapEntry)).map (fun (e : MapEntry) => (e.key, e.val)) = (mput l k nv).map (fun p => (enc p.1, venc p.2))) ∨
    (Instr.findNow d (enc k) es i = some none ∧ mlook l k = none ∧ ∀ (nv : ν) (clk : Nat), (es ++ [({ key := enc k, val := venc nv, born := clk } : MapEntry)]).map (fun (e : MapEntry) => (e.key, e.val)) = (mput l k nv).map (fun p => (enc p.1, venc p.2)))
  | [], [], i, _ => .inr ⟨rfl, rfl, fun _ _ => rfl⟩
  | [], _ :: _, i, h => by simp at h
  | _ :: _, [], i, h => by simp at h
  | e :: es, p :: l, i, h => by
    simp only [List.map_cons, List.cons.injEq, Prod.mk.injEq] at h
    obtain ⟨⟨h1, h2⟩, h3⟩ := h
    by_cases hk : k == p.1
    · have hkp := eq_of_beq hk
      refine .inl ⟨0, p.2, ?_, ?_, ⟨e, rfl, by rw [h1, hkp]⟩, ?_⟩
      · simp [Instr.findNow, h1, hd, hk, h2]
      · simp [mlook, List.find?_cons, hk]
      · intro nv clk
        simp [mput, hk, h3]
    · rcases find_l d hd k es l (i + 1) h3 with ⟨j, v, r1, r2, ⟨e', r3, r3'⟩, r4⟩ | ⟨r1, r2, r3⟩
      · refine .inl ⟨j + 1, v, ?_, ?_, ⟨e', by simpa using r3, r3'⟩, ?_⟩
        · simp [Instr.findNow, h1, hd, hk, r1]; omega
        · simpa [mlook, List.find?_cons, hk] using r2
        · intro nv clk
          simp [mput, hk, r4 nv clk, h1, h2]
      · refine .inr ⟨?_, ?_, ?_⟩
        · simp [Instr.findNow, h1, hd, hk, r1]
        · simpa [mlook, List.find?_cons, hk] using r2
        · intro nv clk
          have := r3 nv clk
          simp only [List.map_append, List.map_cons, List.map_nil] at this
          simp [mput, hk, h1, h2, this]

theorem MapIs.look [BEq κ] [LawfulBEq κ] (h : MapIs w b enc venc l) (K : KeyOf P kt enc) (ht : P.underlying t = some (.map kt et)) (z : ν) (hz : (zeroValue et).run P w = .ok (venc z) w) (k : κ) :
    (Instr.lookup t (.map (some b)) (enc k) false).run P w = .ok (venc ((mlook l k).getD z)) w := by
  obtain ⟨es, clock, hb, hl⟩ := h
  obtain ⟨d, hd, hs⟩ := K.desc
  have hg : (getObj b).run P w = .ok (.map es clock) w := by simp [getObj, Sem.run, hb]
  rcases find_l d hs k es.toList l 0 hl with ⟨j, v, r1, r2, _, _⟩ | ⟨r1, r2, _⟩
  · simp [Instr.lookup, run_underlying ht, hg, K.check, MapKept.run_findKey hd r1, r2]
  · simp [Instr.lookup, run_underlying ht, hg, K.check, MapKept.run_findKey hd r1, r2, hz]

theorem grown_set (w : World) (b : Nat) (o : Obj) : w.grownBy { w with heap := w.heap.setIfInBounds b o } (some b) := ⟨rfl, rfl, rfl, by simp, fun i hi hne => by
    have : b ≠ i := fun e => hne (by rw [e])
    simp [this]⟩
theorem MapIs.store [BEq κ] [LawfulBEq κ] (h : MapIs w b enc venc l) (K : KeyOf P kt enc) (ht : P.underlying t = some (.map kt et)) (k : κ) (v : ν) :
    ∃ w', (Instr.mapUpdate t (.map (some b)) (enc k) (venc v)).run P w = .ok () w' ∧ MapIs w' b enc venc (mput l k v) ∧ w.grownBy w' (some b) := by
  have hlt := h.lt
  obtain ⟨es, clock, hb, hl⟩ := h
  obtain ⟨d, hd, hs⟩ := K.desc
  have hg : (getObj b).run P w = .ok (.map es clock) w := by simp [getObj, Sem.run, hb]
  have hset : ∀ o, (setObj b o).run P w = .ok () { w with heap := w.heap.setIfInBounds b o } := by intro o; simp [setObj, Sem.run, hb]
  rcases find_l d hs k es.toList l 0 hl with ⟨j, u, r1, r2, ⟨e, r3, r3'⟩, r4⟩ | ⟨r1, r2, r3⟩
  · have he : es[j]? = some e := by simpa using r3
    have hk : (Instr.keyThatStays (((es[j]?).map (·.key)).getD (enc k)) (enc k)).run P w = .ok (enc k) w := by
      simp [he, r3', Instr.keyThatStays, K.bits]
    have hk' : ∀ x : Nat, 0 + j = x → x = j := by omega
    refine ⟨{ w with heap := w.heap.setIfInBounds b (.map (es.modify j fun e => { e with key := enc k, val := venc v }) clock) }, ?_, ?_, grown_set _ _ _⟩
    · simp only [Instr.mapUpdate, Sem.run_bind, run_underlying ht, Result.andThen_ok, hg, K.check, MapKept.run_findKey hd r1, Nat.zero_add, hk, hset]
    · refine ⟨es.modify j fun e => { e with key := enc k, val := venc v }, clock, by simp [hlt], ?_⟩
      have hj : j < es.toList.length := (List.getElem?_eq_some_iff.1 r3).1
      have := r4 v e.born
      rw [← this]
      simp only [Array.toList_modify]
      apply List.ext_getElem?
      intro i
      simp only [List.getElem?_map, List.getElem?_modify]
      by_cases hij : j = i
      · subst hij
        simp [r3]
      · simp [hij]
  · refine ⟨{ w with heap := w.heap.setIfInBounds b (.map (es.push { key := enc k, val := venc v, born := clock }) (clock + 1)) }, ?_, ?_, grown_set _ _ _⟩
    · simp only [Instr.mapUpdate, Sem.run_bind, run_underlying ht, Result.andThen_ok, hg, K.check, MapKept.run_findKey hd r1, hset]
    · refine ⟨es.push { key := enc k, val := venc v, born := clock }, clock + 1, by simp [hlt], ?_⟩
      rw [← r3 v clock]
      simp

theorem MapIs.len (h : MapIs w b enc venc l) (ht : P.underlying t = some (.map kt et)) (ty : TypeId) :
    (Builtin.len_ #[t] ty #[.map (some b)]).run P w = .ok (.int .i64 l.length) w := by
  obtain ⟨es, clock, hb, hl⟩ := h
  have hg : (getObj b).run P w = .ok (.map es clock) w := by simp [getObj, Sem.run, hb]
  have hn : es.size = l.length := by simpa using congrArg List.length hl
  simp [Builtin.len_, run_underlying ht, hg, goInt, hn]

section
variable {ops : Array Oper} {rest : List Oper} {o : Oper} {a : Act} {Q : Exit → Act → World → Prop}
/-- 'm[k]' at the operation -/
theorem wpList_look [BEq κ] [LawfulBEq κ] (hg : o.guard = none) (m x : Operand) (t : TypeId) (hop : o.op = Op.lookup t m x false) (kt et : TypeId) (K : KeyOf P kt enc) (ht : P.underlying t = some (.map kt et))
    (z : ν) (hz : (zeroValue et).run P w = .ok (venc z) w) (b : Nat) (l : List (κ × ν)) (hm : a.eval m = .map (some b)) (h : MapIs w b enc venc l) (k : κ) (hx : a.eval x = enc k)
    (hK : wpList P ops Q rest (a.put o.dst (venc ((mlook l k).getD z))) w) : wpList P ops Q (o :: rest) a w := by
  refine wpList_plain hg fun K' hK' => ?_
  have hrun := h.look K ht z hz k
  unfold Oper.wp
  simp [execOp, hop, hm, hx, hrun, Result.andThen]
  exact hK' _ _ hK
/-- 'm[k] = v' at the operation -/
theorem wpList_store [BEq κ] [LawfulBEq κ] (hg : o.guard = none) (m x y : Operand) (t : TypeId) (hop : o.op = Op.mapUpdate t m x y) (kt et : TypeId) (K : KeyOf P kt enc) (ht : P.underlying t = some (.map kt et))
    (b : Nat) (l : List (κ × ν)) (hm : a.eval m = .map (some b)) (h : MapIs w b enc venc l) (k : κ) (hx : a.eval x = enc k) (v : ν) (hv : a.eval y = venc v)
    (hK : ∀ w', MapIs w' b enc venc (mput l k v) → w.grownBy w' (some b) → wpList P ops Q rest (a.put o.dst undef) w') : wpList P ops Q (o :: rest) a w := by
  refine wpList_plain hg fun K' hK' => ?_
  obtain ⟨w', hrun, r1, r2⟩ := h.store K ht k v
  unfold Oper.wp
  simp [execOp, hop, hm, hx, hv, hrun, Result.andThen]
  exact hK' _ _ (hK w' r1 r2)
end

theorem keyOf_i64 (hk : P.underlying kt = some (.int .i64)) : KeyOf P kt (fun n : Int => Value.int .i64 n) where
  desc := ⟨_, hk, fun a b => by simp [Instr.sameNow]⟩
  check := fun em a w => by
    show (Instr.checkKey em (9999 + 1) kt (.int .i64 a)).run P w = _
    unfold Instr.checkKey
    simp [run_underlying hk]
  bits := fun a => by simp [Instr.sameBits]
def encS (l : List UInt8) : Value := .string ⟨l.toArray⟩
theorem keyOf_str (hk : P.underlying kt = some .string) : KeyOf P kt encS where
  desc := ⟨_, hk, fun a b => by simp [Instr.sameNow, encS, beq_toListBytes, ByteArray.toList_eq]⟩
  check := fun em a w => by
    show (Instr.checkKey em (9999 + 1) kt (.string ⟨a.toArray⟩)).run P w = _
    unfold Instr.checkKey
    simp [run_underlying hk]
  bits := fun a => by simp [Instr.sameBits, encS, beq_toListBytes]
end
end Go.Proofs.YtbbcicengfmhiaaGreatDoor

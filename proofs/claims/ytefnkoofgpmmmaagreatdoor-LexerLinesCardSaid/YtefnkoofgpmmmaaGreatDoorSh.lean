/- The contracts of Go's library that the claims lean on, laid by the kit's tool at this program. -/
import Derived.Shelf.Strings.Builder1
import Derived.Shelf.Strings.Builder2
import Derived.Shelf.Strings.BuilderF
import Derived.Shelf.Strings.BuilderK
import Derived.Shelf.Strings.Builder2Cap
import Derived.Shelf.Strconv.Atoi
import Derived.Shelf.Strconv.Itoa0
import Derived.Shelf.Strconv.Itoa1
import Derived.Shelf.LaysM
import Derived.Shelf.Strconv.Itoa2
import Derived.Shelf.Strconv.Itoa3
import Derived.Shelf.Strconv.AtoiErrFast
import Derived.Shelf.Strconv.ParseIntEmpty
import Derived.Shelf.Strconv.AtoiFail
import Derived.Shelf.Strconv.Clone
import Derived.Shelf.Strconv.SyntaxError
import Derived.Shelf.LaysC
import Derived.Shelf.Strconv.ToError
import Derived.Shelf.Strconv.Lower
import Derived.Shelf.Strconv.ParseUint10
import Derived.Shelf.Strconv.ParseUint10Empty
import Derived.Shelf.Strconv.ParseUint10Any
import Derived.Shelf.Strconv.ParseInt10
import Derived.Shelf.Strconv.AtoiLong
import Derived.Shelf.Strconv.AtoiInnerAll
import Derived.Shelf.Strconv.RangeError
import Derived.Shelf.Strconv.ToErrorRange
import Derived.Shelf.Strconv.AtoiAll
import Derived.Shelf.Strconv.ErrVarAll
import Derived.Shelf.Strings.Search1
import Derived.Shelf.Strings.Search2
import Derived.Shelf.Strings.Cut
import Derived.Shelf.Strings.Shaped
import Derived.Shelf.Strings.Prefix
import Derived.Shelf.Bits.Mul64
import Derived.Shelf.Strings.Repeat
import Derived.Shelf.Strings.BuilderCap
import Derived.Shelf.Slices.Turned
import Derived.Test.YtefnkoofgpmmmaaGreatDoorProg
namespace Go.Proofs
open Go.Shelf
def Tryz.lays169_ren : Go.Shelf.Ren := ⟨fun | 169 => 127 | n => n, fun | 70 => 157 | 9 => 9 | 0 => 0 | 72 => 159 | 37 => 52 | 127 => 287 | 3 => 3 | 5 => 5 | n => n, fun | n => n⟩
theorem Tryz.lays169 : Go.Proofs.Lays.n169 Tryz.prog Tryz.lays169_ren := {
  mixed := by kernel_rfl
  f169 := Tryz.func127.trans (congrArg some (by kernel_rfl))
  t0 := Tryz.underlying0
  a0 := Tryz.isAgg0
  z0 := Tryz.sizeOf0
  v0 := Tryz.zeroValue0
  t3 := Tryz.underlying3
  a3 := Tryz.isAgg3
  z3 := Tryz.sizeOf3
  v3 := Tryz.zeroValue3
  t9 := Tryz.underlying9
  a9 := Tryz.isAgg9
  z9 := Tryz.sizeOf9
  v9 := Tryz.zeroValue9
  t37 := Tryz.underlying52
  a37 := Tryz.isAgg52
  z37 := Tryz.sizeOf52
  v37 := Tryz.zeroValue52
  t70 := Tryz.underlying157
  a70 := Tryz.isAgg157
  z70 := Tryz.sizeOf157
  v70 := Tryz.zeroValue157
  t72 := Tryz.underlying159
  a72 := Tryz.isAgg159
  z72 := Tryz.sizeOf159
  v72 := Tryz.zeroValue159
  t127 := Tryz.underlying287
  a127 := Tryz.isAgg287
  z127 := Tryz.sizeOf287
  v127 := Tryz.zeroValue287 }
theorem Tryz.Builder_Extra_169 : Builder.Extra Tryz.prog Tryz.lays169_ren := {
  sizeBuilder := by kernel_rfl
  liesBuilder := by kernel_rfl
  t5 := Tryz.underlying5
  a5 := Tryz.isAgg5
  z5 := Tryz.sizeOf5
  v5 := Tryz.zeroValue5
  infoByte := by kernel_rfl
  cellsByte := by kernel_rfl
  sizeByte := by kernel_rfl
  neB5 := by decide }
open Go.RowKit in
theorem Tryz.Builder_String_any (B b : Nat) (l : List UInt8) (w : World) (h : Lib.IsBuilder 159 5 B b (Lib.byteCells l) w) (hBw : B ≤ w.heap.size) :
    Calls Tryz.prog 127 #[.pointer (some ⟨b, 0, none⟩)] w fun e w' => e = .returned (.string ⟨l.toArray⟩) ∧ Below B w w' := Any.Builder_String_any Tryz.lays169 Tryz.Builder_Extra_169 B b l w h hBw
def Tryz.laysM171_ren : Go.Shelf.Ren := ⟨fun | 171 => 93 | 243 => 143 | 246 => 199 | 283 => 232 | 284 => 233 | 285 => 234 | 286 => 235 | 129 => 256 | 317 => 255 | 318 => 257 | 319 => 258 | 320 => 259 | 337 => 265 | 338 => 266 | n => n, fun | 3 => 3 | 9 => 9 | 2 => 2 | 4 => 4 | 171 => 342 | 0 => 0 | 53 => 80 | 37 => 52 | 5 => 5 | 173 => 345 | 212 => 366 | 51 => 356 | 20 => 20 | 213 => 367 | 46 => 51 | 232 => 373 | 233 => 374 | n => n, fun | 17 => 6 | 18 => 7 | 19 => 8 | n => n⟩
theorem Tryz.laysM171 : Go.Proofs.LaysM.n171 Tryz.prog Tryz.laysM171_ren := {
  mixed := by kernel_rfl
  f129 := Tryz.func256.trans (congrArg some (by kernel_rfl))
  f171 := Tryz.func93.trans (congrArg some (by kernel_rfl))
  f243 := Tryz.func143.trans (congrArg some (by kernel_rfl))
  f246 := Tryz.func199.trans (congrArg some (by kernel_rfl))
  f283 := Tryz.func232.trans (congrArg some (by kernel_rfl))
  f284 := Tryz.func233.trans (congrArg some (by kernel_rfl))
  f285 := Tryz.func234.trans (congrArg some (by kernel_rfl))
  f286 := Tryz.func235.trans (congrArg some (by kernel_rfl))
  f317 := Tryz.func255.trans (congrArg some (by kernel_rfl))
  f318 := Tryz.func257.trans (congrArg some (by kernel_rfl))
  f319 := Tryz.func258.trans (congrArg some (by kernel_rfl))
  f320 := Tryz.func259.trans (congrArg some (by kernel_rfl))
  f337 := Tryz.func265.trans (congrArg some (by kernel_rfl))
  f338 := Tryz.func266.trans (congrArg some (by kernel_rfl))
  t0 := Tryz.underlying0
  a0 := Tryz.isAgg0
  z0 := Tryz.sizeOf0
  v0 := Tryz.zeroValue0
  t2 := Tryz.underlying2
  a2 := Tryz.isAgg2
  z2 := Tryz.sizeOf2
  v2 := Tryz.zeroValue2
  t3 := Tryz.underlying3
  a3 := Tryz.isAgg3
  z3 := Tryz.sizeOf3
  v3 := Tryz.zeroValue3
  t4 := Tryz.underlying4
  a4 := Tryz.isAgg4
  z4 := Tryz.sizeOf4
  v4 := Tryz.zeroValue4
  t5 := Tryz.underlying5
  a5 := Tryz.isAgg5
  z5 := Tryz.sizeOf5
  v5 := Tryz.zeroValue5
  t9 := Tryz.underlying9
  a9 := Tryz.isAgg9
  z9 := Tryz.sizeOf9
  v9 := Tryz.zeroValue9
  t20 := Tryz.underlying20
  a20 := Tryz.isAgg20
  z20 := Tryz.sizeOf20
  v20 := Tryz.zeroValue20
  t37 := Tryz.underlying52
  a37 := Tryz.isAgg52
  z37 := Tryz.sizeOf52
  v37 := Tryz.zeroValue52
  t46 := Tryz.underlying51
  a46 := Tryz.isAgg51
  z46 := Tryz.sizeOf51
  v46 := Tryz.zeroValue51
  t51 := Tryz.underlying356
  a51 := Tryz.isAgg356
  z51 := Tryz.sizeOf356
  v51 := Tryz.zeroValue356
  t53 := Tryz.underlying80
  a53 := Tryz.isAgg80
  z53 := Tryz.sizeOf80
  v53 := Tryz.zeroValue80
  t171 := Tryz.underlying342
  a171 := Tryz.isAgg342
  z171 := Tryz.sizeOf342
  v171 := Tryz.zeroValue342
  t173 := Tryz.underlying345
  a173 := Tryz.isAgg345
  z173 := Tryz.sizeOf345
  v173 := Tryz.zeroValue345
  t212 := Tryz.underlying366
  a212 := Tryz.isAgg366
  z212 := Tryz.sizeOf366
  v212 := Tryz.zeroValue366
  t213 := Tryz.underlying367
  a213 := Tryz.isAgg367
  z213 := Tryz.sizeOf367
  t232 := Tryz.underlying373
  a232 := Tryz.isAgg373
  z232 := Tryz.sizeOf373
  v232 := Tryz.zeroValue373
  t233 := Tryz.underlying374
  a233 := Tryz.isAgg374
  z233 := Tryz.sizeOf374
  v233 := Tryz.zeroValue374
  g17 := by kernel_rfl
  g18 := by kernel_rfl
  g19 := by kernel_rfl
  i0 := by kernel_rfl
  i2 := by kernel_rfl
  i3 := by kernel_rfl
  i4 := by kernel_rfl
  i5 := by kernel_rfl
  i9 := by kernel_rfl
  i20 := by kernel_rfl
  i37 := by kernel_rfl
  i46 := by kernel_rfl
  i51 := by kernel_rfl
  i53 := by kernel_rfl
  i171 := by kernel_rfl
  i173 := by kernel_rfl
  i212 := by kernel_rfl
  i232 := by kernel_rfl
  i233 := by kernel_rfl
  m17 := by kernel_rfl
  m18 := by kernel_rfl
  m19 := by kernel_rfl }
open Go.RowKit Go.Sort Go.Lib in
theorem Tryz.strconv_Itoa (n : Int) (h0 : -9223372036854775808 ≤ n) (h1 : n ≤ 9223372036854775807) (w : World) (htab : Lib.TabIs Tryz.prog w "internal/strconv.uint64pow10" .u64 Lib.pow10Tab) :
    Calls Tryz.prog 93 #[.int .i64 n] w fun e w' => e = .returned (.string ⟨(Lib.itoa n).toArray⟩) ∧ ∃ k os, w' = grow (w.drewN k) os := Any.strconv_Itoa Tryz.laysM171 n h0 h1 w htab
def Tryz.laysC172_ren : Go.Shelf.Ren := ⟨fun | 172 => 92 | 244 => 141 | 245 => 142 | 247 => 194 | 279 => 195 | 280 => 196 | 281 => 197 | 282 => 198 | 287 => 200 | 316 => 230 | 171 => 93 | 205 => 231 | 321 => 236 | 322 => 237 | 243 => 143 | 246 => 199 | 283 => 232 | 284 => 233 | 285 => 234 | 286 => 235 | 129 => 256 | 317 => 255 | 318 => 257 | 319 => 258 | 320 => 259 | 337 => 265 | 338 => 266 | n => n, fun | 9 => 9 | 3 => 3 | 75 => 25 | 76 => 99 | 4 => 4 | 5 => 5 | 167 => 307 | 37 => 52 | 0 => 0 | 85 => 308 | 2 => 2 | 168 => 310 | 53 => 80 | 175 => 243 | 46 => 51 | 210 => 340 | 127 => 287 | 145 => 365 | 143 => 363 | 21 => 21 | 171 => 342 | 173 => 345 | 212 => 366 | 51 => 356 | 20 => 20 | 213 => 367 | 232 => 373 | 233 => 374 | 80 => 69 | n => n, fun | 15 => 1 | 16 => 2 | 17 => 6 | 18 => 7 | 19 => 8 | n => n⟩
theorem Tryz.laysC172 : Go.Proofs.LaysC.n172 Tryz.prog Tryz.laysC172_ren := {
  mixed := by kernel_rfl
  f129 := Tryz.func256.trans (congrArg some (by kernel_rfl))
  f171 := Tryz.func93.trans (congrArg some (by kernel_rfl))
  f172 := Tryz.func92.trans (congrArg some (by kernel_rfl))
  f205 := Tryz.func231.trans (congrArg some (by kernel_rfl))
  f243 := Tryz.func143.trans (congrArg some (by kernel_rfl))
  f244 := Tryz.func141.trans (congrArg some (by kernel_rfl))
  f245 := Tryz.func142.trans (congrArg some (by kernel_rfl))
  f246 := Tryz.func199.trans (congrArg some (by kernel_rfl))
  f247 := Tryz.func194.trans (congrArg some (by kernel_rfl))
  f279 := Tryz.func195.trans (congrArg some (by kernel_rfl))
  f280 := Tryz.func196.trans (congrArg some (by kernel_rfl))
  f281 := Tryz.func197.trans (congrArg some (by kernel_rfl))
  f282 := Tryz.func198.trans (congrArg some (by kernel_rfl))
  f283 := Tryz.func232.trans (congrArg some (by kernel_rfl))
  f284 := Tryz.func233.trans (congrArg some (by kernel_rfl))
  f285 := Tryz.func234.trans (congrArg some (by kernel_rfl))
  f286 := Tryz.func235.trans (congrArg some (by kernel_rfl))
  f287 := Tryz.func200.trans (congrArg some (by kernel_rfl))
  f316 := Tryz.func230.trans (congrArg some (by kernel_rfl))
  f317 := Tryz.func255.trans (congrArg some (by kernel_rfl))
  f318 := Tryz.func257.trans (congrArg some (by kernel_rfl))
  f319 := Tryz.func258.trans (congrArg some (by kernel_rfl))
  f320 := Tryz.func259.trans (congrArg some (by kernel_rfl))
  f321 := Tryz.func236.trans (congrArg some (by kernel_rfl))
  f322 := Tryz.func237.trans (congrArg some (by kernel_rfl))
  f337 := Tryz.func265.trans (congrArg some (by kernel_rfl))
  f338 := Tryz.func266.trans (congrArg some (by kernel_rfl))
  t0 := Tryz.underlying0
  a0 := Tryz.isAgg0
  z0 := Tryz.sizeOf0
  v0 := Tryz.zeroValue0
  t2 := Tryz.underlying2
  a2 := Tryz.isAgg2
  z2 := Tryz.sizeOf2
  v2 := Tryz.zeroValue2
  t3 := Tryz.underlying3
  a3 := Tryz.isAgg3
  z3 := Tryz.sizeOf3
  v3 := Tryz.zeroValue3
  t4 := Tryz.underlying4
  a4 := Tryz.isAgg4
  z4 := Tryz.sizeOf4
  v4 := Tryz.zeroValue4
  t5 := Tryz.underlying5
  a5 := Tryz.isAgg5
  z5 := Tryz.sizeOf5
  v5 := Tryz.zeroValue5
  t9 := Tryz.underlying9
  a9 := Tryz.isAgg9
  z9 := Tryz.sizeOf9
  v9 := Tryz.zeroValue9
  t20 := Tryz.underlying20
  a20 := Tryz.isAgg20
  z20 := Tryz.sizeOf20
  v20 := Tryz.zeroValue20
  t21 := Tryz.underlying21
  a21 := Tryz.isAgg21
  z21 := Tryz.sizeOf21
  v21 := Tryz.zeroValue21
  t37 := Tryz.underlying52
  a37 := Tryz.isAgg52
  z37 := Tryz.sizeOf52
  v37 := Tryz.zeroValue52
  t46 := Tryz.underlying51
  a46 := Tryz.isAgg51
  z46 := Tryz.sizeOf51
  v46 := Tryz.zeroValue51
  t51 := Tryz.underlying356
  a51 := Tryz.isAgg356
  z51 := Tryz.sizeOf356
  v51 := Tryz.zeroValue356
  t53 := Tryz.underlying80
  a53 := Tryz.isAgg80
  z53 := Tryz.sizeOf80
  v53 := Tryz.zeroValue80
  t75 := Tryz.underlying25
  a75 := Tryz.isAgg25
  z75 := Tryz.sizeOf25
  v75 := Tryz.zeroValue25
  t76 := Tryz.underlying99
  a76 := Tryz.isAgg99
  z76 := Tryz.sizeOf99
  v76 := Tryz.zeroValue99
  t85 := Tryz.underlying308
  a85 := Tryz.isAgg308
  z85 := Tryz.sizeOf308
  v85 := Tryz.zeroValue308
  t127 := Tryz.underlying287
  a127 := Tryz.isAgg287
  z127 := Tryz.sizeOf287
  v127 := Tryz.zeroValue287
  t143 := Tryz.underlying363
  a143 := Tryz.isAgg363
  z143 := Tryz.sizeOf363
  v143 := Tryz.zeroValue363
  t145 := Tryz.underlying365
  a145 := Tryz.isAgg365
  z145 := Tryz.sizeOf365
  v145 := Tryz.zeroValue365
  t167 := Tryz.underlying307
  a167 := Tryz.isAgg307
  z167 := Tryz.sizeOf307
  v167 := Tryz.zeroValue307
  t168 := Tryz.underlying310
  a168 := Tryz.isAgg310
  z168 := Tryz.sizeOf310
  v168 := Tryz.zeroValue310
  t171 := Tryz.underlying342
  a171 := Tryz.isAgg342
  z171 := Tryz.sizeOf342
  v171 := Tryz.zeroValue342
  t173 := Tryz.underlying345
  a173 := Tryz.isAgg345
  z173 := Tryz.sizeOf345
  v173 := Tryz.zeroValue345
  t175 := Tryz.underlying243
  a175 := Tryz.isAgg243
  z175 := Tryz.sizeOf243
  v175 := Tryz.zeroValue243
  t210 := Tryz.underlying340
  a210 := Tryz.isAgg340
  z210 := Tryz.sizeOf340
  v210 := Tryz.zeroValue340
  t212 := Tryz.underlying366
  a212 := Tryz.isAgg366
  z212 := Tryz.sizeOf366
  v212 := Tryz.zeroValue366
  t213 := Tryz.underlying367
  a213 := Tryz.isAgg367
  z213 := Tryz.sizeOf367
  t232 := Tryz.underlying373
  a232 := Tryz.isAgg373
  z232 := Tryz.sizeOf373
  v232 := Tryz.zeroValue373
  t233 := Tryz.underlying374
  a233 := Tryz.isAgg374
  z233 := Tryz.sizeOf374
  v233 := Tryz.zeroValue374
  g15 := by kernel_rfl
  g16 := by kernel_rfl
  g17 := by kernel_rfl
  g18 := by kernel_rfl
  g19 := by kernel_rfl
  t80 := Tryz.underlying69
  a80 := Tryz.isAgg69
  z80 := Tryz.sizeOf69
  v80 := Tryz.zeroValue69
  i0 := by kernel_rfl
  i2 := by kernel_rfl
  i3 := by kernel_rfl
  i4 := by kernel_rfl
  i5 := by kernel_rfl
  i9 := by kernel_rfl
  i20 := by kernel_rfl
  i21 := by kernel_rfl
  i37 := by kernel_rfl
  i46 := by kernel_rfl
  i51 := by kernel_rfl
  i53 := by kernel_rfl
  i75 := by kernel_rfl
  i76 := by kernel_rfl
  i80 := by kernel_rfl
  i85 := by kernel_rfl
  i127 := by kernel_rfl
  i143 := by kernel_rfl
  i145 := by kernel_rfl
  i167 := by kernel_rfl
  i168 := by kernel_rfl
  i171 := by kernel_rfl
  i173 := by kernel_rfl
  i175 := by kernel_rfl
  i210 := by kernel_rfl
  i212 := by kernel_rfl
  i232 := by kernel_rfl
  i233 := by kernel_rfl
  m15 := by kernel_rfl
  m16 := by kernel_rfl
  m17 := by kernel_rfl
  m18 := by kernel_rfl
  m19 := by kernel_rfl
  c0 := by kernel_rfl
  c2 := by kernel_rfl
  c3 := by kernel_rfl
  c4 := by kernel_rfl
  c5 := by kernel_rfl
  c9 := by kernel_rfl
  c20 := by kernel_rfl
  c21 := by kernel_rfl
  c37 := by kernel_rfl
  c46 := by kernel_rfl
  c51 := by kernel_rfl
  c53 := by kernel_rfl
  c75 := by kernel_rfl
  c76 := by kernel_rfl
  c80 := by kernel_rfl
  c85 := by kernel_rfl
  c127 := by kernel_rfl
  c143 := by kernel_rfl
  c145 := by kernel_rfl
  c167 := by kernel_rfl
  c168 := by kernel_rfl
  c171 := by kernel_rfl
  c173 := by kernel_rfl
  c175 := by kernel_rfl
  c210 := by kernel_rfl
  c212 := by kernel_rfl
  c213 := by kernel_rfl
  c232 := by kernel_rfl
  c233 := by kernel_rfl }
open Go.RowKit in
theorem Tryz.strconv_Atoi_ok (s : ByteArray) (hmax : s.size ≤ 9223372036854775806) (v : Int) (h : Lib.atoiAll s.data.toList = .ok v) (w : World) :
    Calls Tryz.prog 92 #[.string s] w fun e w' => e = .returned (.tuple #[.int .i64 v, .nilIface]) ∧ (w' = w ∨ ∃ t, w' = Lib.bytesWorld w 5 t) := Any.strconv_Atoi_ok Tryz.laysC172 s hmax v h w
open Go.RowKit in
theorem Tryz.strconv_Atoi_syntax (s : ByteArray) (hlim : s.size ≤ 281474976710656) (h : Lib.atoiAll s.data.toList = Lib.NumEnd.syntax) (ev : Value) (w : World) (hv : w.cell? ⟨1, 0, none⟩ = some ev) (hev : ev = .nilIface ∨ ∃ te pe, ev = .iface te pe) :
    Calls Tryz.prog 92 #[.string s] w fun e w' => ∃ N, e = .returned (.tuple #[.int .i64 (0), .iface 310 (.pointer (some ⟨N, 0, none⟩))]) ∧ w.heap.size ≤ N ∧ w'.heap[N]? = some (.cells #[.string ⟨#[65, 116, 111, 105]⟩, .string s, ev] 340 (0, 0)) ∧ Below w.heap.size w w' := Any.strconv_Atoi_syntax Tryz.laysC172 s hlim h ev w hv hev
open Go.RowKit in
theorem Tryz.strconv_Atoi_range (s : ByteArray) (hlim : s.size ≤ 281474976710656) (h : Lib.atoiAll s.data.toList = .range) (ev : Value) (w : World) (hv : w.cell? ⟨2, 0, none⟩ = some ev) (hev : ev = .nilIface ∨ ∃ te pe, ev = .iface te pe) :
    Calls Tryz.prog 92 #[.string s] w fun e w' => ∃ N, e = .returned (.tuple #[.int .i64 (Lib.atoiSat s.data.toList), .iface 310 (.pointer (some ⟨N, 0, none⟩))]) ∧ w.heap.size ≤ N ∧ w'.heap[N]? = some (.cells #[.string ⟨#[65, 116, 111, 105]⟩, .string s, ev] 340 (0, 0)) ∧ Below w.heap.size w w' := Any.strconv_Atoi_range Tryz.laysC172 s hlim h ev w hv hev
def Tryz.lays145_ren : Go.Shelf.Ren := ⟨fun | 145 => 98 | 220 => 152 | 219 => 204 | 217 => 238 | 225 => 239 | 224 => 240 | 267 => 241 | 266 => 260 | 314 => 261 | n => n, fun | 9 => 9 | 4 => 4 | 59 => 188 | 3 => 3 | 5 => 5 | 46 => 51 | 146 => 357 | 51 => 356 | n => n, fun | 1 => 5 | n => n⟩
theorem Tryz.lays145 : Go.Proofs.Lays.n145 Tryz.prog Tryz.lays145_ren := {
  mixed := by kernel_rfl
  f145 := Tryz.func98.trans (congrArg some (by kernel_rfl))
  f217 := Tryz.func238.trans (congrArg some (by kernel_rfl))
  f219 := Tryz.func204.trans (congrArg some (by kernel_rfl))
  f220 := Tryz.func152.trans (congrArg some (by kernel_rfl))
  f224 := Tryz.func240.trans (congrArg some (by kernel_rfl))
  f225 := Tryz.func239.trans (congrArg some (by kernel_rfl))
  f266 := Tryz.func260.trans (congrArg some (by kernel_rfl))
  f267 := Tryz.func241.trans (congrArg some (by kernel_rfl))
  f314 := Tryz.func261.trans (congrArg some (by kernel_rfl))
  t3 := Tryz.underlying3
  a3 := Tryz.isAgg3
  z3 := Tryz.sizeOf3
  v3 := Tryz.zeroValue3
  t4 := Tryz.underlying4
  a4 := Tryz.isAgg4
  z4 := Tryz.sizeOf4
  v4 := Tryz.zeroValue4
  t5 := Tryz.underlying5
  a5 := Tryz.isAgg5
  z5 := Tryz.sizeOf5
  v5 := Tryz.zeroValue5
  t9 := Tryz.underlying9
  a9 := Tryz.isAgg9
  z9 := Tryz.sizeOf9
  v9 := Tryz.zeroValue9
  t46 := Tryz.underlying51
  a46 := Tryz.isAgg51
  z46 := Tryz.sizeOf51
  v46 := Tryz.zeroValue51
  t51 := Tryz.underlying356
  a51 := Tryz.isAgg356
  z51 := Tryz.sizeOf356
  v51 := Tryz.zeroValue356
  t59 := Tryz.underlying188
  a59 := Tryz.isAgg188
  z59 := Tryz.sizeOf188
  v59 := Tryz.zeroValue188
  t146 := Tryz.underlying357
  a146 := Tryz.isAgg357
  z146 := Tryz.sizeOf357
  v146 := Tryz.zeroValue357
  g1 := by kernel_rfl }
open Go.RowKit Go.Lib in
theorem Tryz.strings_Cut (s sep : ByteArray) (m : Int) (w : World) (hs : s.size < 4294967281) (hm : w.cell? ⟨5, 0, none⟩ = some (.int .i64 m)) :
    Calls Tryz.prog 98 #[.string s, .string sep] w fun e w' => e = .returned (.tuple #[.string ⟨(Lib.cut s.data.toList sep.data.toList).1.toArray⟩, .string ⟨(Lib.cut s.data.toList sep.data.toList).2.1.toArray⟩, .bool (Lib.cut s.data.toList sep.data.toList).2.2]) ∧ ∃ n, w' = w.drewN n := Any.strings_Cut Tryz.lays145 s sep m w hs hm
end Go.Proofs

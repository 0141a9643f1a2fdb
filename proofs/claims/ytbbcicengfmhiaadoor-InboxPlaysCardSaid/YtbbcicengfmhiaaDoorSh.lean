/- The contracts of Go's library that the claims lean on, laid by the kit's tool at this program. -/
import Derived.Shelf.Strings.Builder1
import Derived.Shelf.Strings.Builder2
import Derived.Shelf.Strings.BuilderF
import Derived.Shelf.Strings.BuilderK
import Derived.Shelf.Strings.Builder2Cap
import Derived.Shelf.Strconv.Atoi
import Derived.Shelf.Strconv.Itoa0
import Derived.Shelf.Strconv.Itoa1
import Derived.Shelf.LaysM
import Derived.Shelf.Strconv.Itoa2
import Derived.Shelf.Strconv.Itoa3
import Derived.Shelf.Strconv.AtoiErrFast
import Derived.Shelf.Strconv.ParseIntEmpty
import Derived.Shelf.Strconv.AtoiFail
import Derived.Shelf.Strconv.Clone
import Derived.Shelf.Strconv.SyntaxError
import Derived.Shelf.LaysC
import Derived.Shelf.Strconv.ToError
import Derived.Shelf.Strconv.Lower
import Derived.Shelf.Strconv.ParseUint10
import Derived.Shelf.Strconv.ParseUint10Empty
import Derived.Shelf.Strconv.ParseUint10Any
import Derived.Shelf.Strconv.ParseInt10
import Derived.Shelf.Strconv.AtoiLong
import Derived.Shelf.Strconv.AtoiInnerAll
import Derived.Shelf.Strconv.RangeError
import Derived.Shelf.Strconv.ToErrorRange
import Derived.Shelf.Strconv.AtoiAll
import Derived.Shelf.Strconv.ErrVarAll
import Derived.Shelf.Strings.Search1
import Derived.Shelf.Strings.Search2
import Derived.Shelf.Strings.Cut
import Derived.Shelf.Strings.Shaped
import Derived.Shelf.Strings.Prefix
import Derived.Shelf.Bits.Mul64
import Derived.Shelf.Strings.Repeat
import Derived.Shelf.Strings.BuilderCap
import Derived.Shelf.Slices.Turned
import Derived.Test.YtbbcicengfmhiaaDoorProg
namespace Go.Proofs
open Go.Shelf
def Tryd.lays169_ren : Go.Shelf.Ren := ⟨fun | 169 => 85 | n => n, fun | 70 => 55 | 9 => 9 | 0 => 0 | 72 => 58 | 37 => 56 | 127 => 189 | 3 => 3 | 5 => 5 | n => n, fun | n => n⟩
theorem Tryd.lays169 : Go.Proofs.Lays.n169 Tryd.prog Tryd.lays169_ren := {
  mixed := by kernel_rfl
  f169 := Tryd.func85.trans (congrArg some (by kernel_rfl))
  t0 := Tryd.underlying0
  a0 := Tryd.isAgg0
  z0 := Tryd.sizeOf0
  v0 := Tryd.zeroValue0
  t3 := Tryd.underlying3
  a3 := Tryd.isAgg3
  z3 := Tryd.sizeOf3
  v3 := Tryd.zeroValue3
  t9 := Tryd.underlying9
  a9 := Tryd.isAgg9
  z9 := Tryd.sizeOf9
  v9 := Tryd.zeroValue9
  t37 := Tryd.underlying56
  a37 := Tryd.isAgg56
  z37 := Tryd.sizeOf56
  v37 := Tryd.zeroValue56
  t70 := Tryd.underlying55
  a70 := Tryd.isAgg55
  z70 := Tryd.sizeOf55
  v70 := Tryd.zeroValue55
  t72 := Tryd.underlying58
  a72 := Tryd.isAgg58
  z72 := Tryd.sizeOf58
  v72 := Tryd.zeroValue58
  t127 := Tryd.underlying189
  a127 := Tryd.isAgg189
  z127 := Tryd.sizeOf189
  v127 := Tryd.zeroValue189 }
theorem Tryd.Builder_Extra_169 : Builder.Extra Tryd.prog Tryd.lays169_ren := {
  sizeBuilder := by kernel_rfl
  liesBuilder := by kernel_rfl
  t5 := Tryd.underlying5
  a5 := Tryd.isAgg5
  z5 := Tryd.sizeOf5
  v5 := Tryd.zeroValue5
  infoByte := by kernel_rfl
  cellsByte := by kernel_rfl
  sizeByte := by kernel_rfl
  neB5 := by decide }
open Go.RowKit in
theorem Tryd.Builder_String_any (B b : Nat) (l : List UInt8) (w : World) (h : Lib.IsBuilder 58 5 B b (Lib.byteCells l) w) (hBw : B ≤ w.heap.size) :
    Calls Tryd.prog 85 #[.pointer (some ⟨b, 0, none⟩)] w fun e w' => e = .returned (.string ⟨l.toArray⟩) ∧ Below B w w' := Any.Builder_String_any Tryd.lays169 Tryd.Builder_Extra_169 B b l w h hBw
def Tryd.laysM171_ren : Go.Shelf.Ren := ⟨fun | 171 => 126 | 243 => 151 | 246 => 170 | 283 => 189 | 284 => 190 | 285 => 191 | 286 => 192 | 129 => 206 | 317 => 205 | 318 => 207 | 319 => 208 | 320 => 209 | 337 => 217 | 338 => 218 | n => n, fun | 3 => 3 | 9 => 9 | 2 => 2 | 4 => 4 | 171 => 265 | 0 => 0 | 53 => 100 | 37 => 56 | 5 => 5 | 173 => 267 | 212 => 280 | 51 => 101 | 20 => 20 | 213 => 281 | 46 => 90 | 232 => 296 | 233 => 162 | n => n, fun | 17 => 4 | 18 => 7 | 19 => 8 | n => n⟩
theorem Tryd.laysM171 : Go.Proofs.LaysM.n171 Tryd.prog Tryd.laysM171_ren := {
  mixed := by kernel_rfl
  f129 := Tryd.func206.trans (congrArg some (by kernel_rfl))
  f171 := Tryd.func126.trans (congrArg some (by kernel_rfl))
  f243 := Tryd.func151.trans (congrArg some (by kernel_rfl))
  f246 := Tryd.func170.trans (congrArg some (by kernel_rfl))
  f283 := Tryd.func189.trans (congrArg some (by kernel_rfl))
  f284 := Tryd.func190.trans (congrArg some (by kernel_rfl))
  f285 := Tryd.func191.trans (congrArg some (by kernel_rfl))
  f286 := Tryd.func192.trans (congrArg some (by kernel_rfl))
  f317 := Tryd.func205.trans (congrArg some (by kernel_rfl))
  f318 := Tryd.func207.trans (congrArg some (by kernel_rfl))
  f319 := Tryd.func208.trans (congrArg some (by kernel_rfl))
  f320 := Tryd.func209.trans (congrArg some (by kernel_rfl))
  f337 := Tryd.func217.trans (congrArg some (by kernel_rfl))
  f338 := Tryd.func218.trans (congrArg some (by kernel_rfl))
  t0 := Tryd.underlying0
  a0 := Tryd.isAgg0
  z0 := Tryd.sizeOf0
  v0 := Tryd.zeroValue0
  t2 := Tryd.underlying2
  a2 := Tryd.isAgg2
  z2 := Tryd.sizeOf2
  v2 := Tryd.zeroValue2
  t3 := Tryd.underlying3
  a3 := Tryd.isAgg3
  z3 := Tryd.sizeOf3
  v3 := Tryd.zeroValue3
  t4 := Tryd.underlying4
  a4 := Tryd.isAgg4
  z4 := Tryd.sizeOf4
  v4 := Tryd.zeroValue4
  t5 := Tryd.underlying5
  a5 := Tryd.isAgg5
  z5 := Tryd.sizeOf5
  v5 := Tryd.zeroValue5
  t9 := Tryd.underlying9
  a9 := Tryd.isAgg9
  z9 := Tryd.sizeOf9
  v9 := Tryd.zeroValue9
  t20 := Tryd.underlying20
  a20 := Tryd.isAgg20
  z20 := Tryd.sizeOf20
  v20 := Tryd.zeroValue20
  t37 := Tryd.underlying56
  a37 := Tryd.isAgg56
  z37 := Tryd.sizeOf56
  v37 := Tryd.zeroValue56
  t46 := Tryd.underlying90
  a46 := Tryd.isAgg90
  z46 := Tryd.sizeOf90
  v46 := Tryd.zeroValue90
  t51 := Tryd.underlying101
  a51 := Tryd.isAgg101
  z51 := Tryd.sizeOf101
  v51 := Tryd.zeroValue101
  t53 := Tryd.underlying100
  a53 := Tryd.isAgg100
  z53 := Tryd.sizeOf100
  v53 := Tryd.zeroValue100
  t171 := Tryd.underlying265
  a171 := Tryd.isAgg265
  z171 := Tryd.sizeOf265
  v171 := Tryd.zeroValue265
  t173 := Tryd.underlying267
  a173 := Tryd.isAgg267
  z173 := Tryd.sizeOf267
  v173 := Tryd.zeroValue267
  t212 := Tryd.underlying280
  a212 := Tryd.isAgg280
  z212 := Tryd.sizeOf280
  v212 := Tryd.zeroValue280
  t213 := Tryd.underlying281
  a213 := Tryd.isAgg281
  z213 := Tryd.sizeOf281
  t232 := Tryd.underlying296
  a232 := Tryd.isAgg296
  z232 := Tryd.sizeOf296
  v232 := Tryd.zeroValue296
  t233 := Tryd.underlying162
  a233 := Tryd.isAgg162
  z233 := Tryd.sizeOf162
  v233 := Tryd.zeroValue162
  g17 := by kernel_rfl
  g18 := by kernel_rfl
  g19 := by kernel_rfl
  i0 := by kernel_rfl
  i2 := by kernel_rfl
  i3 := by kernel_rfl
  i4 := by kernel_rfl
  i5 := by kernel_rfl
  i9 := by kernel_rfl
  i20 := by kernel_rfl
  i37 := by kernel_rfl
  i46 := by kernel_rfl
  i51 := by kernel_rfl
  i53 := by kernel_rfl
  i171 := by kernel_rfl
  i173 := by kernel_rfl
  i212 := by kernel_rfl
  i232 := by kernel_rfl
  i233 := by kernel_rfl
  m17 := by kernel_rfl
  m18 := by kernel_rfl
  m19 := by kernel_rfl }
open Go.RowKit Go.Sort Go.Lib in
theorem Tryd.strconv_Itoa (n : Int) (h0 : -9223372036854775808 ≤ n) (h1 : n ≤ 9223372036854775807) (w : World) (htab : Lib.TabIs Tryd.prog w "internal/strconv.uint64pow10" .u64 Lib.pow10Tab) :
    Calls Tryd.prog 126 #[.int .i64 n] w fun e w' => e = .returned (.string ⟨(Lib.itoa n).toArray⟩) ∧ ∃ k os, w' = grow (w.drewN k) os := Any.strconv_Itoa Tryd.laysM171 n h0 h1 w htab
def Tryd.laysC172_ren : Go.Shelf.Ren := ⟨fun | 172 => 129 | 244 => 153 | 245 => 154 | 247 => 172 | 279 => 173 | 280 => 174 | 281 => 175 | 282 => 176 | 287 => 197 | 316 => 198 | 171 => 126 | 205 => 199 | 321 => 212 | 322 => 213 | 243 => 151 | 246 => 170 | 283 => 189 | 284 => 190 | 285 => 191 | 286 => 192 | 129 => 206 | 317 => 205 | 318 => 207 | 319 => 208 | 320 => 209 | 337 => 217 | 338 => 218 | n => n, fun | 9 => 9 | 3 => 3 | 75 => 35 | 76 => 185 | 4 => 4 | 5 => 5 | 167 => 246 | 37 => 56 | 0 => 0 | 85 => 247 | 2 => 2 | 168 => 249 | 53 => 100 | 175 => 270 | 46 => 90 | 210 => 273 | 127 => 189 | 145 => 288 | 143 => 286 | 21 => 21 | 171 => 265 | 173 => 267 | 212 => 280 | 51 => 101 | 20 => 20 | 213 => 281 | 232 => 296 | 233 => 162 | 80 => 68 | n => n, fun | 15 => 2 | 16 => 3 | 17 => 4 | 18 => 7 | 19 => 8 | n => n⟩
theorem Tryd.laysC172 : Go.Proofs.LaysC.n172 Tryd.prog Tryd.laysC172_ren := {
  mixed := by kernel_rfl
  f129 := Tryd.func206.trans (congrArg some (by kernel_rfl))
  f171 := Tryd.func126.trans (congrArg some (by kernel_rfl))
  f172 := Tryd.func129.trans (congrArg some (by kernel_rfl))
  f205 := Tryd.func199.trans (congrArg some (by kernel_rfl))
  f243 := Tryd.func151.trans (congrArg some (by kernel_rfl))
  f244 := Tryd.func153.trans (congrArg some (by kernel_rfl))
  f245 := Tryd.func154.trans (congrArg some (by kernel_rfl))
  f246 := Tryd.func170.trans (congrArg some (by kernel_rfl))
  f247 := Tryd.func172.trans (congrArg some (by kernel_rfl))
  f279 := Tryd.func173.trans (congrArg some (by kernel_rfl))
  f280 := Tryd.func174.trans (congrArg some (by kernel_rfl))
  f281 := Tryd.func175.trans (congrArg some (by kernel_rfl))
  f282 := Tryd.func176.trans (congrArg some (by kernel_rfl))
  f283 := Tryd.func189.trans (congrArg some (by kernel_rfl))
  f284 := Tryd.func190.trans (congrArg some (by kernel_rfl))
  f285 := Tryd.func191.trans (congrArg some (by kernel_rfl))
  f286 := Tryd.func192.trans (congrArg some (by kernel_rfl))
  f287 := Tryd.func197.trans (congrArg some (by kernel_rfl))
  f316 := Tryd.func198.trans (congrArg some (by kernel_rfl))
  f317 := Tryd.func205.trans (congrArg some (by kernel_rfl))
  f318 := Tryd.func207.trans (congrArg some (by kernel_rfl))
  f319 := Tryd.func208.trans (congrArg some (by kernel_rfl))
  f320 := Tryd.func209.trans (congrArg some (by kernel_rfl))
  f321 := Tryd.func212.trans (congrArg some (by kernel_rfl))
  f322 := Tryd.func213.trans (congrArg some (by kernel_rfl))
  f337 := Tryd.func217.trans (congrArg some (by kernel_rfl))
  f338 := Tryd.func218.trans (congrArg some (by kernel_rfl))
  t0 := Tryd.underlying0
  a0 := Tryd.isAgg0
  z0 := Tryd.sizeOf0
  v0 := Tryd.zeroValue0
  t2 := Tryd.underlying2
  a2 := Tryd.isAgg2
  z2 := Tryd.sizeOf2
  v2 := Tryd.zeroValue2
  t3 := Tryd.underlying3
  a3 := Tryd.isAgg3
  z3 := Tryd.sizeOf3
  v3 := Tryd.zeroValue3
  t4 := Tryd.underlying4
  a4 := Tryd.isAgg4
  z4 := Tryd.sizeOf4
  v4 := Tryd.zeroValue4
  t5 := Tryd.underlying5
  a5 := Tryd.isAgg5
  z5 := Tryd.sizeOf5
  v5 := Tryd.zeroValue5
  t9 := Tryd.underlying9
  a9 := Tryd.isAgg9
  z9 := Tryd.sizeOf9
  v9 := Tryd.zeroValue9
  t20 := Tryd.underlying20
  a20 := Tryd.isAgg20
  z20 := Tryd.sizeOf20
  v20 := Tryd.zeroValue20
  t21 := Tryd.underlying21
  a21 := Tryd.isAgg21
  z21 := Tryd.sizeOf21
  v21 := Tryd.zeroValue21
  t37 := Tryd.underlying56
  a37 := Tryd.isAgg56
  z37 := Tryd.sizeOf56
  v37 := Tryd.zeroValue56
  t46 := Tryd.underlying90
  a46 := Tryd.isAgg90
  z46 := Tryd.sizeOf90
  v46 := Tryd.zeroValue90
  t51 := Tryd.underlying101
  a51 := Tryd.isAgg101
  z51 := Tryd.sizeOf101
  v51 := Tryd.zeroValue101
  t53 := Tryd.underlying100
  a53 := Tryd.isAgg100
  z53 := Tryd.sizeOf100
  v53 := Tryd.zeroValue100
  t75 := Tryd.underlying35
  a75 := Tryd.isAgg35
  z75 := Tryd.sizeOf35
  v75 := Tryd.zeroValue35
  t76 := Tryd.underlying185
  a76 := Tryd.isAgg185
  z76 := Tryd.sizeOf185
  v76 := Tryd.zeroValue185
  t85 := Tryd.underlying247
  a85 := Tryd.isAgg247
  z85 := Tryd.sizeOf247
  v85 := Tryd.zeroValue247
  t127 := Tryd.underlying189
  a127 := Tryd.isAgg189
  z127 := Tryd.sizeOf189
  v127 := Tryd.zeroValue189
  t143 := Tryd.underlying286
  a143 := Tryd.isAgg286
  z143 := Tryd.sizeOf286
  v143 := Tryd.zeroValue286
  t145 := Tryd.underlying288
  a145 := Tryd.isAgg288
  z145 := Tryd.sizeOf288
  v145 := Tryd.zeroValue288
  t167 := Tryd.underlying246
  a167 := Tryd.isAgg246
  z167 := Tryd.sizeOf246
  v167 := Tryd.zeroValue246
  t168 := Tryd.underlying249
  a168 := Tryd.isAgg249
  z168 := Tryd.sizeOf249
  v168 := Tryd.zeroValue249
  t171 := Tryd.underlying265
  a171 := Tryd.isAgg265
  z171 := Tryd.sizeOf265
  v171 := Tryd.zeroValue265
  t173 := Tryd.underlying267
  a173 := Tryd.isAgg267
  z173 := Tryd.sizeOf267
  v173 := Tryd.zeroValue267
  t175 := Tryd.underlying270
  a175 := Tryd.isAgg270
  z175 := Tryd.sizeOf270
  v175 := Tryd.zeroValue270
  t210 := Tryd.underlying273
  a210 := Tryd.isAgg273
  z210 := Tryd.sizeOf273
  v210 := Tryd.zeroValue273
  t212 := Tryd.underlying280
  a212 := Tryd.isAgg280
  z212 := Tryd.sizeOf280
  v212 := Tryd.zeroValue280
  t213 := Tryd.underlying281
  a213 := Tryd.isAgg281
  z213 := Tryd.sizeOf281
  t232 := Tryd.underlying296
  a232 := Tryd.isAgg296
  z232 := Tryd.sizeOf296
  v232 := Tryd.zeroValue296
  t233 := Tryd.underlying162
  a233 := Tryd.isAgg162
  z233 := Tryd.sizeOf162
  v233 := Tryd.zeroValue162
  g15 := by kernel_rfl
  g16 := by kernel_rfl
  g17 := by kernel_rfl
  g18 := by kernel_rfl
  g19 := by kernel_rfl
  t80 := Tryd.underlying68
  a80 := Tryd.isAgg68
  z80 := Tryd.sizeOf68
  v80 := Tryd.zeroValue68
  i0 := by kernel_rfl
  i2 := by kernel_rfl
  i3 := by kernel_rfl
  i4 := by kernel_rfl
  i5 := by kernel_rfl
  i9 := by kernel_rfl
  i20 := by kernel_rfl
  i21 := by kernel_rfl
  i37 := by kernel_rfl
  i46 := by kernel_rfl
  i51 := by kernel_rfl
  i53 := by kernel_rfl
  i75 := by kernel_rfl
  i76 := by kernel_rfl
  i80 := by kernel_rfl
  i85 := by kernel_rfl
  i127 := by kernel_rfl
  i143 := by kernel_rfl
  i145 := by kernel_rfl
  i167 := by kernel_rfl
  i168 := by kernel_rfl
  i171 := by kernel_rfl
  i173 := by kernel_rfl
  i175 := by kernel_rfl
  i210 := by kernel_rfl
  i212 := by kernel_rfl
  i232 := by kernel_rfl
  i233 := by kernel_rfl
  m15 := by kernel_rfl
  m16 := by kernel_rfl
  m17 := by kernel_rfl
  m18 := by kernel_rfl
  m19 := by kernel_rfl
  c0 := by kernel_rfl
  c2 := by kernel_rfl
  c3 := by kernel_rfl
  c4 := by kernel_rfl
  c5 := by kernel_rfl
  c9 := by kernel_rfl
  c20 := by kernel_rfl
  c21 := by kernel_rfl
  c37 := by kernel_rfl
  c46 := by kernel_rfl
  c51 := by kernel_rfl
  c53 := by kernel_rfl
  c75 := by kernel_rfl
  c76 := by kernel_rfl
  c80 := by kernel_rfl
  c85 := by kernel_rfl
  c127 := by kernel_rfl
  c143 := by kernel_rfl
  c145 := by kernel_rfl
  c167 := by kernel_rfl
  c168 := by kernel_rfl
  c171 := by kernel_rfl
  c173 := by kernel_rfl
  c175 := by kernel_rfl
  c210 := by kernel_rfl
  c212 := by kernel_rfl
  c213 := by kernel_rfl
  c232 := by kernel_rfl
  c233 := by kernel_rfl }
open Go.RowKit in
theorem Tryd.strconv_Atoi_ok (s : ByteArray) (hmax : s.size ≤ 9223372036854775806) (v : Int) (h : Lib.atoiAll s.data.toList = .ok v) (w : World) :
    Calls Tryd.prog 129 #[.string s] w fun e w' => e = .returned (.tuple #[.int .i64 v, .nilIface]) ∧ (w' = w ∨ ∃ t, w' = Lib.bytesWorld w 5 t) := Any.strconv_Atoi_ok Tryd.laysC172 s hmax v h w
open Go.RowKit in
theorem Tryd.strconv_Atoi_syntax (s : ByteArray) (hlim : s.size ≤ 281474976710656) (h : Lib.atoiAll s.data.toList = Lib.NumEnd.syntax) (ev : Value) (w : World) (hv : w.cell? ⟨2, 0, none⟩ = some ev) (hev : ev = .nilIface ∨ ∃ te pe, ev = .iface te pe) :
    Calls Tryd.prog 129 #[.string s] w fun e w' => ∃ N, e = .returned (.tuple #[.int .i64 (0), .iface 249 (.pointer (some ⟨N, 0, none⟩))]) ∧ w.heap.size ≤ N ∧ w'.heap[N]? = some (.cells #[.string ⟨#[65, 116, 111, 105]⟩, .string s, ev] 273 (0, 0)) ∧ Below w.heap.size w w' := Any.strconv_Atoi_syntax Tryd.laysC172 s hlim h ev w hv hev
open Go.RowKit in
theorem Tryd.strconv_Atoi_range (s : ByteArray) (hlim : s.size ≤ 281474976710656) (h : Lib.atoiAll s.data.toList = .range) (ev : Value) (w : World) (hv : w.cell? ⟨3, 0, none⟩ = some ev) (hev : ev = .nilIface ∨ ∃ te pe, ev = .iface te pe) :
    Calls Tryd.prog 129 #[.string s] w fun e w' => ∃ N, e = .returned (.tuple #[.int .i64 (Lib.atoiSat s.data.toList), .iface 249 (.pointer (some ⟨N, 0, none⟩))]) ∧ w.heap.size ≤ N ∧ w'.heap[N]? = some (.cells #[.string ⟨#[65, 116, 111, 105]⟩, .string s, ev] 273 (0, 0)) ∧ Below w.heap.size w w' := Any.strconv_Atoi_range Tryd.laysC172 s hlim h ev w hv hev
def Tryd.lays145_ren : Go.Shelf.Ren := ⟨fun | 145 => 127 | 220 => 152 | 219 => 171 | 217 => 193 | 225 => 194 | 224 => 195 | 267 => 196 | 266 => 210 | 314 => 211 | n => n, fun | 9 => 9 | 4 => 4 | 59 => 187 | 3 => 3 | 5 => 5 | 46 => 90 | 146 => 283 | 51 => 101 | n => n, fun | 1 => 1 | n => n⟩
theorem Tryd.lays145 : Go.Proofs.Lays.n145 Tryd.prog Tryd.lays145_ren := {
  mixed := by kernel_rfl
  f145 := Tryd.func127.trans (congrArg some (by kernel_rfl))
  f217 := Tryd.func193.trans (congrArg some (by kernel_rfl))
  f219 := Tryd.func171.trans (congrArg some (by kernel_rfl))
  f220 := Tryd.func152.trans (congrArg some (by kernel_rfl))
  f224 := Tryd.func195.trans (congrArg some (by kernel_rfl))
  f225 := Tryd.func194.trans (congrArg some (by kernel_rfl))
  f266 := Tryd.func210.trans (congrArg some (by kernel_rfl))
  f267 := Tryd.func196.trans (congrArg some (by kernel_rfl))
  f314 := Tryd.func211.trans (congrArg some (by kernel_rfl))
  t3 := Tryd.underlying3
  a3 := Tryd.isAgg3
  z3 := Tryd.sizeOf3
  v3 := Tryd.zeroValue3
  t4 := Tryd.underlying4
  a4 := Tryd.isAgg4
  z4 := Tryd.sizeOf4
  v4 := Tryd.zeroValue4
  t5 := Tryd.underlying5
  a5 := Tryd.isAgg5
  z5 := Tryd.sizeOf5
  v5 := Tryd.zeroValue5
  t9 := Tryd.underlying9
  a9 := Tryd.isAgg9
  z9 := Tryd.sizeOf9
  v9 := Tryd.zeroValue9
  t46 := Tryd.underlying90
  a46 := Tryd.isAgg90
  z46 := Tryd.sizeOf90
  v46 := Tryd.zeroValue90
  t51 := Tryd.underlying101
  a51 := Tryd.isAgg101
  z51 := Tryd.sizeOf101
  v51 := Tryd.zeroValue101
  t59 := Tryd.underlying187
  a59 := Tryd.isAgg187
  z59 := Tryd.sizeOf187
  v59 := Tryd.zeroValue187
  t146 := Tryd.underlying283
  a146 := Tryd.isAgg283
  z146 := Tryd.sizeOf283
  v146 := Tryd.zeroValue283
  g1 := by kernel_rfl }
open Go.RowKit Go.Lib in
theorem Tryd.strings_Cut (s sep : ByteArray) (m : Int) (w : World) (hs : s.size < 4294967281) (hm : w.cell? ⟨1, 0, none⟩ = some (.int .i64 m)) :
    Calls Tryd.prog 127 #[.string s, .string sep] w fun e w' => e = .returned (.tuple #[.string ⟨(Lib.cut s.data.toList sep.data.toList).1.toArray⟩, .string ⟨(Lib.cut s.data.toList sep.data.toList).2.1.toArray⟩, .bool (Lib.cut s.data.toList sep.data.toList).2.2]) ∧ ∃ n, w' = w.drewN n := Any.strings_Cut Tryd.lays145 s sep m w hs hm
end Go.Proofs

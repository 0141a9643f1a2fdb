/- The contracts of Go's library that the claims lean on, laid by the kit's tool at this program. -/
import Derived.Shelf.Strings.Builder1
import Derived.Shelf.Strings.Builder2
import Derived.Shelf.Strings.BuilderF
import Derived.Shelf.Strings.BuilderK
import Derived.Shelf.Strings.Builder2Cap
import Derived.Shelf.Strconv.Atoi
import Derived.Shelf.Strconv.Itoa0
import Derived.Shelf.Strconv.Itoa1
import Derived.Shelf.LaysM
import Derived.Shelf.Strconv.Itoa2
import Derived.Shelf.Strconv.Itoa3
import Derived.Shelf.Strconv.AtoiErrFast
import Derived.Shelf.Strconv.ParseIntEmpty
import Derived.Shelf.Strconv.AtoiFail
import Derived.Shelf.Strconv.Clone
import Derived.Shelf.Strconv.SyntaxError
import Derived.Shelf.LaysC
import Derived.Shelf.Strconv.ToError
import Derived.Shelf.Strconv.Lower
import Derived.Shelf.Strconv.ParseUint10
import Derived.Shelf.Strconv.ParseUint10Empty
import Derived.Shelf.Strconv.ParseUint10Any
import Derived.Shelf.Strconv.ParseInt10
import Derived.Shelf.Strconv.AtoiLong
import Derived.Shelf.Strconv.AtoiInnerAll
import Derived.Shelf.Strconv.RangeError
import Derived.Shelf.Strconv.ToErrorRange
import Derived.Shelf.Strconv.AtoiAll
import Derived.Shelf.Strconv.ErrVarAll
import Derived.Shelf.Strings.Search1
import Derived.Shelf.Strings.Search2
import Derived.Shelf.Strings.Cut
import Derived.Shelf.Strings.Shaped
import Derived.Shelf.Strings.Prefix
import Derived.Shelf.Bits.Mul64
import Derived.Shelf.Strings.Repeat
import Derived.Shelf.Strings.BuilderCap
import Derived.Shelf.Slices.Turned
import Derived.Test.YtpkmgdpnimecfabDoorProg
namespace Go.Proofs
open Go.Shelf
def Tryd.lays169_ren : Go.Shelf.Ren := ⟨fun | 169 => 85 | n => n, fun | 70 => 54 | 9 => 9 | 0 => 0 | 72 => 57 | 37 => 55 | 127 => 157 | 3 => 3 | 5 => 5 | n => n, fun | n => n⟩
theorem Tryd.lays169 : Go.Proofs.Lays.n169 Tryd.prog Tryd.lays169_ren := {
  mixed := by kernel_rfl
  f169 := Tryd.func85.trans (congrArg some (by kernel_rfl))
  t0 := Tryd.underlying0
  a0 := Tryd.isAgg0
  z0 := Tryd.sizeOf0
  v0 := Tryd.zeroValue0
  t3 := Tryd.underlying3
  a3 := Tryd.isAgg3
  z3 := Tryd.sizeOf3
  v3 := Tryd.zeroValue3
  t9 := Tryd.underlying9
  a9 := Tryd.isAgg9
  z9 := Tryd.sizeOf9
  v9 := Tryd.zeroValue9
  t37 := Tryd.underlying55
  a37 := Tryd.isAgg55
  z37 := Tryd.sizeOf55
  v37 := Tryd.zeroValue55
  t70 := Tryd.underlying54
  a70 := Tryd.isAgg54
  z70 := Tryd.sizeOf54
  v70 := Tryd.zeroValue54
  t72 := Tryd.underlying57
  a72 := Tryd.isAgg57
  z72 := Tryd.sizeOf57
  v72 := Tryd.zeroValue57
  t127 := Tryd.underlying157
  a127 := Tryd.isAgg157
  z127 := Tryd.sizeOf157
  v127 := Tryd.zeroValue157 }
theorem Tryd.Builder_Extra_169 : Builder.Extra Tryd.prog Tryd.lays169_ren := {
  sizeBuilder := by kernel_rfl
  liesBuilder := by kernel_rfl
  t5 := Tryd.underlying5
  a5 := Tryd.isAgg5
  z5 := Tryd.sizeOf5
  v5 := Tryd.zeroValue5
  infoByte := by kernel_rfl
  cellsByte := by kernel_rfl
  sizeByte := by kernel_rfl
  neB5 := by decide }
open Go.RowKit in
theorem Tryd.Builder_String_any (B b : Nat) (l : List UInt8) (w : World) (h : Lib.IsBuilder 57 5 B b (Lib.byteCells l) w) (hBw : B ≤ w.heap.size) :
    Calls Tryd.prog 85 #[.pointer (some ⟨b, 0, none⟩)] w fun e w' => e = .returned (.string ⟨l.toArray⟩) ∧ Below B w w' := Any.Builder_String_any Tryd.lays169 Tryd.Builder_Extra_169 B b l w h hBw
def Tryd.laysM171_ren : Go.Shelf.Ren := ⟨fun | 171 => 81 | 243 => 110 | 246 => 131 | 283 => 127 | 284 => 128 | 285 => 129 | 286 => 130 | 129 => 153 | 317 => 152 | 318 => 154 | 319 => 155 | 320 => 156 | 337 => 166 | 338 => 167 | n => n, fun | 3 => 3 | 9 => 9 | 2 => 2 | 4 => 4 | 171 => 169 | 0 => 0 | 53 => 117 | 37 => 55 | 5 => 5 | 173 => 172 | 212 => 212 | 51 => 175 | 20 => 20 | 213 => 213 | 46 => 66 | 232 => 231 | 233 => 232 | n => n, fun | 17 => 1 | 18 => 5 | 19 => 6 | n => n⟩
theorem Tryd.laysM171 : Go.Proofs.LaysM.n171 Tryd.prog Tryd.laysM171_ren := {
  mixed := by kernel_rfl
  f129 := Tryd.func153.trans (congrArg some (by kernel_rfl))
  f171 := Tryd.func81.trans (congrArg some (by kernel_rfl))
  f243 := Tryd.func110.trans (congrArg some (by kernel_rfl))
  f246 := Tryd.func131.trans (congrArg some (by kernel_rfl))
  f283 := Tryd.func127.trans (congrArg some (by kernel_rfl))
  f284 := Tryd.func128.trans (congrArg some (by kernel_rfl))
  f285 := Tryd.func129.trans (congrArg some (by kernel_rfl))
  f286 := Tryd.func130.trans (congrArg some (by kernel_rfl))
  f317 := Tryd.func152.trans (congrArg some (by kernel_rfl))
  f318 := Tryd.func154.trans (congrArg some (by kernel_rfl))
  f319 := Tryd.func155.trans (congrArg some (by kernel_rfl))
  f320 := Tryd.func156.trans (congrArg some (by kernel_rfl))
  f337 := Tryd.func166.trans (congrArg some (by kernel_rfl))
  f338 := Tryd.func167.trans (congrArg some (by kernel_rfl))
  t0 := Tryd.underlying0
  a0 := Tryd.isAgg0
  z0 := Tryd.sizeOf0
  v0 := Tryd.zeroValue0
  t2 := Tryd.underlying2
  a2 := Tryd.isAgg2
  z2 := Tryd.sizeOf2
  v2 := Tryd.zeroValue2
  t3 := Tryd.underlying3
  a3 := Tryd.isAgg3
  z3 := Tryd.sizeOf3
  v3 := Tryd.zeroValue3
  t4 := Tryd.underlying4
  a4 := Tryd.isAgg4
  z4 := Tryd.sizeOf4
  v4 := Tryd.zeroValue4
  t5 := Tryd.underlying5
  a5 := Tryd.isAgg5
  z5 := Tryd.sizeOf5
  v5 := Tryd.zeroValue5
  t9 := Tryd.underlying9
  a9 := Tryd.isAgg9
  z9 := Tryd.sizeOf9
  v9 := Tryd.zeroValue9
  t20 := Tryd.underlying20
  a20 := Tryd.isAgg20
  z20 := Tryd.sizeOf20
  v20 := Tryd.zeroValue20
  t37 := Tryd.underlying55
  a37 := Tryd.isAgg55
  z37 := Tryd.sizeOf55
  v37 := Tryd.zeroValue55
  t46 := Tryd.underlying66
  a46 := Tryd.isAgg66
  z46 := Tryd.sizeOf66
  v46 := Tryd.zeroValue66
  t51 := Tryd.underlying175
  a51 := Tryd.isAgg175
  z51 := Tryd.sizeOf175
  v51 := Tryd.zeroValue175
  t53 := Tryd.underlying117
  a53 := Tryd.isAgg117
  z53 := Tryd.sizeOf117
  v53 := Tryd.zeroValue117
  t171 := Tryd.underlying169
  a171 := Tryd.isAgg169
  z171 := Tryd.sizeOf169
  v171 := Tryd.zeroValue169
  t173 := Tryd.underlying172
  a173 := Tryd.isAgg172
  z173 := Tryd.sizeOf172
  v173 := Tryd.zeroValue172
  t212 := Tryd.underlying212
  a212 := Tryd.isAgg212
  z212 := Tryd.sizeOf212
  v212 := Tryd.zeroValue212
  t213 := Tryd.underlying213
  a213 := Tryd.isAgg213
  z213 := Tryd.sizeOf213
  t232 := Tryd.underlying231
  a232 := Tryd.isAgg231
  z232 := Tryd.sizeOf231
  v232 := Tryd.zeroValue231
  t233 := Tryd.underlying232
  a233 := Tryd.isAgg232
  z233 := Tryd.sizeOf232
  v233 := Tryd.zeroValue232
  g17 := by kernel_rfl
  g18 := by kernel_rfl
  g19 := by kernel_rfl
  i0 := by kernel_rfl
  i2 := by kernel_rfl
  i3 := by kernel_rfl
  i4 := by kernel_rfl
  i5 := by kernel_rfl
  i9 := by kernel_rfl
  i20 := by kernel_rfl
  i37 := by kernel_rfl
  i46 := by kernel_rfl
  i51 := by kernel_rfl
  i53 := by kernel_rfl
  i171 := by kernel_rfl
  i173 := by kernel_rfl
  i212 := by kernel_rfl
  i232 := by kernel_rfl
  i233 := by kernel_rfl
  m17 := by kernel_rfl
  m18 := by kernel_rfl
  m19 := by kernel_rfl }
open Go.RowKit Go.Sort Go.Lib in
theorem Tryd.strconv_Itoa (n : Int) (h0 : -9223372036854775808 ≤ n) (h1 : n ≤ 9223372036854775807) (w : World) (htab : Lib.TabIs Tryd.prog w "internal/strconv.uint64pow10" .u64 Lib.pow10Tab) :
    Calls Tryd.prog 81 #[.int .i64 n] w fun e w' => e = .returned (.string ⟨(Lib.itoa n).toArray⟩) ∧ ∃ k os, w' = grow (w.drewN k) os := Any.strconv_Itoa Tryd.laysM171 n h0 h1 w htab
def Tryd.laysC172_ren : Go.Shelf.Ren := ⟨fun | 172 => 88 | 244 => 119 | 245 => 116 | 247 => 144 | 279 => 138 | 280 => 139 | 281 => 140 | 282 => 141 | 287 => 115 | 316 => 158 | 171 => 81 | 205 => 159 | 321 => 136 | 322 => 137 | 243 => 110 | 246 => 131 | 283 => 127 | 284 => 128 | 285 => 129 | 286 => 130 | 129 => 153 | 317 => 152 | 318 => 154 | 319 => 155 | 320 => 156 | 337 => 166 | 338 => 167 | n => n, fun | 9 => 9 | 3 => 3 | 75 => 39 | 76 => 121 | 4 => 4 | 5 => 5 | 167 => 180 | 37 => 55 | 0 => 0 | 85 => 188 | 2 => 2 | 168 => 182 | 53 => 117 | 175 => 119 | 46 => 66 | 210 => 218 | 127 => 157 | 145 => 229 | 143 => 227 | 21 => 21 | 171 => 169 | 173 => 172 | 212 => 212 | 51 => 175 | 20 => 20 | 213 => 213 | 232 => 231 | 233 => 232 | 80 => 61 | n => n, fun | 15 => 2 | 16 => 3 | 17 => 1 | 18 => 5 | 19 => 6 | n => n⟩
theorem Tryd.laysC172 : Go.Proofs.LaysC.n172 Tryd.prog Tryd.laysC172_ren := {
  mixed := by kernel_rfl
  f129 := Tryd.func153.trans (congrArg some (by kernel_rfl))
  f171 := Tryd.func81.trans (congrArg some (by kernel_rfl))
  f172 := Tryd.func88.trans (congrArg some (by kernel_rfl))
  f205 := Tryd.func159.trans (congrArg some (by kernel_rfl))
  f243 := Tryd.func110.trans (congrArg some (by kernel_rfl))
  f244 := Tryd.func119.trans (congrArg some (by kernel_rfl))
  f245 := Tryd.func116.trans (congrArg some (by kernel_rfl))
  f246 := Tryd.func131.trans (congrArg some (by kernel_rfl))
  f247 := Tryd.func144.trans (congrArg some (by kernel_rfl))
  f279 := Tryd.func138.trans (congrArg some (by kernel_rfl))
  f280 := Tryd.func139.trans (congrArg some (by kernel_rfl))
  f281 := Tryd.func140.trans (congrArg some (by kernel_rfl))
  f282 := Tryd.func141.trans (congrArg some (by kernel_rfl))
  f283 := Tryd.func127.trans (congrArg some (by kernel_rfl))
  f284 := Tryd.func128.trans (congrArg some (by kernel_rfl))
  f285 := Tryd.func129.trans (congrArg some (by kernel_rfl))
  f286 := Tryd.func130.trans (congrArg some (by kernel_rfl))
  f287 := Tryd.func115.trans (congrArg some (by kernel_rfl))
  f316 := Tryd.func158.trans (congrArg some (by kernel_rfl))
  f317 := Tryd.func152.trans (congrArg some (by kernel_rfl))
  f318 := Tryd.func154.trans (congrArg some (by kernel_rfl))
  f319 := Tryd.func155.trans (congrArg some (by kernel_rfl))
  f320 := Tryd.func156.trans (congrArg some (by kernel_rfl))
  f321 := Tryd.func136.trans (congrArg some (by kernel_rfl))
  f322 := Tryd.func137.trans (congrArg some (by kernel_rfl))
  f337 := Tryd.func166.trans (congrArg some (by kernel_rfl))
  f338 := Tryd.func167.trans (congrArg some (by kernel_rfl))
  t0 := Tryd.underlying0
  a0 := Tryd.isAgg0
  z0 := Tryd.sizeOf0
  v0 := Tryd.zeroValue0
  t2 := Tryd.underlying2
  a2 := Tryd.isAgg2
  z2 := Tryd.sizeOf2
  v2 := Tryd.zeroValue2
  t3 := Tryd.underlying3
  a3 := Tryd.isAgg3
  z3 := Tryd.sizeOf3
  v3 := Tryd.zeroValue3
  t4 := Tryd.underlying4
  a4 := Tryd.isAgg4
  z4 := Tryd.sizeOf4
  v4 := Tryd.zeroValue4
  t5 := Tryd.underlying5
  a5 := Tryd.isAgg5
  z5 := Tryd.sizeOf5
  v5 := Tryd.zeroValue5
  t9 := Tryd.underlying9
  a9 := Tryd.isAgg9
  z9 := Tryd.sizeOf9
  v9 := Tryd.zeroValue9
  t20 := Tryd.underlying20
  a20 := Tryd.isAgg20
  z20 := Tryd.sizeOf20
  v20 := Tryd.zeroValue20
  t21 := Tryd.underlying21
  a21 := Tryd.isAgg21
  z21 := Tryd.sizeOf21
  v21 := Tryd.zeroValue21
  t37 := Tryd.underlying55
  a37 := Tryd.isAgg55
  z37 := Tryd.sizeOf55
  v37 := Tryd.zeroValue55
  t46 := Tryd.underlying66
  a46 := Tryd.isAgg66
  z46 := Tryd.sizeOf66
  v46 := Tryd.zeroValue66
  t51 := Tryd.underlying175
  a51 := Tryd.isAgg175
  z51 := Tryd.sizeOf175
  v51 := Tryd.zeroValue175
  t53 := Tryd.underlying117
  a53 := Tryd.isAgg117
  z53 := Tryd.sizeOf117
  v53 := Tryd.zeroValue117
  t75 := Tryd.underlying39
  a75 := Tryd.isAgg39
  z75 := Tryd.sizeOf39
  v75 := Tryd.zeroValue39
  t76 := Tryd.underlying121
  a76 := Tryd.isAgg121
  z76 := Tryd.sizeOf121
  v76 := Tryd.zeroValue121
  t85 := Tryd.underlying188
  a85 := Tryd.isAgg188
  z85 := Tryd.sizeOf188
  v85 := Tryd.zeroValue188
  t127 := Tryd.underlying157
  a127 := Tryd.isAgg157
  z127 := Tryd.sizeOf157
  v127 := Tryd.zeroValue157
  t143 := Tryd.underlying227
  a143 := Tryd.isAgg227
  z143 := Tryd.sizeOf227
  v143 := Tryd.zeroValue227
  t145 := Tryd.underlying229
  a145 := Tryd.isAgg229
  z145 := Tryd.sizeOf229
  v145 := Tryd.zeroValue229
  t167 := Tryd.underlying180
  a167 := Tryd.isAgg180
  z167 := Tryd.sizeOf180
  v167 := Tryd.zeroValue180
  t168 := Tryd.underlying182
  a168 := Tryd.isAgg182
  z168 := Tryd.sizeOf182
  v168 := Tryd.zeroValue182
  t171 := Tryd.underlying169
  a171 := Tryd.isAgg169
  z171 := Tryd.sizeOf169
  v171 := Tryd.zeroValue169
  t173 := Tryd.underlying172
  a173 := Tryd.isAgg172
  z173 := Tryd.sizeOf172
  v173 := Tryd.zeroValue172
  t175 := Tryd.underlying119
  a175 := Tryd.isAgg119
  z175 := Tryd.sizeOf119
  v175 := Tryd.zeroValue119
  t210 := Tryd.underlying218
  a210 := Tryd.isAgg218
  z210 := Tryd.sizeOf218
  v210 := Tryd.zeroValue218
  t212 := Tryd.underlying212
  a212 := Tryd.isAgg212
  z212 := Tryd.sizeOf212
  v212 := Tryd.zeroValue212
  t213 := Tryd.underlying213
  a213 := Tryd.isAgg213
  z213 := Tryd.sizeOf213
  t232 := Tryd.underlying231
  a232 := Tryd.isAgg231
  z232 := Tryd.sizeOf231
  v232 := Tryd.zeroValue231
  t233 := Tryd.underlying232
  a233 := Tryd.isAgg232
  z233 := Tryd.sizeOf232
  v233 := Tryd.zeroValue232
  g15 := by kernel_rfl
  g16 := by kernel_rfl
  g17 := by kernel_rfl
  g18 := by kernel_rfl
  g19 := by kernel_rfl
  t80 := Tryd.underlying61
  a80 := Tryd.isAgg61
  z80 := Tryd.sizeOf61
  v80 := Tryd.zeroValue61
  i0 := by kernel_rfl
  i2 := by kernel_rfl
  i3 := by kernel_rfl
  i4 := by kernel_rfl
  i5 := by kernel_rfl
  i9 := by kernel_rfl
  i20 := by kernel_rfl
  i21 := by kernel_rfl
  i37 := by kernel_rfl
  i46 := by kernel_rfl
  i51 := by kernel_rfl
  i53 := by kernel_rfl
  i75 := by kernel_rfl
  i76 := by kernel_rfl
  i80 := by kernel_rfl
  i85 := by kernel_rfl
  i127 := by kernel_rfl
  i143 := by kernel_rfl
  i145 := by kernel_rfl
  i167 := by kernel_rfl
  i168 := by kernel_rfl
  i171 := by kernel_rfl
  i173 := by kernel_rfl
  i175 := by kernel_rfl
  i210 := by kernel_rfl
  i212 := by kernel_rfl
  i232 := by kernel_rfl
  i233 := by kernel_rfl
  m15 := by kernel_rfl
  m16 := by kernel_rfl
  m17 := by kernel_rfl
  m18 := by kernel_rfl
  m19 := by kernel_rfl
  c0 := by kernel_rfl
  c2 := by kernel_rfl
  c3 := by kernel_rfl
  c4 := by kernel_rfl
  c5 := by kernel_rfl
  c9 := by kernel_rfl
  c20 := by kernel_rfl
  c21 := by kernel_rfl
  c37 := by kernel_rfl
  c46 := by kernel_rfl
  c51 := by kernel_rfl
  c53 := by kernel_rfl
  c75 := by kernel_rfl
  c76 := by kernel_rfl
  c80 := by kernel_rfl
  c85 := by kernel_rfl
  c127 := by kernel_rfl
  c143 := by kernel_rfl
  c145 := by kernel_rfl
  c167 := by kernel_rfl
  c168 := by kernel_rfl
  c171 := by kernel_rfl
  c173 := by kernel_rfl
  c175 := by kernel_rfl
  c210 := by kernel_rfl
  c212 := by kernel_rfl
  c213 := by kernel_rfl
  c232 := by kernel_rfl
  c233 := by kernel_rfl }
open Go.RowKit in
theorem Tryd.strconv_Atoi_ok (s : ByteArray) (hmax : s.size ≤ 9223372036854775806) (v : Int) (h : Lib.atoiAll s.data.toList = .ok v) (w : World) :
    Calls Tryd.prog 88 #[.string s] w fun e w' => e = .returned (.tuple #[.int .i64 v, .nilIface]) ∧ (w' = w ∨ ∃ t, w' = Lib.bytesWorld w 5 t) := Any.strconv_Atoi_ok Tryd.laysC172 s hmax v h w
open Go.RowKit in
theorem Tryd.strconv_Atoi_syntax (s : ByteArray) (hlim : s.size ≤ 281474976710656) (h : Lib.atoiAll s.data.toList = Lib.NumEnd.syntax) (ev : Value) (w : World) (hv : w.cell? ⟨2, 0, none⟩ = some ev) (hev : ev = .nilIface ∨ ∃ te pe, ev = .iface te pe) :
    Calls Tryd.prog 88 #[.string s] w fun e w' => ∃ N, e = .returned (.tuple #[.int .i64 (0), .iface 182 (.pointer (some ⟨N, 0, none⟩))]) ∧ w.heap.size ≤ N ∧ w'.heap[N]? = some (.cells #[.string ⟨#[65, 116, 111, 105]⟩, .string s, ev] 218 (0, 0)) ∧ Below w.heap.size w w' := Any.strconv_Atoi_syntax Tryd.laysC172 s hlim h ev w hv hev
open Go.RowKit in
theorem Tryd.strconv_Atoi_range (s : ByteArray) (hlim : s.size ≤ 281474976710656) (h : Lib.atoiAll s.data.toList = .range) (ev : Value) (w : World) (hv : w.cell? ⟨3, 0, none⟩ = some ev) (hev : ev = .nilIface ∨ ∃ te pe, ev = .iface te pe) :
    Calls Tryd.prog 88 #[.string s] w fun e w' => ∃ N, e = .returned (.tuple #[.int .i64 (Lib.atoiSat s.data.toList), .iface 182 (.pointer (some ⟨N, 0, none⟩))]) ∧ w.heap.size ≤ N ∧ w'.heap[N]? = some (.cells #[.string ⟨#[65, 116, 111, 105]⟩, .string s, ev] 218 (0, 0)) ∧ Below w.heap.size w w' := Any.strconv_Atoi_range Tryd.laysC172 s hlim h ev w hv hev
def Tryd.lays145_ren : Go.Shelf.Ren := ⟨fun | 145 => 86 | 220 => 118 | 219 => 143 | 217 => 160 | 225 => 161 | 224 => 162 | 267 => 163 | 266 => 168 | 314 => 169 | n => n, fun | 9 => 9 | 4 => 4 | 59 => 126 | 3 => 3 | 5 => 5 | 46 => 66 | 146 => 176 | 51 => 175 | n => n, fun | 1 => 4 | n => n⟩
theorem Tryd.lays145 : Go.Proofs.Lays.n145 Tryd.prog Tryd.lays145_ren := {
  mixed := by kernel_rfl
  f145 := Tryd.func86.trans (congrArg some (by kernel_rfl))
  f217 := Tryd.func160.trans (congrArg some (by kernel_rfl))
  f219 := Tryd.func143.trans (congrArg some (by kernel_rfl))
  f220 := Tryd.func118.trans (congrArg some (by kernel_rfl))
  f224 := Tryd.func162.trans (congrArg some (by kernel_rfl))
  f225 := Tryd.func161.trans (congrArg some (by kernel_rfl))
  f266 := Tryd.func168.trans (congrArg some (by kernel_rfl))
  f267 := Tryd.func163.trans (congrArg some (by kernel_rfl))
  f314 := Tryd.func169.trans (congrArg some (by kernel_rfl))
  t3 := Tryd.underlying3
  a3 := Tryd.isAgg3
  z3 := Tryd.sizeOf3
  v3 := Tryd.zeroValue3
  t4 := Tryd.underlying4
  a4 := Tryd.isAgg4
  z4 := Tryd.sizeOf4
  v4 := Tryd.zeroValue4
  t5 := Tryd.underlying5
  a5 := Tryd.isAgg5
  z5 := Tryd.sizeOf5
  v5 := Tryd.zeroValue5
  t9 := Tryd.underlying9
  a9 := Tryd.isAgg9
  z9 := Tryd.sizeOf9
  v9 := Tryd.zeroValue9
  t46 := Tryd.underlying66
  a46 := Tryd.isAgg66
  z46 := Tryd.sizeOf66
  v46 := Tryd.zeroValue66
  t51 := Tryd.underlying175
  a51 := Tryd.isAgg175
  z51 := Tryd.sizeOf175
  v51 := Tryd.zeroValue175
  t59 := Tryd.underlying126
  a59 := Tryd.isAgg126
  z59 := Tryd.sizeOf126
  v59 := Tryd.zeroValue126
  t146 := Tryd.underlying176
  a146 := Tryd.isAgg176
  z146 := Tryd.sizeOf176
  v146 := Tryd.zeroValue176
  g1 := by kernel_rfl }
open Go.RowKit Go.Lib in
theorem Tryd.strings_Cut (s sep : ByteArray) (m : Int) (w : World) (hs : s.size < 4294967281) (hm : w.cell? ⟨4, 0, none⟩ = some (.int .i64 m)) :
    Calls Tryd.prog 86 #[.string s, .string sep] w fun e w' => e = .returned (.tuple #[.string ⟨(Lib.cut s.data.toList sep.data.toList).1.toArray⟩, .string ⟨(Lib.cut s.data.toList sep.data.toList).2.1.toArray⟩, .bool (Lib.cut s.data.toList sep.data.toList).2.2]) ∧ ∃ n, w' = w.drewN n := Any.strings_Cut Tryd.lays145 s sep m w hs hm
end Go.Proofs

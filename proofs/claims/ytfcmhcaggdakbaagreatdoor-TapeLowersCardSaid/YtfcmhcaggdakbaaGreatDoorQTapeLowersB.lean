/-
  TapeLowers, part 2: the texts Shelf, Sign, Limb, Nat1, Nat2, Nat3, Nat4, Nat5, Nat6, Nat7, RatPlain, Rat, Rat2, Rat3, Dec, SignPlain2, LexPlain, LexPlain3, Tree, Tree2, Tree3, Tree4, LexPlain2, Tree5, Any, Lex as one.
-/
import Derived.Test.YtfcmhcaggdakbaaGreatDoorQTapeLowersA
import Derived.Shelf.Strings.Builder1
import Derived.Shelf.Strings.Builder2
import Derived.Shelf.Strings.OnBuilder
import Derived.Shelf.Small.Bits
import Derived.Shelf.Small.Strs
import Derived.Shelf.Small.Wraps
import Derived.Shelf.Strings.BuilderF
import Derived.Shelf.Strings.BuilderK
import Derived.Shelf.Strings.Builder2Cap
import Derived.Shelf.Strconv.Atoi
import Derived.Shelf.Strconv.Itoa0
import Derived.Shelf.Strconv.Itoa1
import Derived.Shelf.LaysM
import Derived.Shelf.Strconv.Itoa2
import Derived.Shelf.Strconv.Itoa3
import Derived.Shelf.Strconv.AtoiErrFast
import Derived.Shelf.Strconv.ParseIntEmpty
import Derived.Shelf.Strconv.AtoiFail
import Derived.Shelf.Strconv.Clone
import Derived.Shelf.Strconv.SyntaxError
import Derived.Shelf.LaysC
import Derived.Shelf.Strconv.ToError
import Derived.Shelf.Strconv.AtoiErr
import Derived.Shelf.Strconv.ErrVar
import Derived.Shelf.Strconv.Lower
import Derived.Shelf.Strconv.ParseUint10
import Derived.Shelf.Strconv.ParseUint10Empty
import Derived.Shelf.Strconv.ParseUint10Any
import Derived.Shelf.Strconv.ParseInt10
import Derived.Shelf.Strconv.AtoiLong
import Derived.Shelf.Strconv.AtoiInnerAll
import Derived.Shelf.Strconv.RangeError
import Derived.Shelf.Strconv.ToErrorRange
import Derived.Shelf.Strconv.AtoiAll
import Derived.Shelf.Strconv.ErrVarAll
import Derived.Shelf.Strconv.ParseUintEmpty
import Derived.Shelf.Strconv.ParseUint10b64
import Derived.Shelf.Strconv.ParseUint10b32
import Derived.Shelf.Strconv.ParseUint10b16
import Derived.Shelf.Strconv.ParseUint10b8
import Derived.Shelf.Strconv.ParseUint10At
import Derived.Shelf.Strconv.ParseInt10At64
import Derived.Shelf.Strconv.ParseInt10At32
import Derived.Shelf.Strconv.ParseInt10At16
import Derived.Shelf.Strconv.ParseInt10At8
import Derived.Shelf.Strconv.ParseInt10All
import Derived.Shelf.Strings.Search1
import Derived.Shelf.Strings.Search2
import Derived.Shelf.Strings.Cut
import Derived.Shelf.Strings.Shaped
import Derived.Shelf.Strings.Prefix
import Derived.Shelf.Unicode.Decode
import Derived.Shelf.Unicode.DecodeSlow
import Derived.Shelf.Unicode.DecodeAny
import Derived.Shelf.Strings.BuilderCap
import Derived.Ground.Names2Prog
import Derived.Shelf.Slices.SearchI
import Derived.Test.YtfcmhcaggdakbaaGreatDoorProg
import Derived.Lib.CutLaws
open Go.Proofs.Tryz
set_option linter.unusedVariables false
set_option linter.unusedSimpArgs false
set_option linter.unnecessarySimpa false
set_option maxHeartbeats 1000000
namespace Go.Proofs
open Go.Shelf
def Tryz.lays137_ren : Go.Shelf.Ren := ⟨fun | 137 => 76 | 217 => 114 | 266 => 146 | n => n,fun | 9 => 9 | 5 => 5 | 3 => 3 | n => n,fun | n => n⟩
theorem Tryz.lays137 : Go.Proofs.Lays.n137 prog Tryz.lays137_ren := {
 mixed := by kernel_rfl
 f137 := func76.trans (congrArg some (by kernel_rfl))
 f217 := func114.trans (congrArg some (by kernel_rfl))
 f266 := func146.trans (congrArg some (by kernel_rfl))
 t3 := underlying3
 a3 := isAgg3
 z3 := sizeOf3
 v3 := zeroValue3
 t5 := underlying5
 a5 := isAgg5
 z5 := sizeOf5
 v5 := zeroValue5
 t9 := underlying9
 a9 := isAgg9
 z9 := sizeOf9
 v9 := zeroValue9 }
open Go.RowKit in
theorem Tryz.strings_IndexByte (s : ByteArray) (c : Int) (w : World) :
 Calls prog 76 #[.string s,.int .u8 c] w fun e w' => e = .returned (.int .i64 (Lib.indexByte s.data.toList c.toNat.toUInt8)) ∧ w' = w := Any.strings_IndexByte Tryz.lays137 s c w
def Tryz.lays103_ren : Go.Shelf.Ren := ⟨fun | 103 => 166 | 210 => 192 | 206 => 213 | n => n,fun | 9 => 9 | 4 => 4 | 24 => 186 | 3 => 3 | n => n,fun | n => n⟩
theorem Tryz.lays103 : Go.Proofs.Lays.n103 prog Tryz.lays103_ren := {
 mixed := by kernel_rfl
 f103 := func166.trans (congrArg some (by kernel_rfl))
 f206 := func213.trans (congrArg some (by kernel_rfl))
 f210 := func192.trans (congrArg some (by kernel_rfl))
 t3 := underlying3
 a3 := isAgg3
 z3 := sizeOf3
 v3 := zeroValue3
 t4 := underlying4
 a4 := isAgg4
 z4 := sizeOf4
 v4 := zeroValue4
 t9 := underlying9
 a9 := isAgg9
 z9 := sizeOf9
 v9 := zeroValue9
 t24 := underlying186
 a24 := isAgg186
 z24 := sizeOf186
 v24 := zeroValue186 }
open Go.RowKit in
theorem Tryz.strings_CutPrefix (s p : ByteArray) (w : World) :
 Calls prog 166 #[.string s,.string p] w fun e w' => e = .returned (.tuple #[.string ⟨(Lib.trimPrefix s.data.toList p.data.toList).toArray⟩,.bool (Lib.hasPrefix s.data.toList p.data.toList)]) ∧ w' = w := Any.strings_CutPrefix Tryz.lays103 s p w
def Tryz.laysC172_ren : Go.Shelf.Ren := ⟨fun | 172 => 216 | 244 => 227 | 245 => 228 | 247 => 236 | 279 => 237 | 280 => 238 | 281 => 239 | 282 => 240 | 287 => 246 | 316 => 247 | 171 => 93 | 205 => 248 | 321 => 252 | 322 => 253 | 243 => 131 | 246 => 160 | 283 => 187 | 284 => 188 | 285 => 189 | 286 => 190 | 129 => 209 | 317 => 208 | 318 => 210 | 319 => 211 | 320 => 212 | 337 => 219 | 338 => 220 | n => n,fun | 9 => 9 | 3 => 3 | 75 => 142 | 76 => 143 | 4 => 4 | 5 => 5 | 167 => 265 | 37 => 64 | 0 => 0 | 85 => 266 | 2 => 2 | 168 => 268 | 53 => 136 | 175 => 273 | 46 => 196 | 210 => 277 | 127 => 173 | 145 => 284 | 143 => 282 | 21 => 21 | 171 => 219 | 173 => 222 | 212 => 234 | 51 => 134 | 20 => 20 | 213 => 235 | 232 => 259 | 233 => 260 | 80 => 145 | n => n,fun | 15 => 6 | 16 => 7 | 17 => 1 | 18 => 4 | 19 => 5 | n => n⟩
theorem Tryz.laysC172 : Go.Proofs.LaysC.n172 prog Tryz.laysC172_ren := {
 mixed := by kernel_rfl
 f129 := func209.trans (congrArg some (by kernel_rfl))
 f171 := func93.trans (congrArg some (by kernel_rfl))
 f172 := func216.trans (congrArg some (by kernel_rfl))
 f205 := func248.trans (congrArg some (by kernel_rfl))
 f243 := func131.trans (congrArg some (by kernel_rfl))
 f244 := func227.trans (congrArg some (by kernel_rfl))
 f245 := func228.trans (congrArg some (by kernel_rfl))
 f246 := func160.trans (congrArg some (by kernel_rfl))
 f247 := func236.trans (congrArg some (by kernel_rfl))
 f279 := func237.trans (congrArg some (by kernel_rfl))
 f280 := func238.trans (congrArg some (by kernel_rfl))
 f281 := func239.trans (congrArg some (by kernel_rfl))
 f282 := func240.trans (congrArg some (by kernel_rfl))
 f283 := func187.trans (congrArg some (by kernel_rfl))
 f284 := func188.trans (congrArg some (by kernel_rfl))
 f285 := func189.trans (congrArg some (by kernel_rfl))
 f286 := func190.trans (congrArg some (by kernel_rfl))
 f287 := func246.trans (congrArg some (by kernel_rfl))
 f316 := func247.trans (congrArg some (by kernel_rfl))
 f317 := func208.trans (congrArg some (by kernel_rfl))
 f318 := func210.trans (congrArg some (by kernel_rfl))
 f319 := func211.trans (congrArg some (by kernel_rfl))
 f320 := func212.trans (congrArg some (by kernel_rfl))
 f321 := func252.trans (congrArg some (by kernel_rfl))
 f322 := func253.trans (congrArg some (by kernel_rfl))
 f337 := func219.trans (congrArg some (by kernel_rfl))
 f338 := func220.trans (congrArg some (by kernel_rfl))
 t0 := underlying0
 a0 := isAgg0
 z0 := sizeOf0
 v0 := zeroValue0
 t2 := underlying2
 a2 := isAgg2
 z2 := sizeOf2
 v2 := zeroValue2
 t3 := underlying3
 a3 := isAgg3
 z3 := sizeOf3
 v3 := zeroValue3
 t4 := underlying4
 a4 := isAgg4
 z4 := sizeOf4
 v4 := zeroValue4
 t5 := underlying5
 a5 := isAgg5
 z5 := sizeOf5
 v5 := zeroValue5
 t9 := underlying9
 a9 := isAgg9
 z9 := sizeOf9
 v9 := zeroValue9
 t20 := underlying20
 a20 := isAgg20
 z20 := sizeOf20
 v20 := zeroValue20
 t21 := underlying21
 a21 := isAgg21
 z21 := sizeOf21
 v21 := zeroValue21
 t37 := underlying64
 a37 := isAgg64
 z37 := sizeOf64
 v37 := zeroValue64
 t46 := underlying196
 a46 := isAgg196
 z46 := sizeOf196
 v46 := zeroValue196
 t51 := underlying134
 a51 := isAgg134
 z51 := sizeOf134
 v51 := zeroValue134
 t53 := underlying136
 a53 := isAgg136
 z53 := sizeOf136
 v53 := zeroValue136
 t75 := underlying142
 a75 := isAgg142
 z75 := sizeOf142
 v75 := zeroValue142
 t76 := underlying143
 a76 := isAgg143
 z76 := sizeOf143
 v76 := zeroValue143
 t85 := underlying266
 a85 := isAgg266
 z85 := sizeOf266
 v85 := zeroValue266
 t127 := underlying173
 a127 := isAgg173
 z127 := sizeOf173
 v127 := zeroValue173
 t143 := underlying282
 a143 := isAgg282
 z143 := sizeOf282
 v143 := zeroValue282
 t145 := underlying284
 a145 := isAgg284
 z145 := sizeOf284
 v145 := zeroValue284
 t167 := underlying265
 a167 := isAgg265
 z167 := sizeOf265
 v167 := zeroValue265
 t168 := underlying268
 a168 := isAgg268
 z168 := sizeOf268
 v168 := zeroValue268
 t171 := underlying219
 a171 := isAgg219
 z171 := sizeOf219
 v171 := zeroValue219
 t173 := underlying222
 a173 := isAgg222
 z173 := sizeOf222
 v173 := zeroValue222
 t175 := underlying273
 a175 := isAgg273
 z175 := sizeOf273
 v175 := zeroValue273
 t210 := underlying277
 a210 := isAgg277
 z210 := sizeOf277
 v210 := zeroValue277
 t212 := underlying234
 a212 := isAgg234
 z212 := sizeOf234
 v212 := zeroValue234
 t213 := underlying235
 a213 := isAgg235
 z213 := sizeOf235
 t232 := underlying259
 a232 := isAgg259
 z232 := sizeOf259
 v232 := zeroValue259
 t233 := underlying260
 a233 := isAgg260
 z233 := sizeOf260
 v233 := zeroValue260
 g15 := by kernel_rfl
 g16 := by kernel_rfl
 g17 := by kernel_rfl
 g18 := by kernel_rfl
 g19 := by kernel_rfl
 t80 := underlying145
 a80 := isAgg145
 z80 := sizeOf145
 v80 := zeroValue145
 i0 := by kernel_rfl
 i2 := by kernel_rfl
 i3 := by kernel_rfl
 i4 := by kernel_rfl
 i5 := by kernel_rfl
 i9 := by kernel_rfl
 i20 := by kernel_rfl
 i21 := by kernel_rfl
 i37 := by kernel_rfl
 i46 := by kernel_rfl
 i51 := by kernel_rfl
 i53 := by kernel_rfl
 i75 := by kernel_rfl
 i76 := by kernel_rfl
 i80 := by kernel_rfl
 i85 := by kernel_rfl
 i127 := by kernel_rfl
 i143 := by kernel_rfl
 i145 := by kernel_rfl
 i167 := by kernel_rfl
 i168 := by kernel_rfl
 i171 := by kernel_rfl
 i173 := by kernel_rfl
 i175 := by kernel_rfl
 i210 := by kernel_rfl
 i212 := by kernel_rfl
 i232 := by kernel_rfl
 i233 := by kernel_rfl
 m15 := by kernel_rfl
 m16 := by kernel_rfl
 m17 := by kernel_rfl
 m18 := by kernel_rfl
 m19 := by kernel_rfl
 c0 := by kernel_rfl
 c2 := by kernel_rfl
 c3 := by kernel_rfl
 c4 := by kernel_rfl
 c5 := by kernel_rfl
 c9 := by kernel_rfl
 c20 := by kernel_rfl
 c21 := by kernel_rfl
 c37 := by kernel_rfl
 c46 := by kernel_rfl
 c51 := by kernel_rfl
 c53 := by kernel_rfl
 c75 := by kernel_rfl
 c76 := by kernel_rfl
 c80 := by kernel_rfl
 c85 := by kernel_rfl
 c127 := by kernel_rfl
 c143 := by kernel_rfl
 c145 := by kernel_rfl
 c167 := by kernel_rfl
 c168 := by kernel_rfl
 c171 := by kernel_rfl
 c173 := by kernel_rfl
 c175 := by kernel_rfl
 c210 := by kernel_rfl
 c212 := by kernel_rfl
 c213 := by kernel_rfl
 c232 := by kernel_rfl
 c233 := by kernel_rfl }
open Go.RowKit in
theorem Tryz.strconv_Atoi_ok (s : ByteArray) (hmax : s.size ≤ 9223372036854775806) (v : Int) (h : Lib.atoiAll s.data.toList = .ok v) (w : World) :
 Calls prog 216 #[.string s] w fun e w' => e = .returned (.tuple #[.int .i64 v,.nilIface]) ∧ (w' = w ∨ ∃ t,w' = Lib.bytesWorld w 5 t) := Any.strconv_Atoi_ok Tryz.laysC172 s hmax v h w
open Go.RowKit in
theorem Tryz.strconv_Atoi_syntax (s : ByteArray) (hlim : s.size ≤ 281474976710656) (h : Lib.atoiAll s.data.toList = Go.Lib.NumEnd.syntax) (ev : Value) (w : World) (hv : w.cell? ⟨6, 0, none⟩ = some ev) (hev : ev = .nilIface ∨ ∃ te pe, ev = .iface te pe) :
 Calls prog 216 #[.string s] w fun e w' => ∃ N,e = .returned (.tuple #[.int .i64 (0),.iface 268 (.pointer (some ⟨N,0,none⟩))]) ∧ w.heap.size ≤ N ∧ w'.heap[N]? = some (.cells #[.string ⟨#[65,116,111,105]⟩,.string s,ev] 277 (0,0)) ∧ Below w.heap.size w w' := Any.strconv_Atoi_syntax Tryz.laysC172 s hlim h ev w hv hev
open Go.RowKit in
theorem Tryz.strconv_Atoi_range (s : ByteArray) (hlim : s.size ≤ 281474976710656) (h : Lib.atoiAll s.data.toList = .range) (ev : Value) (w : World) (hv : w.cell? ⟨7, 0, none⟩ = some ev) (hev : ev = .nilIface ∨ ∃ te pe, ev = .iface te pe) :
 Calls prog 216 #[.string s] w fun e w' => ∃ N,e = .returned (.tuple #[.int .i64 (Lib.atoiSat s.data.toList),.iface 268 (.pointer (some ⟨N,0,none⟩))]) ∧ w.heap.size ≤ N ∧ w'.heap[N]? = some (.cells #[.string ⟨#[65,116,111,105]⟩,.string s,ev] 277 (0,0)) ∧ Below w.heap.size w w' := Any.strconv_Atoi_range Tryz.laysC172 s hlim h ev w hv hev
def Tryz.lays145_ren : Go.Shelf.Ren := ⟨fun | 145 => 167 | 220 => 193 | 219 => 214 | 217 => 114 | 225 => 221 | 224 => 222 | 267 => 223 | 266 => 146 | 314 => 233 | n => n,fun | 9 => 9 | 4 => 4 | 59 => 201 | 3 => 3 | 5 => 5 | 46 => 196 | 146 => 261 | 51 => 134 | n => n,fun | 1 => 0 | n => n⟩
theorem Tryz.lays145 : Go.Proofs.Lays.n145 prog Tryz.lays145_ren := {
 mixed := by kernel_rfl
 f145 := func167.trans (congrArg some (by kernel_rfl))
 f217 := func114.trans (congrArg some (by kernel_rfl))
 f219 := func214.trans (congrArg some (by kernel_rfl))
 f220 := func193.trans (congrArg some (by kernel_rfl))
 f224 := func222.trans (congrArg some (by kernel_rfl))
 f225 := func221.trans (congrArg some (by kernel_rfl))
 f266 := func146.trans (congrArg some (by kernel_rfl))
 f267 := func223.trans (congrArg some (by kernel_rfl))
 f314 := func233.trans (congrArg some (by kernel_rfl))
 t3 := underlying3
 a3 := isAgg3
 z3 := sizeOf3
 v3 := zeroValue3
 t4 := underlying4
 a4 := isAgg4
 z4 := sizeOf4
 v4 := zeroValue4
 t5 := underlying5
 a5 := isAgg5
 z5 := sizeOf5
 v5 := zeroValue5
 t9 := underlying9
 a9 := isAgg9
 z9 := sizeOf9
 v9 := zeroValue9
 t46 := underlying196
 a46 := isAgg196
 z46 := sizeOf196
 v46 := zeroValue196
 t51 := underlying134
 a51 := isAgg134
 z51 := sizeOf134
 v51 := zeroValue134
 t59 := underlying201
 a59 := isAgg201
 z59 := sizeOf201
 v59 := zeroValue201
 t146 := underlying261
 a146 := isAgg261
 z146 := sizeOf261
 v146 := zeroValue261
 g1 := by kernel_rfl }
open Go.RowKit Go.Lib in
theorem Tryz.strings_Cut (s sep : ByteArray) (m : Int) (w : World) (hs : s.size < 4294967281) (hm : w.cell? ⟨0, 0, none⟩ = some (.int .i64 m)) :
 Calls prog 167 #[.string s,.string sep] w fun e w' => e = .returned (.tuple #[.string ⟨(Lib.cut s.data.toList sep.data.toList).1.toArray⟩,.string ⟨(Lib.cut s.data.toList sep.data.toList).2.1.toArray⟩,.bool (Lib.cut s.data.toList sep.data.toList).2.2]) ∧ ∃ n,w' = w.drewN n := Any.strings_Cut Tryz.lays145 s sep m w hs hm
def Tryz.laysM145_ren : Go.Shelf.Ren := ⟨fun | 145 => 167 | 220 => 193 | 219 => 214 | 217 => 114 | 225 => 221 | 224 => 222 | 267 => 223 | 266 => 146 | 314 => 233 | n => n,fun | 9 => 9 | 4 => 4 | 59 => 201 | 3 => 3 | 5 => 5 | 46 => 196 | 146 => 261 | 51 => 134 | n => n,fun | 1 => 0 | n => n⟩
theorem Tryz.laysM145 : Go.Proofs.LaysM.n145 prog Tryz.laysM145_ren := {
 mixed := by kernel_rfl
 f145 := func167.trans (congrArg some (by kernel_rfl))
 f217 := func114.trans (congrArg some (by kernel_rfl))
 f219 := func214.trans (congrArg some (by kernel_rfl))
 f220 := func193.trans (congrArg some (by kernel_rfl))
 f224 := func222.trans (congrArg some (by kernel_rfl))
 f225 := func221.trans (congrArg some (by kernel_rfl))
 f266 := func146.trans (congrArg some (by kernel_rfl))
 f267 := func223.trans (congrArg some (by kernel_rfl))
 f314 := func233.trans (congrArg some (by kernel_rfl))
 t3 := underlying3
 a3 := isAgg3
 z3 := sizeOf3
 v3 := zeroValue3
 t4 := underlying4
 a4 := isAgg4
 z4 := sizeOf4
 v4 := zeroValue4
 t5 := underlying5
 a5 := isAgg5
 z5 := sizeOf5
 v5 := zeroValue5
 t9 := underlying9
 a9 := isAgg9
 z9 := sizeOf9
 v9 := zeroValue9
 t46 := underlying196
 a46 := isAgg196
 z46 := sizeOf196
 v46 := zeroValue196
 t51 := underlying134
 a51 := isAgg134
 z51 := sizeOf134
 v51 := zeroValue134
 t59 := underlying201
 a59 := isAgg201
 z59 := sizeOf201
 v59 := zeroValue201
 t146 := underlying261
 a146 := isAgg261
 z146 := sizeOf261
 v146 := zeroValue261
 g1 := by kernel_rfl
 i3 := by kernel_rfl
 i4 := by kernel_rfl
 i5 := by kernel_rfl
 i9 := by kernel_rfl
 i46 := by kernel_rfl
 i51 := by kernel_rfl
 i59 := by kernel_rfl
 i146 := by kernel_rfl
 m1 := by kernel_rfl
 s1_3 := fun w h => Go.Proofs.cell_of_shapedOpen_int (zero := #[.int .i64 0]) (t := 3) h (of_decide_eq_true (by kernel_rfl)) (by kernel_rfl) rfl (by kernel_rfl) (by kernel_rfl) underlying3 }
def Tryz.lays197_ren : Go.Shelf.Ren := ⟨fun | 197 => 163 | 260 => 191 | n => n,fun | 9 => 9 | 21 => 21 | 3 => 3 | 4 => 4 | 5 => 5 | 105 => 183 | 119 => 237 | 0 => 0 | 46 => 196 | 139 => 240 | 138 => 239 | n => n,fun | 3 => 2 | 4 => 3 | n => n⟩
theorem Tryz.lays197 : Go.Proofs.Lays.n197 prog Tryz.lays197_ren := {
 mixed := by kernel_rfl
 f197 := func163.trans (congrArg some (by kernel_rfl))
 f260 := func191.trans (congrArg some (by kernel_rfl))
 t0 := underlying0
 a0 := isAgg0
 z0 := sizeOf0
 v0 := zeroValue0
 t3 := underlying3
 a3 := isAgg3
 z3 := sizeOf3
 v3 := zeroValue3
 t4 := underlying4
 a4 := isAgg4
 z4 := sizeOf4
 v4 := zeroValue4
 t5 := underlying5
 a5 := isAgg5
 z5 := sizeOf5
 v5 := zeroValue5
 t9 := underlying9
 a9 := isAgg9
 z9 := sizeOf9
 v9 := zeroValue9
 t21 := underlying21
 a21 := isAgg21
 z21 := sizeOf21
 v21 := zeroValue21
 t46 := underlying196
 a46 := isAgg196
 z46 := sizeOf196
 v46 := zeroValue196
 t105 := underlying183
 a105 := isAgg183
 z105 := sizeOf183
 v105 := zeroValue183
 t119 := underlying237
 a119 := isAgg237
 z119 := sizeOf237
 t138 := underlying239
 a138 := isAgg239
 z138 := sizeOf239
 v138 := zeroValue239
 t139 := underlying240
 a139 := isAgg240
 z139 := sizeOf240
 v139 := zeroValue240
 g3 := by kernel_rfl
 g4 := by kernel_rfl }
def Tryz.lays260_ren : Go.Shelf.Ren := ⟨fun | 260 => 191 | n => n,fun | 9 => 9 | 21 => 21 | 3 => 3 | 4 => 4 | 5 => 5 | 119 => 237 | 0 => 0 | 46 => 196 | 139 => 240 | 138 => 239 | n => n,fun | 3 => 2 | 4 => 3 | n => n⟩
theorem Tryz.lays260 : Go.Proofs.Lays.n260 prog Tryz.lays260_ren := {
 mixed := by kernel_rfl
 f260 := func191.trans (congrArg some (by kernel_rfl))
 t0 := underlying0
 a0 := isAgg0
 z0 := sizeOf0
 v0 := zeroValue0
 t3 := underlying3
 a3 := isAgg3
 z3 := sizeOf3
 v3 := zeroValue3
 t4 := underlying4
 a4 := isAgg4
 z4 := sizeOf4
 v4 := zeroValue4
 t5 := underlying5
 a5 := isAgg5
 z5 := sizeOf5
 v5 := zeroValue5
 t9 := underlying9
 a9 := isAgg9
 z9 := sizeOf9
 v9 := zeroValue9
 t21 := underlying21
 a21 := isAgg21
 z21 := sizeOf21
 v21 := zeroValue21
 t46 := underlying196
 a46 := isAgg196
 z46 := sizeOf196
 v46 := zeroValue196
 t119 := underlying237
 a119 := isAgg237
 z119 := sizeOf237
 t138 := underlying239
 a138 := isAgg239
 z138 := sizeOf239
 v138 := zeroValue239
 t139 := underlying240
 a139 := isAgg240
 z139 := sizeOf240
 v139 := zeroValue240
 g3 := by kernel_rfl
 g4 := by kernel_rfl }
open Go.RowKit Go.Lib in
theorem Tryz.utf8_DecodeRuneInString (s : ByteArray) (w : World) (hT : Lib.Utf8Tabs 2 3 w) :
 Calls prog 163 #[.string s] w fun e w' => e = .returned (.tuple #[.int .i32 (Lib.decodeGo s).1,.int .i64 (Lib.decodeGo s).2]) ∧ Below w.heap.size w w' := Any.utf8_DecodeRuneInString Tryz.lays197 s w hT
end Go.Proofs
namespace Go.Proofs.YtfcmhcaggdakbaaGreatDoor
open Go Go.Tw
theorem qhb {f : FuncId} {vs : List Value} {I : Hp} {R : Value → Prop} (h : ∀ w, I.In w → Calls prog f vs.toArray w fun e w' => ∃ v, e = .returned v ∧ R v ∧ RowKit.Below w.heap.size w w') : Fun prog f vs I [] (fun v _ _ => R v) := fun w hw =>
 (h w hw.imm).mono fun e w' ⟨v,he,hR,hb⟩ => ⟨v,he,⟨I,[],(St.start hw.imm).still (But.of_below hb),Ext.refl _ _,hR⟩⟩
def Tabs (I : Hp) : Prop :=
 (∀ c,c < 256 → I.cell? ⟨2,c,none⟩ = some (.int .u8 (Lib.firstT c))) ∧
 (∀ i,i < 16 → I.cell? ⟨3,2 * i,none⟩ = some (.int .u8 (Lib.accLo i)) ∧ I.cell? ⟨3,2 * i + 1,none⟩ = some (.int .u8 (Lib.accHi i)))
theorem Tabs.le {I I' : Hp} (h : Tabs I) (hl : I.Le I') : Tabs I' := ⟨fun c hc => hl.cell (h.1 c hc),fun i hi => ⟨hl.cell (h.2 i hi).1,hl.cell (h.2 i hi).2⟩⟩
theorem Tabs.utf8 {I : Hp} {w : World} (h : Tabs I) (hI : I.In w) : Lib.Utf8Tabs 2 3 w := ⟨fun c hc => hI.cell (h.1 c hc),fun i hi => ⟨hI.cell (h.2 i hi).1,hI.cell (h.2 i hi).2⟩⟩
theorem qec (r a b : Int) : yp prog 75 [.int .i32 r,.int .i32 a,.int .i32 b] (.bool (decide (r ≥ a) && decide (r ≤ b))) := by
 intro w
 refine j5 _ func75 rfl ntmps75 rfl ?_ (S := fun w1 => w1 = w) rfl;refine sR ?_;refine oV ?_;refine nS ?_;iterate 3 refine oV ?_
 refine' oY (fun hb10 => ?_) ?_;rotate_left
 ·
  iterate 3 refine gV hb10 ?_
  refine oN ?_;exact qa rfl
 refine oV ?_;refine nE ?_;refine ret1 rfl rfl ?_;exact fun _ hw => ⟨rfl,hw⟩
theorem qwk (r : Int) : yp prog 81 [.int .i64 r] (.int .i64 (yo r)) := by
 intro w
 refine qn _ func81 rfl ntmps81 rfl ?_ (S := fun w1 => w1 = w) rfl;refine sR ?_;refine oV ?_;refine oN (tC (cS (cB (sR ?_))));iterate 2 refine oV ?_
 refine' oY (fun hb6 => ?_) ?_;rotate_left
 ·
  iterate 2 refine gV hb6 ?_
  refine oN ?_;exact qa rfl
 refine' oZ (fun hb10 => ?_) ?_;rotate_left
 ·
  iterate 2 refine gV hb10 ?_
  refine' qbc (wS rfl rfl hb10) (wS rfl rfl hb10) rfl rfl rfl rfl rfl rfl rfl rfl (fun hb13 => ?_) ?_;rotate_left
  ·
   iterate 2 refine gV hb13 ?_
   refine oN ?_;exact qa rfl
  refine oN ?_;exact qa rfl
 refine' oZ (fun hb18 => ?_) ?_;rotate_left
 ·
  iterate 2 refine gV hb18 ?_
  refine oN ?_;exact qa rfl
 refine' oZ (fun hb22 => ?_) ?_;rotate_left
 ·
  iterate 2 refine gV hb22 ?_
  refine' qbc (wS rfl rfl hb22) (wS rfl rfl hb22) rfl rfl rfl rfl rfl rfl rfl rfl (fun hb25 => ?_) ?_;rotate_left
  ·
   iterate 2 refine gV hb25 ?_
   refine oN ?_;exact qa rfl
  refine' qbc (wS rfl rfl hb22) (wS rfl rfl hb22) rfl rfl rfl rfl rfl rfl rfl rfl (fun hb29 => ?_) ?_;rotate_left
  ·
   iterate 2 refine gV hb29 ?_
   refine oN ?_;exact qa rfl
  refine oN ?_;exact qa rfl
 refine oV ?_;refine nT ?_;refine cC rfl (fun h1 => ?_) (fun h1 => ?_)
 ·
  have f1 := h1;try simp only [bl] at f1
  refine sR ?_;refine oV ?_;refine oN (tC (cT (qb (tR ?_))));refine ret1 rfl rfl ?_;exact fun _ hw => ⟨congrArg (Value.int .i64) (by unfold yo; repeat' split <;> omega),hw⟩
 have f1 := h1;try simp only [bl] at f1
 refine sR ?_;iterate 2 refine oV ?_
 refine' oY (fun hb37 => ?_) ?_;rotate_left
 ·
  iterate 2 refine gV hb37 ?_
  refine oN ?_;exact qa rfl
 refine oV ?_;refine nT ?_;refine cC rfl (fun h2 => ?_) (fun h2 => ?_)
 ·
  have f2 := h2;try simp only [bl] at f2
  refine sR ?_;refine oV ?_;refine oN (tC (cT (qb (tR ?_))));refine ret1 rfl rfl ?_;exact fun _ hw => ⟨congrArg (Value.int .i64) (by unfold yo; repeat' split <;> omega),hw⟩
 have f2 := h2;try simp only [bl] at f2
 refine sR ?_;iterate 2 refine oV ?_
 refine' oZ (fun hb44 => ?_) ?_;rotate_left
 ·
  iterate 2 refine gV hb44 ?_
  refine oN ?_;exact qa rfl
 refine' oZ (fun hb48 => ?_) ?_;rotate_left
 ·
  iterate 2 refine gV hb48 ?_
  refine oN ?_;exact qa rfl
 refine' oZ (fun hb52 => ?_) ?_;rotate_left
 ·
  iterate 2 refine gV hb52 ?_
  refine oN ?_;exact qa rfl
 refine oV ?_;refine nT ?_;refine cC rfl (fun h3 => ?_) (fun h3 => ?_)
 ·
  have f3 := h3;try simp only [bl] at f3
  refine sR ?_;refine oV ?_;refine oN (tC (cT (qb (tR ?_))));refine ret1 rfl rfl ?_;exact fun _ hw => ⟨congrArg (Value.int .i64) (by unfold yo; repeat' split <;> omega),hw⟩
 have f3 := h3;try simp only [bl] at f3
 refine sR ?_;iterate 2 refine oV ?_
 refine' oZ (fun hb59 => ?_) ?_;rotate_left
 ·
  iterate 2 refine gV hb59 ?_
  refine oN ?_;exact qa rfl
 refine' oZ (fun hb63 => ?_) ?_;rotate_left
 ·
  iterate 2 refine gV hb63 ?_
  refine oN ?_;exact qa rfl
 refine' oZ (fun hb67 => ?_) ?_;rotate_left
 ·
  iterate 2 refine gV hb67 ?_
  refine oN ?_;exact qa rfl
 refine' oZ (fun hb71 => ?_) ?_;rotate_left
 ·
  iterate 2 refine gV hb71 ?_
  refine oN ?_;exact qa rfl
 refine' oZ (fun hb75 => ?_) ?_;rotate_left
 ·
  iterate 2 refine gV hb75 ?_
  refine oN ?_;exact qa rfl
 refine' oZ (fun hb79 => ?_) ?_;rotate_left
 ·
  iterate 2 refine gV hb79 ?_
  refine oN ?_;exact qa rfl
 refine' oZ (fun hb83 => ?_) ?_;rotate_left
 ·
  iterate 2 refine gV hb83 ?_
  refine oN ?_;exact qa rfl
 refine' oZ (fun hb87 => ?_) ?_;rotate_left
 ·
  iterate 2 refine gV hb87 ?_
  refine oN ?_;exact qa rfl
 refine' oZ (fun hb91 => ?_) ?_;rotate_left
 ·
  iterate 2 refine gV hb91 ?_
  refine oN ?_;exact qa rfl
 refine oV ?_;refine nT ?_;refine cC rfl (fun h4 => ?_) (fun h4 => ?_)
 ·
  have f4 := h4;try simp only [bl] at f4
  refine sR ?_;refine oV ?_;refine oN (tC (cT (qb (tR ?_))));refine ret1 rfl rfl ?_;exact fun _ hw => ⟨congrArg (Value.int .i64) (by unfold yo; repeat' split <;> omega),hw⟩
 have f4 := h4;try simp only [bl] at f4
 refine cK (qg (tC (sR ?_)));refine oV ?_;refine nE ?_;refine ret1 rfl rfl ?_;exact fun _ hw => ⟨congrArg (Value.int .i64) (by unfold yo; repeat' split <;> omega),hw⟩
theorem qog (s : ByteArray) (c : Int) : yp prog 76 [.string s, .int .u8 c] (.int .i64 (Lib.indexByte s.data.toList c.toNat.toUInt8)) := fun w =>
 (Tryz.strings_IndexByte s c w).mono fun _ _ ⟨h1,h2⟩ => ⟨_,h1,rfl,h2⟩
set_option maxRecDepth 100000 in
theorem qwl : ∀ x : Fin 128,(decide (Lib.indexByte [32,9,10,13] ((x.val : Int).toNat.toUInt8) ≥ 0)) = decide (x.val = 9 ∨ x.val = 10 ∨ x.val = 13 ∨ x.val = 32) := by decide
set_option maxRecDepth 100000 in
theorem qwm : ∀ x : Fin 128,(decide (Lib.indexByte [43,45,42,47,94,40,41,61,59,44] ((x.val : Int).toNat.toUInt8) ≥ 0)) = decide (x.val = 43 ∨ x.val = 45 ∨ x.val = 42 ∨ x.val = 47 ∨ x.val = 94 ∨ x.val = 40 ∨ x.val = 41 ∨ x.val = 61 ∨ x.val = 59 ∨ x.val = 44) := by decide
theorem qwn (r : Int) (h : (0 : Int) ≤ r ∧ r ≤ 127) : decide (Lib.indexByte [32,9,10,13] ((IntKind.u8.wrap r).toNat.toUInt8) ≥ 0) = decide (r = 9 ∨ r = 10 ∨ r = 13 ∨ r = 32) := by
 have e : IntKind.u8.wrap r = r := IntWalk.u8_in r ⟨h.1,by omega⟩
 rw [e]
 have := qwl ⟨r.toNat,by omega⟩
 simp only at this
 rw [show ((r.toNat : Nat) : Int) = r by omega] at this
 rw [this]
 apply decide_eq_decide.2
 omega
theorem qwo (r : Int) (h : (0 : Int) ≤ r ∧ r ≤ 127) : decide (Lib.indexByte [43,45,42,47,94,40,41,61,59,44] ((IntKind.u8.wrap r).toNat.toUInt8) ≥ 0) = decide (r = 43 ∨ r = 45 ∨ r = 42 ∨ r = 47 ∨ r = 94 ∨ r = 40 ∨ r = 41 ∨ r = 61 ∨ r = 59 ∨ r = 44) := by
 have e : IntKind.u8.wrap r = r := IntWalk.u8_in r ⟨h.1,by omega⟩
 rw [e]
 have := qwm ⟨r.toNat,by omega⟩
 simp only at this
 rw [show ((r.toNat : Nat) : Int) = r by omega] at this
 rw [this]
 apply decide_eq_decide.2
 omega
theorem qwp (r : Int) : 0 ≤ r ∧ r ≤ 127 → (0 ≤ Lib.indexByte [32, 9, 10, 13] ((IntKind.u8.wrap r).toNat.toUInt8) ↔ (r = 9 ∨ r = 10 ∨ r = 13 ∨ r = 32)) := fun h => by
 have := qwn r h
 rw [decide_eq_decide] at this
 exact this
theorem qwq (r : Int) : 0 ≤ r ∧ r ≤ 127 → (0 ≤ Lib.indexByte [43, 45, 42, 47, 94, 40, 41, 61, 59, 44] ((IntKind.u8.wrap r).toNat.toUInt8) ↔ (r = 43 ∨ r = 45 ∨ r = 42 ∨ r = 47 ∨ r = 94 ∨ r = 40 ∨ r = 41 ∨ r = 61 ∨ r = 59 ∨ r = 44)) := fun h => by
 have := qwo r h
 rw [decide_eq_decide] at this
 exact this
theorem qhc (r : Int) : yp prog 43 [.int .i32 r] (.int .i64 (yo r)) := by
 have hb := qwp r
 have hm := qwq r
 intro w
 refine qn _ func43 rfl ntmps43 rfl ?_ (S := fun w1 => w1 = w) rfl;refine sR ?_;refine oV ?_;refine oN (tC (cS (cB (sR ?_))));refine oV ?_;refine oP trivial rfl call75 rfl (qec _ _ _) ?_;refine' oZ (fun hb6 => ?_) ?_;rotate_left
 ·
  have fb6 := hb6
  try simp only [bl] at fb6
  refine gV hb6 ?_;refine oP (wS rfl rfl hb6) rfl call75 rfl (qec _ _ _) ?_;refine oN ?_;exact qa rfl
 refine' oZ (fun hb10 => ?_) ?_;rotate_left
 ·
  iterate 2 refine gV hb10 ?_
  refine oN ?_;exact qa rfl
 refine' oZ (fun hb14 => ?_) ?_;rotate_left
 ·
  have fb14 := hb14
  try simp only [bl] at fb14
  refine gV hb14 ?_;refine oP (wS rfl rfl hb14) rfl call75 rfl (qec _ _ _) ?_;refine' qbc (wS rfl rfl hb14) (wS rfl rfl hb14) rfl rfl rfl rfl rfl rfl rfl rfl (fun hb17 => ?_) ?_;rotate_left
  ·
   iterate 2 refine gV hb17 ?_
   refine oN ?_;exact qa rfl
  refine oN ?_;exact qa rfl
 refine oV ?_;refine nT ?_;refine cC rfl (fun h1 => ?_) (fun h1 => ?_)
 ·
  have f1 := h1;try simp only [bl] at f1
  refine sR ?_;refine oV ?_;refine oN (tC (cT (qb (tR ?_))));refine ret1 rfl rfl ?_;exact fun _ hw => ⟨congrArg (Value.int .i64) (by unfold yo; repeat' split <;> omega),hw⟩
 have f1 := h1;try simp only [bl] at f1
 refine sR ?_;refine oV ?_;refine oP trivial rfl call75 rfl (qec _ _ _) ?_;refine oV ?_;refine nT ?_;refine cC rfl (fun h2 => ?_) (fun h2 => ?_)
 ·
  have f2 := h2;try simp only [bl] at f2
  refine sR ?_;refine oV ?_;refine oN (tC (cT (qb (tR ?_))));refine ret1 rfl rfl ?_;exact fun _ hw => ⟨congrArg (Value.int .i64) (by unfold yo; repeat' split <;> omega),hw⟩
 have f2 := h2;try simp only [bl] at f2
 refine sR ?_;refine oV ?_;refine oP trivial rfl call75 rfl (qec _ _ _) ?_;refine' oY (fun hb28 => ?_) ?_;rotate_left
 ·
  have fb28 := hb28
  try simp only [bl] at fb28
  refine gV hb28 ?_;refine qa0 (wS rfl rfl hb28) rfl underlying21 underlying5 rfl ?_;refine oP (wS rfl rfl hb28) rfl call76 rfl (qog _ _) ?_;refine gV hb28 ?_;refine oN ?_;exact qa rfl
 refine oV ?_;refine nT ?_;refine cC rfl (fun h3 => ?_) (fun h3 => ?_)
 ·
  have f3 := h3;try simp only [bl] at f3
  refine sR ?_;refine oV ?_;refine oN (tC (cT (qb (tR ?_))));refine ret1 rfl rfl ?_;exact fun _ hw => ⟨congrArg (Value.int .i64) (by unfold yo; repeat' split <;> omega),hw⟩
 have f3 := h3;try simp only [bl] at f3
 refine sR ?_;refine oV ?_;refine oP trivial rfl call75 rfl (qec _ _ _) ?_;refine' oY (fun hb37 => ?_) ?_;rotate_left
 ·
  have fb37 := hb37
  try simp only [bl] at fb37
  refine gV hb37 ?_;refine qa0 (wS rfl rfl hb37) rfl underlying21 underlying5 rfl ?_;refine oP (wS rfl rfl hb37) rfl call76 rfl (qog _ _) ?_;refine gV hb37 ?_;refine oN ?_;exact qa rfl
 refine oV ?_;refine nT ?_;refine cC rfl (fun h4 => ?_) (fun h4 => ?_)
 ·
  have f4 := h4;try simp only [bl] at f4
  refine sR ?_;refine oV ?_;refine oN (tC (cT (qb (tR ?_))));refine ret1 rfl rfl ?_;exact fun _ hw => ⟨congrArg (Value.int .i64) (by unfold yo; repeat' split <;> omega),hw⟩
 have f4 := h4;try simp only [bl] at f4
 refine cK (qg (tC (sR ?_)));refine oV ?_;refine nE ?_;refine ret1 rfl rfl ?_;exact fun _ hw => ⟨congrArg (Value.int .i64) (by unfold yo; repeat' split <;> omega),hw⟩
theorem qwr (s : ByteArray) {I : Hp} (hT : Tabs I) : Fun prog 163 [.string s] I [] (fun v _ _ => v = .tuple #[.int .i32 (Lib.decodeGo s).1, .int .i64 (Lib.decodeGo s).2]) :=
 qhb fun w hI => (Tryz.utf8_DecodeRuneInString s w (hT.utf8 hI)).mono fun _ _ ⟨h1,h2⟩ => ⟨_,h1,rfl,h2⟩
theorem qws (s : ByteArray) (i : Int) {I : Hp} (hT : Tabs I) : Fun prog 133 [.string s,.int .i64 i] I [] (fun v _ _ => v = .tuple #[.int .i32 (qbl s i).1,.int .i64 (qbl s i).2]) := by
 intro w hw
 refine qz _ func133 rfl ntmps133 rfl ?_ hw;refine sR ?_;iterate 2 refine oV ?_
 refine nU ?_;iterate 2 refine oV ?_
 refine' oZ (fun hb8 => ?_) ?_;rotate_left
 ·
  have fb8 := hb8
  try simp only [bl] at fb8
  iterate 2 refine gV hb8 ?_
  refine yj (wS rfl rfl hb8) rfl underlying9 rfl ?_;refine gV hb8 ?_;refine oN ?_;exact qa rfl
 refine nT ?_;refine cC rfl (fun h1 => ?_) (fun h1 => ?_)
 ·
  have f1 := h1;try simp only [bl] at f1
  refine sR ?_;iterate 2 refine oV ?_
  refine nF ?_;refine ret2 rfl rfl rfl ?_;refine qe ?_; unfold qbl; rw [if_pos f1]
 have f1 := h1;try simp only [bl] at f1
 refine kS ?_;iterate 2 refine oV ?_
 refine qi1 trivial rfl underlying9 rfl rfl (by omega) ?_;refine oQ call163 rfl (qwr _ hT) ?_;iterate 4 refine oV ?_
 refine nE ?_;refine ret2 rfl rfl rfl ?_
 have hn : ¬ (i < 0 ∨ (s.size : Int) ≤ i) := by omega
 have hn2 : ¬ ((s.extract i.toNat s.size).size = 0) := by simp; omega
 refine qe ?_
 unfold qbl Lib.decodeGo
 rw [if_neg hn,if_neg hn2,qfs s _ _ (by omega)]
 rfl
theorem qoh (s : ByteArray) : yp prog 42 [.string s] (.bool (keyZ s)) := by
 intro w
 refine qn _ func42 rfl ntmps42 rfl ?_ (S := fun w1 => w1 = w) rfl;refine sR ?_;refine oV ?_;refine nS ?_;iterate 2 refine oV ?_
 refine' oZ (fun hb5 => ?_) ?_;rotate_left
 ·
  iterate 2 refine gV hb5 ?_
  refine oN ?_;exact qa rfl
 refine' oZ (fun hb9 => ?_) ?_;rotate_left
 ·
  iterate 2 refine gV hb9 ?_
  refine oN ?_;exact qa rfl
 refine oV ?_;refine nE ?_;refine ret1 rfl rfl ?_;exact fun _ hw => ⟨rfl,hw⟩
theorem qwt (s : ByteArray) : yp prog 79 [.string s] (.bool (keyZ s)) := by
 intro w
 refine qn _ func79 rfl ntmps79 rfl ?_ (S := fun w1 => w1 = w) rfl;refine sR ?_;refine oV ?_;refine nS ?_;iterate 2 refine oV ?_
 refine' oZ (fun hb5 => ?_) ?_;rotate_left
 ·
  iterate 2 refine gV hb5 ?_
  refine oN ?_;exact qa rfl
 refine' oZ (fun hb9 => ?_) ?_;rotate_left
 ·
  iterate 2 refine gV hb9 ?_
  refine oN ?_;exact qa rfl
 refine oV ?_;refine nE ?_;refine ret1 rfl rfl ?_;exact fun _ hw => ⟨rfl,hw⟩
theorem qdf (s : ByteArray) (i a b : Int) (hi : 0 ≤ i) : yp prog 117 [.string s,.int .i64 i,.int .i64 a,.int .i64 b] (.bool (inZ s i a b)) := by
 have hbyte := (s.get! i.toNat).toNat_lt
 intro w
 refine qis _ func117 rfl ntmps117 rfl ?_ (S := fun w1 => w1 = w) rfl;refine sR ?_;refine oV ?_;refine nS ?_;iterate 2 refine oV ?_
 refine yj trivial rfl underlying9 rfl ?_;refine oV ?_;refine' oY (fun hb13 => ?_) ?_;rotate_left
 ·
  have fb13 := hb13
  try simp only [bl] at fb13
  iterate 2 refine gV hb13 ?_
  refine qag (wS rfl rfl hb13) rfl underlying9 rfl rfl (by omega) ?_;refine ya (wS rfl rfl hb13) rfl underlying5 underlying3 rfl (by rw [IntWalk.i64_in _ (by omega)]) ?_;iterate 2 refine gV hb13 ?_
  refine oN ?_;exact qa rfl
 refine' oY (fun hb21 => ?_) ?_;rotate_left
 ·
  have fb21 := hb21
  try simp only [bl] at fb21
  iterate 2 refine gV hb21 ?_
  refine qag (wS rfl rfl hb21) rfl underlying9 rfl rfl (by omega) ?_;refine ya (wS rfl rfl hb21) rfl underlying5 underlying3 rfl (by rw [IntWalk.i64_in _ (by omega)]) ?_;iterate 2 refine gV hb21 ?_
  refine oN ?_;exact qa rfl
 refine oV ?_;refine nE ?_;refine ret1 rfl rfl ?_;exact fun _ hw => ⟨rfl,hw⟩
theorem qed (s : ByteArray) (i : Int) (hi : 0 ≤ i ∧ i < s.size) : yp prog 118 [.string s,.int .i64 i] (.int .i64 ((s.get! i.toNat).toNat % 64)) := by
 have hbyte := (s.get! i.toNat).toNat_lt
 intro w
 refine qz _ func118 rfl ntmps118 rfl ?_ (S := fun w1 => w1 = w) rfl;refine sR ?_;refine oV ?_;refine nS ?_;iterate 2 refine oV ?_
 refine qag trivial rfl underlying9 rfl rfl (by omega) ?_;refine ya trivial rfl underlying5 underlying3 rfl (by rw [IntWalk.i64_in _ (by omega)]) ?_;refine qca trivial rfl rfl rfl (by omega) ?_;refine oV ?_;refine nE ?_;refine ret1 rfl rfl ?_;exact fun _ hw => ⟨rfl,hw⟩
theorem qwu (s : ByteArray) (i : Int) (hi : 0 ≤ i ∧ i < s.size) (hs : s.size ≤ 1000) : yp prog 119 [.string s,.int .i64 i] (.int .i64 (qdd s i)) := by
 have hbyte := (s.get! i.toNat).toNat_lt
 have hbyte1 := (s.get! (i + 1).toNat).toNat_lt
 have hbyte2 := (s.get! (i + 2).toNat).toNat_lt
 intro w
 refine qz _ func119 rfl ntmps119 rfl ?_ (S := fun w1 => w1 = w) rfl;refine sR ?_;refine oV ?_;refine nS ?_;iterate 2 refine oV ?_
 refine qag trivial rfl underlying9 rfl rfl (by omega) ?_;refine ya trivial rfl underlying5 underlying3 rfl (by rw [IntWalk.i64_in _ (by omega)]) ?_;refine oV ?_;refine nS ?_;refine oV ?_;refine nS ?_;refine oV ?_;refine nT ?_;refine zh (ι := Int) [0,1,5,7] (.cons rfl (.cons rfl (.cons rfl (.cons rfl .nil)))) (fun fr E0 => (6,.int .i64 fr) :: E0) (fun fr => fun w1 => w1 = w) (fun fr => fr = if ((s.get! i.toNat).toNat : Int) = 224 then 160 else 128) ?_ ?_
 ·
  refine sR ?_;iterate 2 refine oV ?_
  refine nT ?_;refine cC rfl (fun h1 => ?_) (fun h1 => ?_)
  ·
   have f1 := h1;try simp only [bl] at f1
   refine cR ?_;refine oV ?_;refine oN ?_;exact meet _ (sC rfl (sC rfl (sC rfl (sC rfl (sC rfl sN))))) (fun _ h => h) (by rw [if_pos f1])
  have f1 := h1;try simp only [bl] at f1
  refine cK ?_;exact meet _ (sC rfl (sC rfl (sC rfl (sC rfl (sC rfl sN))))) (fun _ h => h) (by rw [if_neg f1])
 rintro fr hfr
 try dsimp only
 refine zh (ι := Int) [0,1,5,6] (.cons rfl (.cons rfl (.cons rfl (.cons rfl .nil)))) (fun to E0 => (7,.int .i64 to) :: E0) (fun to => fun w1 => w1 = w) (fun to => to = if ((s.get! i.toNat).toNat : Int) = 237 then 159 else 191) ?_ ?_
 ·
  refine sR ?_;iterate 2 refine oV ?_
  refine nT ?_;refine cC rfl (fun h2 => ?_) (fun h2 => ?_)
  ·
   have f2 := h2;try simp only [bl] at f2
   refine cR ?_;refine oV ?_;refine oN ?_;exact meet _ (sC rfl (sC rfl (sC rfl (sC rfl (sC rfl sN))))) (fun _ h => h) (by rw [if_pos f2])
  have f2 := h2;try simp only [bl] at f2
  refine cK ?_;exact meet _ (sC rfl (sC rfl (sC rfl (sC rfl (sC rfl sN))))) (fun _ h => h) (by rw [if_neg f2])
 rintro to hto
 try dsimp only
 refine cS (sR ?_);iterate 2 refine oV ?_
 refine' oZ (fun hb18 => ?_) ?_;rotate_left
 ·
  iterate 2 refine gV hb18 ?_
  refine oN ?_;exact qa rfl
 refine' oZ (fun hb22 => ?_) ?_;rotate_left
 ·
  have fb22 := hb22
  try simp only [bl] at fb22
  iterate 2 refine gV hb22 ?_
  (refine qh (wS rfl rfl hb22) rfl rfl rfl ?_ ?_; (omega))
  iterate 2 refine gV hb22 ?_
  refine oP (wS rfl rfl hb22) rfl call117 rfl (qdf _ _ _ _ (by omega)) ?_;refine gV hb22 ?_;refine oN ?_;exact qa rfl
 refine' oZ (fun hb31 => ?_) ?_;rotate_left
 ·
  have fb31 := hb31
  try simp only [bl] at fb31
  iterate 2 refine gV hb31 ?_
  (refine qh (wS rfl rfl hb31) rfl rfl rfl ?_ ?_; (omega))
  refine oP (wS rfl rfl hb31) rfl call117 rfl (qdf _ _ _ _ (by omega)) ?_;refine gV hb31 ?_;refine oN ?_;exact qa rfl
 refine nT ?_;refine cC rfl (fun h3 => ?_) (fun h3 => ?_)
 ·
  have f3 := h3;try simp only [bl] at f3
  refine sR ?_;refine oV ?_;refine nF ?_;refine ret1 rfl rfl ?_;refine fun _ hw => ⟨congrArg (Value.int .i64) ?_,hw⟩
  unfold qdd
  rw [← hfr,← hto,if_pos (by rcases f3 with ((f | f) | f) | f <;> simp [f])]
 have f3 := h3;try simp only [bl] at f3
 have g1 := qeb f3.1.2; have g2 := qeb f3.2
 refine kS ?_;refine oV ?_
 (refine vp trivial rfl rfl rfl ?_ ?_; (omega))
 (refine jy trivial rfl rfl rfl ?_ ?_; (omega))
 iterate 2 refine oV ?_
 (refine qh trivial rfl rfl rfl ?_ ?_; (omega))
 refine oP trivial rfl call118 rfl (qed _ _ (by omega)) ?_
 (refine jy trivial rfl rfl rfl ?_ ?_; (omega))
 (refine qh trivial rfl rfl rfl ?_ ?_; (omega))
 iterate 2 refine oV ?_
 (refine qh trivial rfl rfl rfl ?_ ?_; (omega))
 refine oP trivial rfl call118 rfl (qed _ _ (by omega)) ?_
 (refine qh trivial rfl rfl rfl ?_ ?_; (omega))
 refine oV ?_;refine nE ?_;refine ret1 rfl rfl ?_;refine fun _ hw => ⟨congrArg (Value.int .i64) ?_,hw⟩
 unfold qdd
 rw [← hfr,← hto,if_neg (by simp [f3])]
theorem qwv (s : ByteArray) (i : Int) (hi : 0 ≤ i ∧ i < s.size) (hs : s.size ≤ 1000) : yp prog 120 [.string s,.int .i64 i] (.int .i64 (qde s i)) := by
 have hbyte := (s.get! i.toNat).toNat_lt
 have hbyte1 := (s.get! (i + 1).toNat).toNat_lt
 have hbyte2 := (s.get! (i + 2).toNat).toNat_lt
 have hbyte3 := (s.get! (i + 3).toNat).toNat_lt
 intro w
 refine qz _ func120 rfl ntmps120 rfl ?_ (S := fun w1 => w1 = w) rfl;refine sR ?_;refine oV ?_;refine nS ?_;iterate 2 refine oV ?_
 refine qag trivial rfl underlying9 rfl rfl (by omega) ?_;refine ya trivial rfl underlying5 underlying3 rfl (by rw [IntWalk.i64_in _ (by omega)]) ?_;refine oV ?_;refine nS ?_;refine oV ?_;refine nS ?_;refine oV ?_;refine nT ?_;refine zh (ι := Int) [0,1,5,7] (.cons rfl (.cons rfl (.cons rfl (.cons rfl .nil)))) (fun fr E0 => (6,.int .i64 fr) :: E0) (fun fr => fun w1 => w1 = w) (fun fr => fr = if ((s.get! i.toNat).toNat : Int) = 240 then 144 else 128) ?_ ?_
 ·
  refine sR ?_;iterate 2 refine oV ?_
  refine nT ?_;refine cC rfl (fun h1 => ?_) (fun h1 => ?_)
  ·
   have f1 := h1;try simp only [bl] at f1
   refine cR ?_;refine oV ?_;refine oN ?_;exact meet _ (sC rfl (sC rfl (sC rfl (sC rfl (sC rfl sN))))) (fun _ h => h) (by rw [if_pos f1])
  have f1 := h1;try simp only [bl] at f1
  refine cK ?_;exact meet _ (sC rfl (sC rfl (sC rfl (sC rfl (sC rfl sN))))) (fun _ h => h) (by rw [if_neg f1])
 rintro fr hfr
 try dsimp only
 refine zh (ι := Int) [0,1,5,6] (.cons rfl (.cons rfl (.cons rfl (.cons rfl .nil)))) (fun to E0 => (7,.int .i64 to) :: E0) (fun to => fun w1 => w1 = w) (fun to => to = if ((s.get! i.toNat).toNat : Int) = 244 then 143 else 191) ?_ ?_
 ·
  refine sR ?_;iterate 2 refine oV ?_
  refine nT ?_;refine cC rfl (fun h2 => ?_) (fun h2 => ?_)
  ·
   have f2 := h2;try simp only [bl] at f2
   refine cR ?_;refine oV ?_;refine oN ?_;exact meet _ (sC rfl (sC rfl (sC rfl (sC rfl (sC rfl sN))))) (fun _ h => h) (by rw [if_pos f2])
  have f2 := h2;try simp only [bl] at f2
  refine cK ?_;exact meet _ (sC rfl (sC rfl (sC rfl (sC rfl (sC rfl sN))))) (fun _ h => h) (by rw [if_neg f2])
 rintro to hto
 try dsimp only
 refine cS (sR ?_);iterate 2 refine oV ?_
 refine' oZ (fun hb18 => ?_) ?_;rotate_left
 ·
  iterate 2 refine gV hb18 ?_
  refine oN ?_;exact qa rfl
 refine' oZ (fun hb22 => ?_) ?_;rotate_left
 ·
  have fb22 := hb22
  try simp only [bl] at fb22
  iterate 2 refine gV hb22 ?_
  (refine qh (wS rfl rfl hb22) rfl rfl rfl ?_ ?_; (omega))
  iterate 2 refine gV hb22 ?_
  refine oP (wS rfl rfl hb22) rfl call117 rfl (qdf _ _ _ _ (by omega)) ?_;refine gV hb22 ?_;refine oN ?_;exact qa rfl
 refine' oZ (fun hb31 => ?_) ?_;rotate_left
 ·
  have fb31 := hb31
  try simp only [bl] at fb31
  iterate 2 refine gV hb31 ?_
  (refine qh (wS rfl rfl hb31) rfl rfl rfl ?_ ?_; (omega))
  refine oP (wS rfl rfl hb31) rfl call117 rfl (qdf _ _ _ _ (by omega)) ?_;refine gV hb31 ?_;refine oN ?_;exact qa rfl
 refine' oZ (fun hb38 => ?_) ?_;rotate_left
 ·
  have fb38 := hb38
  try simp only [bl] at fb38
  iterate 2 refine gV hb38 ?_
  (refine qh (wS rfl rfl hb38) rfl rfl rfl ?_ ?_; (omega))
  refine oP (wS rfl rfl hb38) rfl call117 rfl (qdf _ _ _ _ (by omega)) ?_;refine gV hb38 ?_;refine oN ?_;exact qa rfl
 refine nT ?_;refine cC rfl (fun h3 => ?_) (fun h3 => ?_)
 ·
  have f3 := h3;try simp only [bl] at f3
  refine sR ?_;refine oV ?_;refine nF ?_;refine ret1 rfl rfl ?_;refine fun _ hw => ⟨congrArg (Value.int .i64) ?_,hw⟩
  unfold qde
  rw [← hfr,← hto,if_pos (by rcases f3 with (((f | f) | f) | f) | f <;> simp [f])]
 have f3 := h3;try simp only [bl] at f3
 have g1 := qeb f3.1.1.2; have g2 := qeb f3.1.2; have g3 := qeb f3.2
 refine kS ?_;refine oV ?_
 (refine vp trivial rfl rfl rfl ?_ ?_; (omega))
 (refine jy trivial rfl rfl rfl ?_ ?_; (omega))
 iterate 2 refine oV ?_
 (refine qh trivial rfl rfl rfl ?_ ?_; (omega))
 refine oP trivial rfl call118 rfl (qed _ _ (by omega)) ?_
 (refine jy trivial rfl rfl rfl ?_ ?_; (omega))
 (refine qh trivial rfl rfl rfl ?_ ?_; (omega))
 iterate 2 refine oV ?_
 (refine qh trivial rfl rfl rfl ?_ ?_; (omega))
 refine oP trivial rfl call118 rfl (qed _ _ (by omega)) ?_
 (refine jy trivial rfl rfl rfl ?_ ?_; (omega))
 (refine qh trivial rfl rfl rfl ?_ ?_; (omega))
 iterate 2 refine oV ?_
 (refine qh trivial rfl rfl rfl ?_ ?_; (omega))
 refine oP trivial rfl call118 rfl (qed _ _ (by omega)) ?_
 (refine qh trivial rfl rfl rfl ?_ ?_; (omega))
 refine oV ?_;refine nE ?_;refine ret1 rfl rfl ?_;refine fun _ hw => ⟨congrArg (Value.int .i64) ?_,hw⟩
 unfold qde
 rw [← hfr,← hto,if_neg (by simp [f3])]
theorem eq2 {k k2 : IntKind} {p q : Int} {r : Int × Int} (h : r = (p,q)) : Value.tuple #[.int k p,.int k2 q] = .tuple #[.int k r.1,.int k2 r.2] := by rw [h]
theorem qww (s : ByteArray) (i : Int) (hs : s.size ≤ 1000) : yp prog 80 [.string s,.int .i64 i] (.tuple #[.int .i64 (qbl s i).1,.int .i64 (qbl s i).2]) := by
 rw [← qwj]
 have hbyte := (s.get! i.toNat).toNat_lt
 have hbyte1 := (s.get! (i + 1).toNat).toNat_lt
 intro w
 refine qz _ func80 rfl ntmps80 rfl ?_ (S := fun w1 => w1 = w) rfl;refine sR ?_;iterate 2 refine oV ?_
 refine nU ?_;iterate 2 refine oV ?_
 refine' oZ (fun hb11 => ?_) ?_;rotate_left
 ·
  have fb11 := hb11
  try simp only [bl] at fb11
  iterate 2 refine gV hb11 ?_
  refine yj (wS rfl rfl hb11) rfl underlying9 rfl ?_;refine gV hb11 ?_;refine oN ?_;exact qa rfl
 refine nT ?_;refine cC rfl (fun h1 => ?_) (fun h1 => ?_)
 ·
  have f1 := h1;try simp only [bl] at f1
  refine sR ?_;iterate 2 refine oV ?_
  refine nF ?_;refine ret2 rfl rfl rfl ?_;exact fun _ hw => ⟨eq2 (by unfold qck; rw [if_pos f1]),hw⟩
 have f1 := h1;try simp only [bl] at f1
 refine kS ?_;iterate 2 refine oV ?_
 refine qag trivial rfl underlying9 rfl rfl (by omega) ?_;refine ya trivial rfl underlying5 underlying3 rfl (by rw [IntWalk.i64_in _ (by omega)]) ?_;refine oV ?_;refine nU ?_;iterate 2 refine oV ?_
 refine nT ?_;refine cC rfl (fun h2 => ?_) (fun h2 => ?_)
 ·
  have f2 := h2;try simp only [bl] at f2
  refine sR ?_;iterate 3 refine oV ?_
  refine nF ?_;refine ret2 rfl rfl rfl ?_;exact fun _ hw => ⟨eq2 (by unfold qck; rw [if_neg (by omega),if_pos f2]),hw⟩
 have f2 := h2;try simp only [bl] at f2
 refine cK (tC (cS (sR ?_)));iterate 2 refine oV ?_
 refine oP trivial rfl call117 rfl (qdf _ _ _ _ (by omega)) ?_;refine' oY (fun hb27 => ?_) ?_;rotate_left
 ·
  have fb27 := hb27
  try simp only [bl] at fb27
  iterate 2 refine gV hb27 ?_
  (refine qh (wS rfl rfl hb27) rfl rfl rfl ?_ ?_; (omega))
  refine oP (wS rfl rfl hb27) rfl call117 rfl (qdf _ _ _ _ (by omega)) ?_;refine oN ?_;exact qa rfl
 refine nT ?_;refine cC rfl (fun h3 => ?_) (fun h3 => ?_)
 ·
  have f3 := h3;try simp only [bl] at f3
  have g1 := qeb f3.2
  refine sR ?_;refine oV ?_
  (refine vp trivial rfl rfl rfl ?_ ?_; (omega))
  (refine jy trivial rfl rfl rfl ?_ ?_; (omega))
  iterate 2 refine oV ?_
  (refine qh trivial rfl rfl rfl ?_ ?_; (omega))
  refine oP trivial rfl call118 rfl (qed _ _ (by omega)) ?_
  (refine qh trivial rfl rfl rfl ?_ ?_; (omega))
  iterate 2 refine oV ?_
  refine nF ?_;refine ret2 rfl rfl rfl ?_;exact fun _ hw => ⟨eq2 (by unfold qck; rw [if_neg (by omega),if_neg (by omega),if_pos h3]),hw⟩
 have f3 := h3;try simp only [bl] at f3
 refine kS ?_;iterate 2 refine oV ?_
 refine oP trivial rfl call119 rfl (qwu _ _ (by omega) (by omega)) ?_;refine oV ?_;refine nU ?_;iterate 2 refine oV ?_
 refine nT ?_;refine cC rfl (fun h4 => ?_) (fun h4 => ?_)
 ·
  have f4 := h4;try simp only [bl] at f4
  refine sR ?_;iterate 3 refine oV ?_
  refine nF ?_;refine ret2 rfl rfl rfl ?_;exact fun _ hw => ⟨eq2 (by unfold qck; rw [if_neg (by omega),if_neg (by omega),if_neg (by rw [h3]; exact Bool.false_ne_true),if_pos f4]),hw⟩
 have f4 := h4;try simp only [bl] at f4
 refine kS ?_;iterate 2 refine oV ?_
 refine oP trivial rfl call120 rfl (qwv _ _ (by omega) (by omega)) ?_;refine oV ?_;refine nU ?_;iterate 2 refine oV ?_
 refine nT ?_;refine cC rfl (fun h5 => ?_) (fun h5 => ?_)
 ·
  have f5 := h5;try simp only [bl] at f5
  refine sR ?_;iterate 3 refine oV ?_
  refine nF ?_;refine ret2 rfl rfl rfl ?_;exact fun _ hw => ⟨eq2 (by unfold qck; rw [if_neg (by omega),if_neg (by omega),if_neg (by rw [h3]; exact Bool.false_ne_true),if_neg (by omega),if_pos f5]),hw⟩
 have f5 := h5;try simp only [bl] at f5
 refine kS ?_;iterate 2 refine oV ?_
 refine nE ?_;refine ret2 rfl rfl rfl ?_;exact fun _ hw => ⟨eq2 (by unfold qck; rw [if_neg (by omega),if_neg (by omega),if_neg (by rw [h3]; exact Bool.false_ne_true),if_neg (by omega),if_neg (by omega)]),hw⟩
def plc (p : Int × Int) : Value := .agg #[.int .i64 p.1,.int .i64 p.2]
theorem qoi (s : ByteArray) (at_ : Int) {I : Hp} (hs : s.size ≤ 100000) : Fun prog 60 [.string s,.int .i64 at_] I [] (fun v _ _ => v = plc (qr s at_)) := by
 intro w hw
 refine qz _ func60 rfl ntmps60 rfl ?_ hw;refine sR ?_;refine qq trivial rfl zeroValue48 rfl (fun b4 => ?_);refine nS ?_;refine qw trivial rfl (qda) rfl (.cons rfl rfl rfl (by repeat constructor) (.cons rfl rfl rfl (by repeat constructor) .nil)) ?_;refine qq trivial rfl zeroValue48 rfl (fun b5 => ?_);refine oS sizeOf48 ?_;refine nS ?_;refine oA isAgg48 sizeOf48 ?_;refine qq trivial rfl zeroValue48 rfl (fun b6 => ?_);refine oS sizeOf48 ?_;refine nU ?_;refine oV ?_;refine qfi trivial rfl underlying9 rfl (fun b12 => ?_);refine oN (tC (cB ?_));refine qt (ι := Pl) [0,1,4,5,6,12] (.cons rfl (.cons rfl (.cons rfl (.cons rfl (.cons rfl (.cons rfl .nil)))))) (fun x => s.size - x.i) (fun x E0 => E0) (fun x => St w [] I [.box b12 (.stringIter s x.i),.box b6 (.cells #[.int .i64 x.ll,.int .i64 x.lc] 48 (0,0)),.box b5 (.cells #[.int .i64 x.l,.int .i64 x.c] 48 (0,0)),.box b4 (.cells #[.int .i64 0,.int .i64 0] 48 (0,0))]) (fun x => zy s at_ x) (⟨0,1,1,1,1⟩) (sC rfl (sC rfl (sC rfl (sC rfl (sC rfl (sC rfl sN)))))) (fun _ h => h) ((zy.start s at_)) ?_;rintro ⟨i,l,c,ll,lc⟩ hF
 try dsimp only
 have hle := hF.le; have hbl := hF.bl; have hbc := hF.bc; have hwd := yx s i; simp only at hle hbl hbc
 refine cS ?_
 rcases Nat.lt_or_ge i s.size with hp | hp
 ·
  refine cR ?_;refine qfj trivial rfl rfl (by repeat constructor) hp ?_;refine oV ?_;refine oN (tC (cS ?_));refine zp rfl rfl ?_;refine cK (tC (cB (sR ?_)));iterate 4 refine oV ?_
  refine nU ?_;iterate 3 refine oV ?_
  refine' oY (fun hb20 => ?_) ?_;rotate_left
  ·
   iterate 2 refine gV hb20 ?_
   refine oN ?_;exact qa rfl
  refine nT ?_;refine cC rfl (fun h2 => ?_) (fun h2 => ?_)
  ·
   have f2 := h2;try simp only [bl] at f2
   refine sR ?_;refine oA isAgg48 sizeOf48 ?_;refine oS sizeOf48 ?_;refine oN (tC (cT (tR (qb (tR (qb (tR ?_)))))));refine retR rfl (.agg isAgg48 sizeOf48 rfl (by repeat constructor) rfl .nil) ?_;refine qe ?_; unfold plc; rw [hF.ret (by omega)]; rfl
  have f2 := h2;try simp only [bl] at f2
  refine kS ?_;refine oA isAgg48 sizeOf48 ?_;refine oS sizeOf48 ?_;refine nS ?_;refine oF 1 underlying48 sizeOf3 ?_;refine oL isAgg3 ?_
  (refine qh trivial rfl rfl rfl ?_ ?_; (omega))
  refine oF 1 underlying48 sizeOf3 ?_;refine oS sizeOf3 ?_;refine nS ?_;iterate 2 refine oV ?_
  refine nT ?_;refine cC rfl (fun h3 => ?_) (fun h3 => ?_)
  ·
   have f3 := h3;try simp only [bl] at f3
   refine cR ?_;refine oF 0 underlying48 sizeOf3 ?_;refine oL isAgg3 ?_
   (refine qh trivial rfl rfl rfl ?_ ?_; (omega))
   refine qw trivial rfl (qda) rfl (.cons rfl rfl rfl (by repeat constructor) (.cons rfl rfl rfl (by repeat constructor) .nil)) ?_;refine oS sizeOf48 ?_;refine oN (qg ?_);exact ql ⟨_,_,_,_,_⟩ (sC rfl (sC rfl (sC rfl (sC rfl (sC rfl (sC rfl sN)))))) (fun _ h => h) (by show s.size - (i + (Utf8.decode s i).2) < s.size - i; omega) (hF.step hp (by omega) (by exact .inl ⟨by omega,rfl,rfl⟩))
  have f3 := h3;try simp only [bl] at f3
  refine cK (qg ?_);exact ql ⟨_,_,_,_,_⟩ (sC rfl (sC rfl (sC rfl (sC rfl (sC rfl (sC rfl sN)))))) (fun _ h => h) (by show s.size - (i + (Utf8.decode s i).2) < s.size - i; omega) (hF.step hp (by omega) (by exact .inr ⟨by omega,rfl,rfl⟩))
 refine cR ?_;refine qfk trivial rfl rfl (by repeat constructor) hp ?_;refine oV ?_;refine oN (tC (cS ?_));refine qaf rfl rfl ?_;refine qp (qc (qc (qo rfl (tC (cS (sR ?_))))));iterate 2 refine oV ?_
 refine yj trivial rfl underlying9 rfl ?_;refine oV ?_;refine nT ?_;refine cC rfl (fun h4 => ?_) (fun h4 => ?_)
 ·
  have f4 := h4;try simp only [bl] at f4
  refine sR ?_;refine oA isAgg48 sizeOf48 ?_;refine oS sizeOf48 ?_;refine nF ?_;refine retR rfl (.agg isAgg48 sizeOf48 rfl (by repeat constructor) rfl .nil) ?_;refine qe ?_; unfold plc; rw [hF.end1 hp (by omega)]; rfl
 have f4 := h4;try simp only [bl] at f4
 refine kS ?_;refine oA isAgg48 sizeOf48 ?_;refine oS sizeOf48 ?_;refine nE ?_;refine retR rfl (.agg isAgg48 sizeOf48 rfl (by repeat constructor) rfl .nil) ?_;refine qe ?_; unfold plc; rw [hF.end2 hp (by omega)]; rfl
theorem qoj {s : ByteArray} {i : Nat} (h : i < s.size) : qbl s (i : Int) = (((Utf8.decode s i).1 : Int),((Utf8.decode s i).2 : Int)) := by
 unfold qbl
 rw [if_neg (by omega)]
 rfl
theorem qwx (s : ByteArray) (i : Nat) (hs : s.size ≤ 1000) (hi : i < s.size) : yp prog 80 [.string s,.int .i64 (i : Int)] (.tuple #[.int .i64 ((Utf8.decode s i).1 : Int),.int .i64 ((Utf8.decode s i).2 : Int)]) := by
 have h := qww s i hs
 rw [qoj hi] at h
 exact h
theorem qwy (s : ByteArray) {I : Hp} (hs : s.size ≤ 2000000) : Fun prog 18 [.string s] I [] (fun v _ _ => v = .bool (vt s)) := by
 intro w hw
 refine qn _ func18 rfl ntmps18 rfl ?_ hw;refine sR ?_;refine oV ?_;refine nU ?_;iterate 2 refine oV ?_
 refine' oZ (fun hb8 => ?_) ?_;rotate_left
 ·
  have fb8 := hb8
  try simp only [bl] at fb8
  refine gV hb8 ?_;refine yj (wS rfl rfl hb8) rfl underlying9 rfl ?_;refine gV hb8 ?_;refine oN ?_;exact qa rfl
 refine' oZ (fun hb13 => ?_) ?_;rotate_left
 ·
  have fb13 := hb13
  try simp only [bl] at fb13
  refine gV hb13 ?_;refine oP (wS rfl rfl hb13) rfl call42 rfl (qoh _) ?_;refine oN ?_;exact qa rfl
 refine nT ?_;refine cC rfl (fun h1 => ?_) (fun h1 => ?_)
 ·
  have f1 := h1;try simp only [bl] at f1
  simp only [qcj] at f1
  refine sR ?_;refine oV ?_;refine nF ?_;refine ret1 rfl rfl ?_;refine qe ?_; rw [qjq (by rcases f1 with (f | f) | f; exact .inl (by omega); exact .inr (.inl (by omega)); exact .inr (.inr f))]
 have f1 := h1;try simp only [bl] at f1
 simp only [qcj] at f1
 refine cK (tC (cS (sR ?_)));refine oV ?_;refine qfi trivial rfl underlying9 rfl (fun b18 => ?_);refine oN (tC (cB ?_));refine qt (ι := Nat) [18] (.cons rfl .nil) (fun x => s.size - x) (fun x E0 => E0) (fun x => St w [] I [.box b18 (.stringIter s x)]) (fun x => x ≤ s.size ∧ vt s = jt s (s.size - x) x) (0) (sC rfl sN) (fun _ h => h) (⟨Nat.zero_le _,qjp (by omega) (by omega) f1.2⟩) ?_;rintro i ⟨hle,hF⟩
 try dsimp only
 have hwd := yx s i
 refine cS ?_
 rcases Nat.lt_or_ge i s.size with hp | hp
 ·
  refine cR ?_;refine qfj trivial rfl rfl (by repeat constructor) hp ?_;refine oV ?_;refine oN (tC (cS ?_));refine zp rfl rfl ?_;refine cK (tC (cB (sR ?_)));iterate 4 refine oV ?_
  refine nS ?_;refine oV ?_;refine oP trivial rfl call43 rfl (qhc _) ?_;refine oV ?_;refine nS ?_;iterate 2 refine oV ?_
  refine' oY (fun hb27 => ?_) ?_;rotate_left
  ·
   iterate 2 refine gV hb27 ?_
   refine' o_or (wS rfl rfl hb27) (wS rfl rfl hb27) rfl rfl rfl rfl rfl rfl rfl rfl (fun hb30 => ?_) ?_;rotate_left
   ·
    iterate 2 refine gV hb30 ?_
    refine oN ?_;exact qa rfl
   refine oN ?_;exact qa rfl
  refine nT ?_;refine cC rfl (fun h3 => ?_) (fun h3 => ?_)
  ·
   have f3 := h3;try simp only [bl] at f3
   refine sR ?_;refine oV ?_;refine oN (tC (cT (qb (tR (qb (tR ?_))))));refine ret1 rfl rfl ?_;refine qe ?_; rw [hF,qjm hp (by omega)]
  have f3 := h3;try simp only [bl] at f3
  refine cK (qg ?_)
  have hwi := zx s i hp; exact ql _ (sC rfl sN) (fun _ h => h) (by show s.size - (i + (Utf8.decode s i).2) < s.size - i; omega) ⟨by omega,hF.trans (qjn hp (by omega))⟩
 refine cR ?_;refine qfk trivial rfl rfl (by repeat constructor) hp ?_;refine oV ?_;refine oN (tC (cS ?_));refine qaf rfl rfl ?_;refine qp (qc (qc (qo rfl (tC (sR ?_)))));refine oV ?_;refine nE ?_;refine ret1 rfl rfl ?_;refine qe ?_; rw [hF,qjo (by omega)]
set_option maxRecDepth 100000 in
theorem zd : zi prog 3 1 8 := ⟨_,_,Tryz.type3,rfl,rfl,rfl,rfl⟩
set_option maxRecDepth 100000 in
theorem qwz : zi prog 5 1 1 := ⟨_,_,Tryz.type5,rfl,rfl,rfl,rfl⟩
set_option maxRecDepth 100000 in
theorem qjr : zi prog 9 1 16 := ⟨_,_,Tryz.type9,rfl,rfl,rfl,rfl⟩
set_option maxRecDepth 100000 in
theorem qw0 : zi prog 20 1 16 := ⟨_,_,Tryz.type20,rfl,rfl,rfl,rfl⟩
set_option maxRecDepth 100000 in
theorem qok : zi prog 37 8 104 := ⟨_,_,Tryz.type37,rfl,rfl,rfl,rfl⟩
set_option maxRecDepth 100000 in
theorem qjs : zi prog 39 2 24 := ⟨_,_,Tryz.type39,rfl,rfl,rfl,rfl⟩
set_option maxRecDepth 100000 in
theorem qol : zi prog 69 7 88 := ⟨_,_,Tryz.type69,rfl,rfl,rfl,rfl⟩
set_option maxRecDepth 100000 in
theorem qw1 : zi prog 103 4 40 := ⟨_,_,Tryz.type103,rfl,rfl,rfl,rfl⟩
set_option maxRecDepth 100000 in
theorem qdg : zi prog 134 1 4 := ⟨_,_,Tryz.type134,rfl,rfl,rfl,rfl⟩
set_option maxRecDepth 100000 in
theorem qom : qc3 prog 3 1 8 [.int .i64 0] := ⟨_,_,Tryz.type3,rfl,rfl,rfl,rfl,rfl⟩
set_option maxRecDepth 100000 in
theorem qcl : qc3 prog 134 1 4 [.int .u32 0] := ⟨_,_,Tryz.type134,rfl,rfl,rfl,rfl,rfl⟩
def qal (O : List Nat) : Nat → Nat
 | 0 => 0
 | i + 1 => qal O i + dg O i
theorem qon {O : List Nat} (h : Wds O) : ∀ i, qal O i ≤ 4294967295 * i
 | 0 => by simp [qal]
 | i + 1 => by have := qon h i; have := jg h i; simp only [qal]; omega
theorem qjt (va : Value) (O : List Nat) {I : Hp} (ha : Ws I va O) (hl : O.length ≤ 3) : Fun prog 254 [va] I [] (fun v _ _ => v = .int .u64 (qal O O.length : Nat)) := by
 intro w hw
 refine qn _ func254 rfl ntmps254 rfl ?_ hw;refine sR ?_;refine oV ?_;refine nS ?_;refine oV ?_;refine nU ?_;refine oV ?_;refine ve trivial rfl underlying33 rfl (ha) ?_;refine oV ?_;refine oN (tC (cB ?_));refine qt (ι := Nat) [6,7] (.cons rfl (.cons rfl .nil)) (fun i => O.length - i) (fun i E0 => (3,.int .u64 (qal O i : Nat)) :: (8,.int .i64 (i : Int)) :: E0) (fun i => St w [] I []) (fun i => i ≤ O.length) (0) (sC rfl (sC rfl (sC rfl (sC rfl sN)))) (fun _ h => h) (Nat.zero_le _) ?_;rintro i hle
 try dsimp only
 have hlen := jd O; have hs := qon ha.wds i; have hd := jg ha.wds i
 refine sR ?_;refine oV ?_;refine oN (tC (cS ?_));refine cC rfl (fun h1 => ?_) (fun h1 => ?_)
 ·
  have f1 := h1;try simp only [bl] at f1
  refine cK (tC (cS (cB (sR ?_))));refine yu trivial rfl underlying33 sizeOf134 rfl (ha) rfl (by omega) ?_;refine q7 trivial rfl isAgg134 rfl (ha.cellI (Int.toNat_natCast i) (by omega)) ?_;refine oV ?_;refine nR ?_;iterate 2 refine oV ?_
  refine ya trivial rfl underlying134 underlying136 rfl (by rw [IntWalk.u64_in _ (by omega)]) ?_;refine qc4 trivial rfl rfl rfl (by rw [IntWalk.u64_in _ (by omega)]) ?_;refine oV ?_;refine oN (qg (tC (cR ?_)))
  (refine qh trivial rfl rfl rfl ?_ ?_; (omega))
  refine oV ?_;refine oN ?_;exact ql (i + 1) (sC rfl (sC rfl (sC rfl (sC rfl sN)))) (fun _ h => h) (by show O.length - (i + 1) < O.length - i; omega) (by omega)
 have f1 := h1;try simp only [bl] at f1
 refine qp (qc (qc (qo rfl (tC (sR ?_)))));iterate 2 refine oV ?_
 refine nE ?_;refine ret1 rfl rfl ?_
 have e : i = O.length := by omega
 subst e
 exact qe rfl
theorem qoo (n : Nat) (h : n < 18446744073709551616) : yp prog 255 [.int .u64 (n : Int)] (.tuple #[.int .u32 ((n / 4294967296 : Nat) : Int),.int .u32 ((n % 4294967296 : Nat) : Int)]) := by
 intro w
 refine qn _ func255 rfl ntmps255 rfl ?_ (S := fun w1 => w1 = w) rfl;refine sR ?_;iterate 2 refine oV ?_
 refine nS ?_;refine oV ?_;refine qd2 4294967296 trivial rfl rfl rfl (by decide) rfl (by omega) ?_;refine ya trivial rfl underlying136 underlying134 rfl (by rw [IntWalk.u32_in _ (by omega)]) ?_;refine oV ?_;refine qa0 trivial rfl underlying136 underlying134 rfl ?_;iterate 2 refine oV ?_
 refine nE ?_;refine ret2 rfl rfl rfl ?_;exact fun _ hw => ⟨by rw [IntKind.wrap_u32]; rfl,hw⟩
theorem qw2 (a b c d : Nat) {I : Hp} (ha : a < 4294967296) (hb : b < 4294967296) (hc : c < 4294967296) (hd : d < 4294967296) : Fun prog 251 [.int .u32 (a : Int),.int .u32 (b : Int),.int .u32 (c : Int),.int .u32 (d : Int)] I [] (fun v _ _ => v = .tuple #[.int .u32 (((a * b + c + d) / 4294967296 : Nat) : Int),.int .u32 (((a * b + c + d) % 4294967296 : Nat) : Int)]) := by
 have hm : a * b ≤ 18446744065119617025 := Nat.mul_le_mul (show a ≤ 4294967295 by omega) (show b ≤ 4294967295 by omega)
 intro w hw
 refine qis _ func251 rfl ntmps251 rfl ?_ hw;refine sR ?_;iterate 2 refine oV ?_
 refine nS ?_;refine oV ?_;refine ya trivial rfl underlying134 underlying136 rfl (by rw [IntWalk.u64_in _ (by omega)]) ?_;refine oV ?_;refine ya trivial rfl underlying134 underlying136 rfl (by rw [IntWalk.u64_in _ (by omega)]) ?_
 (refine qnv trivial rfl rfl rfl (by rw [IntWalk.u64_in _ (by rw [← Int.natCast_mul]; omega)]) ?_)
 iterate 2 refine oV ?_
 refine oB underlying33 sizeOf134 zeroValue134 fun b17 => ?_;refine qby [c,d] Take.here (zc hc (zc hd zj)) (by unfold maxLen; simp) (fun I1 hx1 hs1 => ?_);refine oQ call254 rfl (qjt _ _ hs1 (by simp)) ?_
 have hsum : qal [c,d] [c,d].length = c + d := by simp [qal,dg]
 rw [hsum]
 (refine qc4 trivial rfl rfl rfl (by rw [IntWalk.u64_in _ (by rw [← Int.natCast_mul]; omega)]) ?_)
 rw [show (a : Int) * (b : Int) + ((c + d : Nat) : Int) = ((a * b + c + d : Nat) : Int) by rw [← Int.natCast_mul]; omega]
 refine oP trivial rfl call255 rfl (qoo (a * b + c + d) (by omega)) ?_;iterate 4 refine oV ?_
 refine nE ?_;refine ret2 rfl rfl rfl ?_;refine leaf hx1 (List.nil_sublist _) ?_; rfl
theorem qw3 (a b c : Nat) {I : Hp} (ha : a < 4294967296) (hb : b < 4294967296) (hc : c < 4294967296) : Fun prog 249 [.int .u32 (a : Int),.int .u32 (b : Int),.int .u32 (c : Int)] I [] (fun v _ _ => ∃ s k : Nat,v = .tuple #[.int .u32 (s : Int),.int .u32 (k : Int)] ∧ s < 4294967296 ∧ k < 4294967296 ∧ s + b + c = a + 4294967296 * k) := by
 intro w hw
 refine j5 _ func249 rfl ntmps249 rfl ?_ hw;refine sR ?_;iterate 2 refine oV ?_
 refine nS ?_;iterate 2 refine oV ?_
 refine oB underlying33 sizeOf134 zeroValue134 fun b13 => ?_;refine qby [b,c] Take.here (zc hb (zc hc zj)) (by unfold maxLen; simp) (fun I1 hx1 hs1 => ?_);refine oQ call254 rfl (qjt _ _ hs1 (by simp)) ?_;refine oV ?_;refine oN (tC (cS ?_))
 have hsum : qal [b,c] [b,c].length = b + c := by simp [qal,dg]
 rw [hsum]
 refine cR ?_;refine oV ?_;refine ya trivial rfl underlying134 underlying136 rfl (by rw [IntWalk.u64_in _ (by omega)]) ?_;refine oV ?_;refine oV ?_;refine qa0 trivial rfl underlying136 underlying134 rfl ?_;refine oV ?_;refine oN (tC (cS ?_))
 obtain ⟨s,hs⟩ : ∃ s : Nat,IntKind.u32.wrap (IntKind.u64.wrap ((a : Int) - ((b + c : Nat) : Int))) = s := ⟨_,(Int.toNat_of_nonneg (by rw [IntKind.wrap_u32]; omega)).symm⟩
 rw [hs]
 rw [IntKind.wrap_u32,IntKind.wrap_u64] at hs
 have hsl : s < 4294967296 := by omega
 refine cR ?_;refine oV ?_;refine oB underlying33 sizeOf134 zeroValue134 fun b22 => ?_;refine qby [s] Take.here (zc hsl zj) (by unfold maxLen; simp) (fun I2 hx2 hs2 => ?_);refine oQ call254 rfl (qjt _ _ hs2 (by simp)) ?_;refine oV ?_
 rw [show ((qal [s] [s].length : Nat) : Int) = (s : Int) by simp [qal,dg]]
 refine qc4 trivial rfl rfl rfl (by rw [IntWalk.u64_in _ (by omega)]) ?_
 rw [show (s : Int) + ((b + c : Nat) : Int) = ((s + b + c : Nat) : Int) by omega]
 refine oP trivial rfl call255 rfl (qoo (s + b + c) (by omega)) ?_;iterate 5 refine oV ?_
 refine nS ?_;iterate 4 refine oV ?_
 refine nE ?_;refine ret2 rfl rfl rfl ?_;refine leaf (hx1.trans hx2 (Nat.le_refl _)) (List.nil_sublist _) ⟨s,(s + b + c) / 4294967296,rfl,hsl,by omega,?_⟩; omega
theorem qw4 (p q d : Nat) : ((p : Int) * 4294967296 + (q : Int)) / (d : Int) = (((p * 4294967296 + q) / d : Nat) : Int) := by rw [Int.natCast_ediv,Int.natCast_add,Int.natCast_mul]; rfl
theorem qw5 (p q d : Nat) : ((p : Int) * 4294967296 + (q : Int)) % (d : Int) = (((p * 4294967296 + q) % d : Nat) : Int) := by rw [Int.natCast_emod,Int.natCast_add,Int.natCast_mul]; rfl
theorem qop (p q d : Nat) {I : Hp} (h : p < d) (hd : d < 4294967296) (hq : q < 4294967296) : Fun prog 186 [.int .u32 (p : Int),.int .u32 (q : Int),.int .u32 (d : Int)] I [] (fun v _ _ => v = .tuple #[.int .u32 (((p * 4294967296 + q) / d : Nat) : Int),.int .u32 (((p * 4294967296 + q) % d : Nat) : Int),.bool true]) := by
 have hlt := qje h hq
 have hm : (p * 4294967296 + q) % d < d := Nat.mod_lt _ (by omega)
 have e1 := qw4 p q d
 have e2 := qw5 p q d
 generalize (p * 4294967296 + q) / d = s at *
 generalize (p * 4294967296 + q) % d = r at *
 intro w hw
 refine j5 _ func186 rfl ntmps186 rfl ?_ hw;refine sR ?_;iterate 3 refine oV ?_
 refine nU ?_;iterate 3 refine oV ?_
 refine nT ?_;refine cC rfl (fun h1 => ?_) (fun h1 => ?_)
 ·
  have f1 := h1;try simp only [bl] at f1
  exfalso; omega
 have f1 := h1;try simp only [bl] at f1
 refine kS ?_;refine oV ?_;refine ya trivial rfl underlying134 underlying136 rfl (by rw [IntWalk.u64_in _ (by omega)]) ?_;refine qnw 4294967296 trivial rfl rfl rfl (by decide) rfl (by rw [IntWalk.u64_in _ (by omega)]) ?_;refine oV ?_;refine ya trivial rfl underlying134 underlying136 rfl (by rw [IntWalk.u64_in _ (by omega)]) ?_;refine qvc trivial rfl rfl rfl (by omega) (by omega) ?_;refine oV ?_;refine oN (tC (cS ?_));refine jf (by kernel_rfl) (by kernel_rfl) (fun _ h => h.drawn) ?_;iterate 2 refine oV ?_
 refine ya trivial rfl underlying134 underlying136 rfl (by rw [IntWalk.u64_in _ (by omega)]) ?_;refine qc2 trivial rfl rfl rfl (by omega) (by rw [e1,IntWalk.u64_in _ (by omega)]) ?_;refine ya trivial rfl underlying136 underlying134 rfl (by rw [e1,IntWalk.u32_in _ (by omega)]) ?_;iterate 2 refine oV ?_
 refine ya trivial rfl underlying134 underlying136 rfl (by rw [IntWalk.u64_in _ (by omega)]) ?_;refine qca trivial rfl rfl rfl (by omega) ?_;refine ya trivial rfl underlying136 underlying134 rfl (by rw [e2,IntWalk.u32_in _ (by omega)]) ?_;iterate 3 refine oV ?_
 refine nE ?_;refine ret3 rfl rfl rfl rfl ?_;refine qe ?_; rw [e1,e2]
theorem qw6 (p q d : Nat) {I : Hp} (h : d ≤ p) : Fun prog 186 [.int .u32 (p : Int),.int .u32 (q : Int),.int .u32 (d : Int)] I [] (fun v _ _ => v = .tuple #[.int .u32 0,.int .u32 0,.bool false]) := by
 intro w hw
 refine j5 _ func186 rfl ntmps186 rfl ?_ hw;refine sR ?_;iterate 3 refine oV ?_
 refine nU ?_;iterate 3 refine oV ?_
 refine nT ?_;refine cC rfl (fun h1 => ?_) (fun h1 => ?_)
 ·
  have f1 := h1;try simp only [bl] at f1
  refine sR ?_;iterate 3 refine oV ?_
  refine nF ?_;refine ret3 rfl rfl rfl rfl ?_;exact qe rfl
 have f1 := h1;try simp only [bl] at f1
 exfalso; omega
def divQ (p q d : Nat) : Nat := if p < d then (p * 4294967296 + q) / d else 0
def divR (p q d : Nat) : Nat := if p < d then (p * 4294967296 + q) % d else 0
theorem qw7 (p q d : Nat) {I : Hp} (hd : d < 4294967296) (hq : q < 4294967296) : Fun prog 186 [.int .u32 (p : Int),.int .u32 (q : Int),.int .u32 (d : Int)] I [] (fun v _ _ => v = .tuple #[.int .u32 (divQ p q d : Nat),.int .u32 (divR p q d : Nat),.bool (decide (p < d))]) := by
 unfold divQ divR
 rcases Nat.lt_or_ge p d with h | h
 · rw [if_pos h,if_pos h,decide_eq_true h]; exact qop p q d h hd hq
 · rw [if_neg (by omega),if_neg (by omega),decide_eq_false (by omega)]; exact qw6 p q d h
theorem qdh (va : Value) (O : List Nat) {I : Hp} (ha : Ws I va O) (hs : O.length ≤ 1000000000) : Fun prog 153 [va] I [] (fun v _ _ => v = .int .i64 (lowL O : Nat)) := by
 have hlen := jd O
 intro w hw
 refine qn _ func153 rfl ntmps153 rfl ?_ hw;refine sR ?_;refine oV ?_;refine nS ?_;refine oV ?_;refine ve trivial rfl underlying33 rfl (ha) ?_;refine oV ?_;refine oN (tC (cS (cB ?_)));refine qt (ι := Nat) [0] (.cons rfl .nil) (fun i => i) (fun i E0 => (3,.int .i64 (i : Int)) :: E0) (fun i => St w [] I []) (fun i => i ≤ O.length ∧ low O i = lowL O) (O.length) (sC rfl (sC rfl sN)) (fun _ h => h) (⟨Nat.le_refl _,rfl⟩) ?_;rintro i ⟨hle,hlow⟩
 try dsimp only
 refine cS (sR ?_);iterate 2 refine oV ?_
 refine' oY (fun hb8 => ?_) ?_;rotate_left
 ·
  have fb8 := hb8
  try simp only [bl] at fb8
  iterate 2 refine gV hb8 ?_
  (refine vp (wS rfl rfl hb8) rfl rfl rfl ?_ ?_; (omega))
  refine yu (wS rfl rfl hb8) rfl underlying33 sizeOf134 rfl (ha) rfl (by omega) ?_;refine q7 (wS rfl rfl hb8) rfl isAgg134 rfl (ha.cellI (k := i - 1) (by omega) (by omega)) ?_;refine gV hb8 ?_;refine oN ?_;exact qa rfl
 refine nT ?_;refine cC rfl (fun h1 => ?_) (fun h1 => ?_)
 ·
  have f1 := h1;try simp only [bl] at f1
  have hi : low O i = low O (i - 1) := by
    obtain ⟨j,rfl⟩ : ∃ j,i = j + 1 := ⟨i - 1,by omega⟩
    rw [low,if_pos (by have := f1.2; rw [Nat.add_sub_cancel] at this; omega),Nat.add_sub_cancel]
  rw [show (i : Int) = ((i - 1 : Nat) : Int) + 1 by omega]
  refine cK (tC (cB (cR ?_)));refine oV ?_;refine vp trivial rfl rfl rfl (by omega) ?_
  rw [show ((i - 1 : Nat) : Int) + 1 - 1 = ((i - 1 : Nat) : Int) by omega]
  refine oV ?_;refine oN (qg ?_);exact ql (i - 1) (sC rfl (sC rfl sN)) (fun _ h => h) (by show i - 1 < i; omega) ⟨by omega,by rw [← hi]; exact hlow⟩
 have f1 := h1;try simp only [bl] at f1
 have hi : lowL O = i := by
   rcases Nat.eq_zero_or_pos i with h0 | h0
   · subst h0; rw [← hlow]; rfl
   · obtain ⟨j, rfl⟩ : ∃ j, i = j + 1 := ⟨i - 1, by omega⟩
     rw [← hlow, low, if_neg (by rcases f1 with f1 | f1
                                 · omega
                                 · rw [Nat.add_sub_cancel] at f1; omega)]
 refine qp (qc (qc (qo rfl (tC (sR ?_)))));iterate 2 refine oV ?_
 refine nE ?_;refine ret1 rfl rfl ?_;refine qe ?_; rw [hi]
theorem qw8 {n k : Nat} (h : 2 ^ k ≤ n) : bitZ n = k + bitZ (n / 2 ^ k) := by
 have hp : 0 < 2 ^ k := Nat.pow_pos (by decide)
 have h0 : 0 < n / 2 ^ k := Nat.div_pos h hp
 have h1 := qjf (n / 2 ^ k)
 have h2 := qg7 (n := n / 2 ^ k) (by omega)
 have h3 : 0 < bitZ (n / 2 ^ k) := Nat.pos_of_ne_zero fun e => by have := qc7.1 e; omega
 obtain ⟨j,hj⟩ : ∃ j,bitZ (n / 2 ^ k) = j + 1 := ⟨bitZ (n / 2 ^ k) - 1,by omega⟩
 rw [hj] at h1 h2 ⊢
 rw [Nat.add_sub_cancel] at h2
 rw [show k + (j + 1) = (k + j) + 1 by omega]
 refine qn2 ?_ ?_
 · rw [Nat.pow_add, Nat.mul_comm]
   have := Nat.mul_le_mul_right (2 ^ k) h2
   have h4 := Nat.div_mul_le_self n (2 ^ k)
   omega
 · rw [show k + j + 1 = (j + 1) + k by omega, Nat.pow_add]
   exact (Nat.div_lt_iff_lt_mul hp).1 h1
theorem qhd {n k m : Nat} (hm : 2 ^ k = m) (h : m ≤ n) : bitZ n = k + bitZ (n / m) := by subst hm; exact qw8 h
theorem qhe {tab : ByteArray} (h : ∀ k,k < 256 → (tab.get! k).toNat = bitZ k) {x : Int} (k : Nat) (hx : x.toNat = k) (hk : k < 256) : (((tab.get! x.toNat).toNat : Nat) : Int) = (bitZ k : Nat) := by subst hx; rw [h _ hk]
theorem qw9 (n : Nat) {I : Hp} (h : n < 4294967296) : Fun prog 207 [.int .u32 (n : Int)] I [] (fun v _ _ => v = .int .i64 (bitZ n : Nat)) := by
 intro w hw
 refine qn _ func207 rfl ntmps207 rfl ?_ hw;refine sR ?_;refine oV ?_;refine nU ?_;iterate 2 refine oV ?_
 refine nT ?_;refine cC rfl (fun h1 => ?_) (fun h1 => ?_)
 ·
  have f1 := h1;try simp only [bl] at f1
  refine sR ?_;refine oV ?_;refine qd2 65536 trivial rfl rfl rfl (by decide) rfl (by omega) ?_;refine oV ?_;refine nR ?_;refine oV ?_;refine nU ?_;iterate 2 refine oV ?_
  refine nT ?_;refine cC rfl (fun h2 => ?_) (fun h2 => ?_)
  ·
   have f2 := h2;try simp only [bl] at f2
   refine sR ?_;refine oV ?_;refine qd2 256 trivial rfl rfl rfl (by decide) rfl (by omega) ?_;refine oV ?_;refine nR ?_;refine oV ?_
   (refine qh trivial rfl rfl rfl ?_ ?_; (omega))
   refine oV ?_;refine nS ?_;iterate 2 refine oV ?_
   refine ya trivial rfl underlying134 underlying5 rfl (by rw [IntWalk.u8_in _ (by omega)]) ?_;refine qag trivial rfl underlying9 rfl rfl (by exact ⟨by omega,Int.lt_of_lt_of_le (b := 256) (by omega) (by decide +kernel)⟩) ?_;refine qa0 trivial rfl underlying5 underlying3 rfl ?_;refine oV ?_;refine oV ?_;refine nE ?_;refine ret1 rfl rfl ?_;refine qe (congrArg (Value.int .i64) ?_); rw [qhe (by decide +kernel) (n / 65536 / 256) (by omega) (by omega),qhd (n := n) (k := 16) (m := 65536) rfl (by omega),qhd (n := n / 65536) (k := 8) (m := 256) rfl (by omega)]; have hb : bitZ (n / 65536 / 256) ≤ 8 := qd6 (by omega); rw [IntKind.wrap_i64,IntKind.wrap_i64]; omega
  have f2 := h2;try simp only [bl] at f2
  refine kS ?_;iterate 2 refine oV ?_
  refine ya trivial rfl underlying134 underlying5 rfl (by rw [IntWalk.u8_in _ (by omega)]) ?_;refine qag trivial rfl underlying9 rfl rfl (by exact ⟨by omega,Int.lt_of_lt_of_le (b := 256) (by omega) (by decide +kernel)⟩) ?_;refine qa0 trivial rfl underlying5 underlying3 rfl ?_;refine oV ?_;refine oV ?_;refine nE ?_;refine ret1 rfl rfl ?_;refine qe (congrArg (Value.int .i64) ?_); rw [qhe (by decide +kernel) (n / 65536) (by omega) (by omega),qhd (n := n) (k := 16) (m := 65536) rfl (by omega)]; have hb : bitZ (n / 65536) ≤ 8 := qd6 (by omega); rw [IntKind.wrap_i64,IntKind.wrap_i64]; omega
 have f1 := h1;try simp only [bl] at f1
 refine cK (tC (cS (sR ?_)));iterate 2 refine oV ?_
 refine nT ?_;refine cC rfl (fun h2 => ?_) (fun h2 => ?_)
 ·
  have f2 := h2;try simp only [bl] at f2
  refine sR ?_;refine oV ?_;refine qd2 256 trivial rfl rfl rfl (by decide) rfl (by omega) ?_;refine oV ?_;refine nR ?_;refine oV ?_
  (refine qh trivial rfl rfl rfl ?_ ?_; (omega))
  refine oV ?_;refine nS ?_;iterate 2 refine oV ?_
  refine ya trivial rfl underlying134 underlying5 rfl (by rw [IntWalk.u8_in _ (by omega)]) ?_;refine qag trivial rfl underlying9 rfl rfl (by exact ⟨by omega,Int.lt_of_lt_of_le (b := 256) (by omega) (by decide +kernel)⟩) ?_;refine qa0 trivial rfl underlying5 underlying3 rfl ?_;refine oV ?_;refine oV ?_;refine nE ?_;refine ret1 rfl rfl ?_;refine qe (congrArg (Value.int .i64) ?_); rw [qhe (by decide +kernel) (n / 256) (by omega) (by omega),qhd (n := n) (k := 8) (m := 256) rfl (by omega)]; have hb : bitZ (n / 256) ≤ 8 := qd6 (by omega); rw [IntKind.wrap_i64,IntKind.wrap_i64]; omega
 have f2 := h2;try simp only [bl] at f2
 refine kS ?_;iterate 2 refine oV ?_
 refine ya trivial rfl underlying134 underlying5 rfl (by rw [IntWalk.u8_in _ (by omega)]) ?_;refine qag trivial rfl underlying9 rfl rfl (by exact ⟨by omega,Int.lt_of_lt_of_le (b := 256) (by omega) (by decide +kernel)⟩) ?_;refine qa0 trivial rfl underlying5 underlying3 rfl ?_;refine oV ?_;refine oV ?_;refine nE ?_;refine ret1 rfl rfl ?_;refine qe (congrArg (Value.int .i64) ?_); rw [qhe (by decide +kernel) n (by omega) (by omega)]; have hb : bitZ (n) ≤ 8 := qd6 (by omega); rw [IntKind.wrap_i64,IntKind.wrap_i64]; omega
theorem qoq (n : Nat) {I : Hp} (h : n < 4294967296) : Fun prog 185 [.int .u32 (n : Int)] I [] (fun v _ _ => v = .int .i64 (bitZ n : Nat)) := by
 intro w hw
 refine qn _ func185 rfl ntmps185 rfl ?_ hw;refine sR ?_;refine oV ?_;refine nS ?_;refine oV ?_;refine oQ call207 rfl (qw9 n h) ?_;refine oV ?_;refine nE ?_;refine ret1 rfl rfl ?_;exact qe rfl
theorem qxa {w : World} {I0 I : Hp} {B B' : List Tw.Item} {b : Nat} (O : List Nat) {T : TypeId} {fz : Nat × Nat} {R : Value → Hp → List Tw.Item → Prop} {v : Value} (he : Ext w.heap.size I0 I) (hw : Wds O) (hm : O.length ≤ maxLen) (ht : Take (.box b (.cells (wl O).toArray T fz)) B B')
   (h : ∀ I',Ws I' (.slice (some ⟨b,0,none⟩) O.length O.length) O → R v I' []) : ∀ w',St w [] I B w' → Post w [] I0 R v w' := fun w' hw' => by
 obtain ⟨I',h1,h2,h3⟩ := hw'.sealBox ht
 exact ⟨I',[],h1.drop (List.nil_sublist _),he.trans h2 (Nat.le_refl _),h I' (Ws.of_box h3 hw hm (Nat.le_refl _))⟩
def cmpZ (x y : Int) : Int := if x < y then -1 else if x > y then 1 else 0
theorem qor (x : Int) : yp prog 183 [.int .i64 x] (.bool false) := by
 intro w
 refine qn _ func183 rfl ntmps183 rfl ?_ (S := fun w1 => w1 = w) rfl;refine sR ?_;refine oV ?_;refine nS ?_;iterate 4 refine oV ?_
 refine nE ?_;refine ret1 rfl rfl ?_;exact fun _ hw => ⟨by simp,hw⟩
theorem qos (x : Int) : yp prog 184 [.int .u32 x] (.bool false) := by
 intro w
 refine qn _ func184 rfl ntmps184 rfl ?_ (S := fun w1 => w1 = w) rfl;refine sR ?_;refine oV ?_;refine nS ?_;iterate 4 refine oV ?_
 refine nE ?_;refine ret1 rfl rfl ?_;exact fun _ hw => ⟨by simp,hw⟩
theorem qxb (x y : Int) : yp prog 154 [.int .i64 x,.int .i64 y] (.int .i64 (cmpZ x y)) := by
 intro w
 refine qz _ func154 rfl ntmps154 rfl ?_ (S := fun w1 => w1 = w) rfl;refine sR ?_;refine oV ?_;refine nS ?_;refine oV ?_;refine oP trivial rfl call183 rfl (qor _) ?_;refine oV ?_;refine nS ?_;refine oV ?_;refine oP trivial rfl call183 rfl (qor _) ?_;refine oV ?_;refine nU ?_;refine oV ?_;refine nT ?_;refine cC rfl (fun h1 => ?_) (fun h1 => ?_)
 ·
  have f1 := h1;try simp only [bl] at f1
  exfalso; cases h1
 have f1 := h1;try simp only [bl] at f1
 refine cK (tC (cS (sR ?_)));refine oV ?_;refine nT ?_;refine cC rfl (fun h3 => ?_) (fun h3 => ?_)
 ·
  have f3 := h3;try simp only [bl] at f3
  exfalso; cases h3
 have f3 := h3;try simp only [bl] at f3
 refine cK (tC (cS (sR ?_)));iterate 3 refine oV ?_
 refine nT ?_;refine cC rfl (fun h4 => ?_) (fun h4 => ?_)
 ·
  have f4 := h4;try simp only [bl] at f4
  refine sR ?_;refine oV ?_;refine nF ?_;refine ret1 rfl rfl ?_;exact fun _ hw => ⟨by unfold cmpZ; rw [if_pos f4],hw⟩
 have f4 := h4;try simp only [bl] at f4
 refine cK (tC (cS (sR ?_)));iterate 3 refine oV ?_
 refine nT ?_;refine cC rfl (fun h5 => ?_) (fun h5 => ?_)
 ·
  have f5 := h5;try simp only [bl] at f5
  refine sR ?_;refine oV ?_;refine nF ?_;refine ret1 rfl rfl ?_;exact fun _ hw => ⟨by unfold cmpZ; rw [if_neg (by omega),if_pos f5],hw⟩
 have f5 := h5;try simp only [bl] at f5
 refine kS ?_;refine oV ?_;refine nE ?_;refine ret1 rfl rfl ?_;exact fun _ hw => ⟨by unfold cmpZ; rw [if_neg (by omega),if_neg (by omega)],hw⟩
theorem qxc (x y : Int) : yp prog 155 [.int .u32 x,.int .u32 y] (.int .i64 (cmpZ x y)) := by
 intro w
 refine qz _ func155 rfl ntmps155 rfl ?_ (S := fun w1 => w1 = w) rfl;refine sR ?_;refine oV ?_;refine nS ?_;refine oV ?_;refine oP trivial rfl call184 rfl (qos _) ?_;refine oV ?_;refine nS ?_;refine oV ?_;refine oP trivial rfl call184 rfl (qos _) ?_;refine oV ?_;refine nU ?_;refine oV ?_;refine nT ?_;refine cC rfl (fun h1 => ?_) (fun h1 => ?_)
 ·
  have f1 := h1;try simp only [bl] at f1
  exfalso; cases h1
 have f1 := h1;try simp only [bl] at f1
 refine cK (tC (cS (sR ?_)));refine oV ?_;refine nT ?_;refine cC rfl (fun h3 => ?_) (fun h3 => ?_)
 ·
  have f3 := h3;try simp only [bl] at f3
  exfalso; cases h3
 have f3 := h3;try simp only [bl] at f3
 refine cK (tC (cS (sR ?_)));iterate 3 refine oV ?_
 refine nT ?_;refine cC rfl (fun h4 => ?_) (fun h4 => ?_)
 ·
  have f4 := h4;try simp only [bl] at f4
  refine sR ?_;refine oV ?_;refine nF ?_;refine ret1 rfl rfl ?_;exact fun _ hw => ⟨by unfold cmpZ; rw [if_pos f4],hw⟩
 have f4 := h4;try simp only [bl] at f4
 refine cK (tC (cS (sR ?_)));iterate 3 refine oV ?_
 refine nT ?_;refine cC rfl (fun h5 => ?_) (fun h5 => ?_)
 ·
  have f5 := h5;try simp only [bl] at f5
  refine sR ?_;refine oV ?_;refine nF ?_;refine ret1 rfl rfl ?_;exact fun _ hw => ⟨by unfold cmpZ; rw [if_neg (by omega),if_pos f5],hw⟩
 have f5 := h5;try simp only [bl] at f5
 refine kS ?_;refine oV ?_;refine nE ?_;refine ret1 rfl rfl ?_;exact fun _ hw => ⟨by unfold cmpZ; rw [if_neg (by omega),if_neg (by omega)],hw⟩
theorem qft {x y : Int} (h : cmpZ x y = 0) : x = y := by unfold cmpZ at h; split at h <;> (try split at h) <;> omega
theorem qot (va : Value) (O : List Nat) {I : Hp} (ha : Ws I va O) (hs : O.length ≤ 1000000000) : Fun prog 203 [va] I [] (fun v _ _ => v = .bool (decide (lowL O = O.length))) := by
 intro w hw
 refine qn _ func203 rfl ntmps203 rfl ?_ hw;refine sR ?_;refine oV ?_;refine nS ?_;refine oV ?_;refine oQ call153 rfl (qdh _ _ ha (by omega)) ?_;refine oV ?_;refine ve trivial rfl underlying33 rfl (ha) ?_;iterate 2 refine oV ?_
 refine nE ?_;refine ret1 rfl rfl ?_;refine qe (congrArg Value.bool ?_); rw [Bool.eq_iff_iff,beq_iff_eq,decide_eq_true_eq]; omega
theorem qa2 (va : Value) (O : List Nat) {I : Hp} (ha : Ws I va O) (hs : O.length ≤ 1000000000) : Fun prog 156 [va] I [] (fun v I' _ => Ws I' v (natW (val O))) := by
 have hle : lowL O ≤ O.length := qaj O O.length
 intro w hw
 refine qn _ func156 rfl ntmps156 rfl ?_ hw;refine sR ?_;refine oV ?_;refine nS ?_;refine oV ?_;refine oQ call153 rfl (qdh _ _ ha (by omega)) ?_;refine oV ?_;refine nU ?_;iterate 2 refine oV ?_
 refine nT ?_;refine cC rfl (fun h1 => ?_) (fun h1 => ?_)
 ·
  have f1 := h1;try simp only [bl] at f1
  refine sR ?_;refine oV ?_;refine nF ?_;refine ret1 rfl rfl ?_
  have e : natW (val O) = [] := by rw [← qc6 ha.wds,show lowL O = 0 by omega]; rfl
  refine qe ?_; rw [e]; exact Ws.nil I
 have f1 := h1;try simp only [bl] at f1
 refine kS ?_;refine oV ?_;refine qce trivial rfl underlying33 qcl rfl rfl (by omega) (by omega) (by (unfold maxLen; omega)) (fun b10 => ?_);refine oV ?_;refine nS ?_
 rw [Int.toNat_natCast,qc9]
 iterate 2 refine oV ?_
 refine qv0 trivial rfl underlying33 qcl rfl rfl (ha) (by repeat constructor) (by rw [List.length_replicate]) (by omega) ?_;refine nS ?_;iterate 2 refine oV ?_
 refine nE ?_;refine ret1 rfl rfl ?_;refine qxa (natW (val O)) (Ext.refl _ _) (qak _) (by rw [← qc6 ha.wds,List.length_take]; unfold maxLen; omega) (by rw [← qc6 ha.wds]; exact Take.here) (fun I' h => ?_)
 have e : lowL O = (natW (val O)).length := qd5 ha.wds
 show Ws I' (.slice (some ⟨b10,0,none⟩) (lowL O) (lowL O)) _
 rw [e]; exact h
theorem qxd (n : Nat) (h : n < 18446744073709551616) : val [n % 4294967296,n / 4294967296] = n := by
 rw [zw,zw,qd4]; omega
theorem qhf (n : Nat) {I : Hp} (h : n < 18446744073709551616) : Fun prog 129 [.int .u64 (n : Int)] I [] (fun v I' _ => Ws I' v (natW n)) := by
 intro w hw
 refine qn _ func129 rfl ntmps129 rfl ?_ hw;refine sR ?_;refine oV ?_;refine nS ?_;refine oV ?_;refine qa0 trivial rfl underlying136 underlying134 rfl ?_;refine oV ?_;refine qd2 4294967296 trivial rfl rfl rfl (by decide) rfl (by omega) ?_;refine ya trivial rfl underlying136 underlying134 rfl (by rw [IntWalk.u32_in _ (by omega)]) ?_;refine oB underlying33 sizeOf134 zeroValue134 fun b8 => ?_;refine qby [n % 4294967296,n / 4294967296] (by rw [IntKind.wrap_u32]; exact Take.here) (zc (by omega) (zc (by omega) zj)) (by unfold maxLen; simp) (fun I1 hx1 hs1 => ?_);refine oI call156 rfl (qa2 _ _ hs1 (by simp)) ?_;rintro _ I2 hx2 hs2;refine oV ?_;refine nE ?_;refine ret1 rfl rfl ?_;refine leaf (hx1.trans hx2 (Nat.le_refl _)) (List.nil_sublist _) ?_; rw [qxd n h] at hs2; exact hs2
theorem qxe (va : Value) (O : List Nat) (i : Nat) {I : Hp} (ha : Ws I va O) : Fun prog 250 [va,.int .i64 (i : Int)] I [] (fun v _ _ => v = .int .u32 (dg O i : Nat)) := by
 intro w hw
 refine qz _ func250 rfl ntmps250 rfl ?_ hw;refine sR ?_;refine oV ?_;refine nU ?_;iterate 2 refine oV ?_
 refine ve trivial rfl underlying33 rfl (ha) ?_;refine oV ?_;refine nT ?_;refine cC rfl (fun h1 => ?_) (fun h1 => ?_)
 ·
  have f1 := h1;try simp only [bl] at f1
  refine sR ?_;iterate 2 refine oV ?_
  refine yu trivial rfl underlying33 sizeOf134 rfl (ha) rfl (by omega) ?_;refine q7 trivial rfl isAgg134 rfl (ha.cellI (Int.toNat_natCast i) (by omega)) ?_;refine oV ?_;refine nF ?_;refine ret1 rfl rfl ?_;exact qe rfl
 have f1 := h1;try simp only [bl] at f1
 refine kS ?_;refine oV ?_;refine nE ?_;refine ret1 rfl rfl ?_;refine qe ?_; rw [qbg (by omega)]; rfl
theorem qfu (va : Value) (O : List Nat) {I : Hp} (ha : Ws I va O) (hs : O.length ≤ 1000000000) : Fun prog 157 [va] I [] (fun v _ _ => v = .int .i64 (bitZ (val O) : Nat)) := by
 have hle : lowL O ≤ O.length := qaj O O.length
 have hd := jg ha.wds (lowL O - 1)
 have hb : bitZ (dg O (lowL O - 1)) ≤ 32 := qd6 (by omega)
 intro w hw
 refine qn _ func157 rfl ntmps157 rfl ?_ hw;refine sR ?_;refine oV ?_;refine nS ?_;refine oV ?_;refine oQ call153 rfl (qdh _ _ ha (by omega)) ?_;refine oV ?_;refine nU ?_;iterate 2 refine oV ?_
 refine nT ?_;refine cC rfl (fun h1 => ?_) (fun h1 => ?_)
 ·
  have f1 := h1;try simp only [bl] at f1
  refine sR ?_;refine oV ?_;refine nF ?_;refine ret1 rfl rfl ?_;refine qe ?_; rw [(qja ha.wds).1 (by omega)]; rfl
 have f1 := h1;try simp only [bl] at f1
 refine kS ?_;refine oV ?_
 (refine vp trivial rfl rfl rfl ?_ ?_; (omega))
 (refine jy trivial rfl rfl rfl ?_ ?_; (omega))
 iterate 2 refine oV ?_
 (refine vp trivial rfl rfl rfl ?_ ?_; (omega))
 refine yu trivial rfl underlying33 sizeOf134 rfl (ha) rfl (by omega) ?_;refine q7 trivial rfl isAgg134 rfl (ha.cellI (k := lowL O - 1) (by omega) (by omega)) ?_;refine oQ call185 rfl (qoq _ hd) ?_
 (refine qh trivial rfl rfl rfl ?_ ?_; (omega))
 refine oV ?_;refine nE ?_;refine ret1 rfl rfl ?_;refine qe (congrArg (Value.int .i64) ?_); have e := qvt ha.wds (by omega); omega
theorem qju {A B : List Nat} (ha : Wds A) (hb : Wds B) (h : lowL A < lowL B) : val A < val B := by
 have h1 : val A < 4294967296 ^ lowL A := by rw [← qbx (l := A) (n := A.length) |>.trans (show pre A A.length = val A from rfl)]; exact qbh ha _
 have ht := qg4 (l := B) (n := B.length) (by show 0 < lowL B; omega)
 obtain ⟨n,hn⟩ : ∃ n,lowL B = n + 1 := ⟨lowL B - 1,by omega⟩
 have h2 : val B = pre B (n + 1) := by rw [← hn]; exact (qbx (l := B) (n := B.length)).symm
 change dg B (lowL B - 1) ≠ 0 at ht
 rw [hn,Nat.add_sub_cancel] at ht
 rw [pre] at h2
 have h3 : 4294967296 ^ lowL A ≤ 4294967296 ^ n := Nat.pow_le_pow_right (by decide) (by omega)
 have h4 : 1 * 4294967296 ^ n ≤ dg B n * 4294967296 ^ n := Nat.mul_le_mul_right _ (by omega)
 rw [Nat.one_mul] at h4
 omega
theorem qcm {x y : Int} (h : x < y) : cmpZ x y = -1 := if_pos h
theorem qee {x y : Int} (h : y < x) : cmpZ x y = 1 := by unfold cmpZ; rw [if_neg (by omega),if_pos h]
theorem qcn (x : Int) : cmpZ x x = 0 := by unfold cmpZ; rw [if_neg (by omega),if_neg (by omega)]
theorem qxf {A B : List Nat} (ha : Wds A) (hb : Wds B) (h : cmpZ (lowL A : Nat) (lowL B : Nat) ≠ 0) : cmpZ (lowL A : Nat) (lowL B : Nat) = cmpZ (val A : Nat) (val B : Nat) := by
 rcases Nat.lt_trichotomy (lowL A) (lowL B) with h1 | h1 | h1
 · have := qju ha hb h1
   rw [qcm (by omega),qcm (by omega)]
 · rw [h1] at h; exact absurd (qcn _) h
 · have := qju hb ha h1
   rw [qee (by omega),qee (by omega)]
theorem qxg {A B : List Nat} (ha : Wds A) (hb : Wds B) {m : Nat} (h : val A + pre B (m + 1) = val B + pre A (m + 1)) (hne : cmpZ (dg A m : Nat) (dg B m : Nat) ≠ 0) : cmpZ (dg A m : Nat) (dg B m : Nat) = cmpZ (val A : Nat) (val B : Nat) := by
 have h1 := qbh ha m
 have h2 := qbh hb m
 rw [pre,pre] at h
 rcases Nat.lt_trichotomy (dg A m) (dg B m) with h3 | h3 | h3
 · have : (dg A m + 1) * 4294967296 ^ m ≤ dg B m * 4294967296 ^ m := Nat.mul_le_mul_right _ h3
   rw [Nat.add_mul,Nat.one_mul] at this
   rw [qcm (by omega),qcm (by omega)]
 · rw [h3] at hne; exact absurd (qcn _) hne
 · have : (dg B m + 1) * 4294967296 ^ m ≤ dg A m * 4294967296 ^ m := Nat.mul_le_mul_right _ h3
   rw [Nat.add_mul,Nat.one_mul] at this
   rw [qee (by omega),qee (by omega)]
theorem qou (va vb : Value) (A B : List Nat) {I : Hp} (ha : Ws I va A) (hb : Ws I vb B) (hs : A.length ≤ 1000000000) (hs2 : B.length ≤ 1000000000) : Fun prog 128 [va,vb] I [] (fun v _ _ => v = .int .i64 (cmpZ (val A : Nat) (val B : Nat))) := by
 have hle : lowL A ≤ A.length := qaj A A.length
 have hle2 : lowL B ≤ B.length := qaj B B.length
 intro w hw
 refine qz _ func128 rfl ntmps128 rfl ?_ hw;refine sR ?_;refine oV ?_;refine nS ?_;refine oV ?_;refine oQ call153 rfl (qdh _ _ ha (by omega)) ?_;refine oV ?_;refine nU ?_;iterate 2 refine oV ?_
 refine oQ call153 rfl (qdh _ _ hb (by omega)) ?_;refine oP trivial rfl call154 rfl (qxb _ _) ?_;refine oV ?_;refine nS ?_;iterate 2 refine oV ?_
 refine nT ?_;refine cC rfl (fun h1 => ?_) (fun h1 => ?_)
 ·
  have f1 := h1;try simp only [bl] at f1
  refine sR ?_;iterate 2 refine oV ?_
  refine nF ?_;refine ret1 rfl rfl ?_;refine qe ?_; rw [qxf ha.wds hb.wds f1]
 have f1 := h1;try simp only [bl] at f1
 have hll : lowL A = lowL B := by have := qft f1; omega
 refine cK (tC (cS (sR ?_)));iterate 2 refine oV ?_
 refine oN (tC (cB ?_))
 refine qt (ι := Nat) [0, 1, 5, 18] (.cons rfl (.cons rfl (.cons rfl (.cons rfl .nil)))) (fun i => lowL A - i) (fun i E0 => (19, .int .i64 (i : Int)) :: E0) (fun i => St w [] I []) (fun i => i ≤ lowL A ∧ val A + pre B (lowL A - i) = val B + pre A (lowL A - i)) (0) (sC rfl (sC rfl (sC rfl (sC rfl (sC rfl sN))))) (fun _ h => h) (⟨Nat.zero_le _, by
   show val A + pre B (lowL A) = val B + pre A (lowL A)
   have e1 : pre A (lowL A) = val A := qbx (l := A) (n := A.length)
   have e2 : pre B (lowL B) = val B := qbx (l := B) (n := B.length)
   rw [e1,hll,e2,Nat.add_comm]⟩) ?_
 rintro i ⟨hi,hF⟩
 try dsimp only
 refine sR ?_;refine oV ?_;refine oN (tC (cS ?_));refine cC rfl (fun h2 => ?_) (fun h2 => ?_)
 ·
  have f2 := h2;try simp only [bl] at f2
  obtain ⟨m,hm⟩ : ∃ m,lowL A - i = m + 1 := ⟨lowL A - i - 1,by omega⟩
  rw [hm] at hF
  refine cK (tC (cS (cB (sR ?_))));iterate 2 refine oV ?_
  refine oN (tC (cS ?_));refine jf (by kernel_rfl) (by kernel_rfl) (fun _ h => h.drawn) ?_;iterate 2 refine oV ?_
  (refine vp trivial rfl rfl rfl ?_ ?_; (omega))
  refine oV ?_
  (refine vp trivial rfl rfl rfl ?_ ?_; (omega))
  refine yu trivial rfl underlying33 sizeOf134 rfl (ha) rfl (by omega) ?_;refine q7 trivial rfl isAgg134 rfl (ha.cellI (k := m) (by omega) (by omega)) ?_;iterate 2 refine oV ?_
  (refine vp trivial rfl rfl rfl ?_ ?_; (omega))
  refine oV ?_
  (refine vp trivial rfl rfl rfl ?_ ?_; (omega))
  refine yu trivial rfl underlying33 sizeOf134 rfl (hb) rfl (by omega) ?_;refine q7 trivial rfl isAgg134 rfl (hb.cellI (k := m) (by omega) (by omega)) ?_;refine oP trivial rfl call155 rfl (qxc _ _) ?_;refine oV ?_;refine nS ?_;iterate 2 refine oV ?_
  refine nT ?_;refine cC rfl (fun h3 => ?_) (fun h3 => ?_)
  ·
   have f3 := h3;try simp only [bl] at f3
   refine sR ?_;iterate 2 refine oV ?_
   refine oN (tC (cT (qb (tR (tR (qb (tR ?_)))))));refine ret1 rfl rfl ?_;refine qe ?_; rw [qxg ha.wds hb.wds hF f3]
  have f3 := h3;try simp only [bl] at f3
  refine cK (qg (tC (cR ?_)))
  (refine qh trivial rfl rfl rfl ?_ ?_; (omega))
  refine oV ?_;refine oN ?_
  exact ql (i + 1) (sC rfl (sC rfl (sC rfl (sC rfl (sC rfl sN))))) (fun _ h => h) (by show lowL A - (i + 1) < lowL A - i; omega) ⟨by omega, by
    have e := qft f3
    rw [pre,pre,show dg A m = dg B m by omega] at hF
    rw [show lowL A - (i + 1) = m by omega]
    omega⟩
 have f2 := h2;try simp only [bl] at f2
 refine qp (qc (qc (qo rfl (tC (sR ?_)))));refine oV ?_;refine nE ?_;refine ret1 rfl rfl ?_;refine qe ?_; rw [show lowL A - i = 0 by omega,pre,pre] at hF; rw [show val A = val B by omega,qcn]
theorem qxh (va vb : Value) (A B : List Nat) {I : Hp} (ha : Ws I va A) (hb : Ws I vb B) (hs : A.length ≤ 100000000) (hs2 : B.length ≤ 100000000) : Fun prog 243 [va,vb] I [] (fun v I' _ => ∃ u,v = .tuple #[u,.bool (decide (val B ≤ val A))] ∧ (val B ≤ val A → Ws I' u (natW (val A - val B)))) := by
 have hle : lowL A ≤ A.length := qaj A A.length
 intro w hw
 refine qz _ func243 rfl ntmps243 rfl ?_ hw;refine sR ?_;iterate 2 refine oV ?_
 refine nU ?_;iterate 2 refine oV ?_
 refine oQ call128 rfl (qou _ _ _ _ ha hb (by omega) (by omega)) ?_;refine oV ?_;refine nT ?_;refine cC rfl (fun h1 => ?_) (fun h1 => ?_)
 ·
  have f1 := h1;try simp only [bl] at f1
  have hlt : val A < val B := by
    rcases Nat.lt_trichotomy (val A) (val B) with h9 | h9 | h9
    · exact h9
    · rw [h9,qcn] at f1; omega
    · rw [qee (by omega)] at f1; omega
  refine sR ?_;iterate 2 refine oV ?_
  refine nF ?_;refine ret2 rfl rfl rfl ?_;refine qe ⟨.slice none 0 0,?_,fun h => absurd h (by omega)⟩; rw [decide_eq_false (by omega)]
 have f1 := h1;try simp only [bl] at f1
 have hge : val B ≤ val A := by
   rcases Nat.lt_or_ge (val A) (val B) with h9 | h9
   · rw [qcm (by omega)] at f1; omega
   · exact h9
 refine kS ?_;refine oV ?_;refine oQ call153 rfl (qdh _ _ ha (by omega)) ?_;refine oV ?_;refine nS ?_;refine oV ?_;refine qce trivial rfl underlying33 qcl rfl rfl (by omega) (by omega) (by (unfold maxLen; omega)) (fun b17 => ?_);refine oV ?_;refine oN (tC (cS ?_))
 rw [Int.toNat_natCast,qc9]
 refine cR ?_;refine oV ?_;refine nU ?_;iterate 2 refine oV ?_
 refine oN (tC (cB ?_));refine qt (ι := Nat × List Nat × Nat) [0,1,7,18] (.cons rfl (.cons rfl (.cons rfl (.cons rfl .nil)))) (fun x => lowL A - x.1) (fun x E0 => (8,.int .u32 (x.2.2 : Int)) :: (19,.int .i64 (x.1 : Int)) :: E0) (fun x => St w [] I [.box b17 (.cells (wl x.2.1).toArray 134 (0,0))]) (fun x => x.1 ≤ lowL A ∧ Wds x.2.1 ∧ x.2.1.length = lowL A ∧ x.2.2 < 4294967296 ∧ pre x.2.1 x.1 + pre B x.1 = pre A x.1 + 4294967296 ^ x.1 * x.2.2) ((0,List.replicate (lowL A) 0,0)) (sC rfl (sC rfl (sC rfl (sC rfl (sC rfl (sC rfl sN)))))) (fun _ h => h) (⟨Nat.zero_le _,qd7 _,List.length_replicate,(show 0 < 4294967296 by decide),by simp only [pre,Nat.mul_zero]⟩) ?_;rintro ⟨i,O,c⟩ ⟨hi,hO,hl,hc,hF⟩
 try dsimp only
 simp only at hi hO hl hc hF; have hdA := jg ha.wds i; have hdB := jg hb.wds i
 refine sR ?_;refine oV ?_;refine oN (tC (cS ?_));refine cC rfl (fun h2 => ?_) (fun h2 => ?_)
 ·
  have f2 := h2;try simp only [bl] at f2
  refine cK (tC (cS (cB (sR ?_))));iterate 2 refine oV ?_
  refine nT ?_;refine zu (m := 17) [] (by repeat constructor) (by kernel_rfl) rfl ?_;refine qT (i := 0) (qB 17 1) (Hp.Le.refl _) rfl rfl (oV qF) ?_;refine qT (i := 1) (qB 17 3) (Hp.Le.refl _) rfl rfl (oV qF) ?_;refine qT (i := 2) (qB 17 7) (Hp.Le.refl _) rfl rfl (oV qF) ?_;refine qT (i := 3) (qB 17 15) (Hp.Le.refl _) rfl rfl (oV qF) ?_;refine qT (i := 4) (qB 17 31) (Hp.Le.refl _) rfl rfl (yu trivial rfl underlying33 sizeOf134 rfl (ha) rfl (by omega) qF) ?_;refine qT (i := 5) (qB 17 63) (Hp.Le.refl _) rfl rfl (q7 trivial rfl isAgg134 rfl (ha.cellI (k := i) (by omega) (by omega)) qF) ?_;refine qT (i := 6) (qB 17 127) (Hp.Le.refl _) rfl rfl (oV qF) ?_;refine qT (i := 7) (qB 17 255) (Hp.Le.refl _) rfl rfl (oV qF) ?_;refine qT (i := 9) (qB 17 767) (Hp.Le.refl _) rfl rfl (oV qF) ?_;refine qO (i := 8) (qB 17 1023) rfl ?_;refine oQ call250 rfl (qxe _ _ i hb) ?_;refine qM (Hp.Le.refl _) ?_;refine qO (i := 10) (qB 17 2047) rfl ?_;refine qc1 trivial rfl call249 rfl (qw3 _ _ _ hdA hdB hc) ?_;rintro _ ⟨s,k,rfl,hs1,hk1,hsk⟩;refine qM (Hp.Le.refl _) ?_;refine qT (i := 11) (qB 17 4095) (Hp.Le.refl _) rfl rfl (oV qF) ?_;refine qT (i := 12) (qB 17 8191) (Hp.Le.refl _) rfl rfl (oV qF) ?_;refine qT (i := 13) (qB 17 16383) (Hp.Le.refl _) rfl rfl (oV qF) ?_;refine qT (i := 14) (qB 17 32767) (Hp.Le.refl _) rfl rfl (y8 trivial rfl underlying33 sizeOf134 rfl rfl (by omega) qF) ?_;refine qO (i := 15) (qB 17 65535) rfl ?_;refine yn trivial rfl rfl rfl sizeOf134 rfl (by repeat constructor) (by rw [qcg]; omega) ?_
  refine qM (Hp.Le.refl _) ?_;refine qT (i := 16) (qB 17 131071) (Hp.Le.refl _) rfl rfl (oV qF) ?_;refine jc (by kernel_rfl) ?_;refine qg (tC (cR ?_))
  (refine qh trivial rfl rfl rfl ?_ ?_; (omega))
  refine oV ?_;refine oN ?_;exact ql (i + 1,O.set i s,k) (sC rfl (sC rfl (sC rfl (sC rfl (sC rfl (sC rfl sN)))))) (fun _ h => h.wl1 i s (by omega)) (by show lowL A - (i + 1) < lowL A - i; omega) ⟨by show i + 1 ≤ lowL A; omega,hO.set hs1,by simp only [List.length_set]; exact hl,hk1,qvg (by omega) hF (by omega)⟩
 have f2 := h2;try simp only [bl] at f2
 refine qp (qc (qc (qo rfl (tC (cS ?_)))))
 have hiN : i = lowL A := by omega
 subst hiN
 have hv : val O = val A - val B := by
   have e1 : pre O (lowL A) = val O := qai (by omega)
   have e2 : pre A (lowL A) = val A := qbx (l := A) (n := A.length)
   have e3 : pre B (lowL A) ≤ val B := qvd _
   have e4 : val B ≤ pre B (lowL A) := by
     have e5 : lowL B ≤ lowL A := by
       rcases Nat.lt_or_ge (lowL A) (lowL B) with h9 | h9
       · have := qju ha.wds hb.wds h9; omega
       · exact h9
     have e6 : pre B (lowL B) = val B := qbx (l := B) (n := B.length)
     have e7 := qi9 (l := B) e5
     omega
   have e8 := qbh hO (lowL A)
   rw [e1] at hF e8
   rw [e2] at hF
   have e9 : c = 0 := by
     rcases Nat.eq_zero_or_pos c with h9 | h9
     · exact h9
     · have : 4294967296 ^ lowL A * 1 ≤ 4294967296 ^ lowL A * c := Nat.mul_le_mul_left _ h9
       rw [Nat.mul_one] at this
       generalize 4294967296 ^ lowL A * c = z1 at *
       generalize 4294967296 ^ lowL A = z2 at *
       omega
   rw [e9,Nat.mul_zero] at hF
   omega
 refine qfq O Take.here hO (by unfold maxLen; omega) (fun I1 hx1 hs1 => ?_)
 rw [hl] at hs1
 refine cR ?_;refine oV ?_;refine oI call156 rfl (qa2 _ _ hs1 (by omega)) ?_;rintro _ I2 hx2 hs2;iterate 2 refine oV ?_
 refine nE ?_;refine ret2 rfl rfl rfl ?_;refine leaf (hx1.trans hx2 (Nat.le_refl _)) (List.nil_sublist _) ?_; rw [decide_eq_true hge,← hv]; exact ⟨_,rfl,fun _ => hs2⟩
theorem qxi {x w o c : Nat} (hx : x < 4294967296) (hw : w < 4294967296) (ho : o < 4294967296) (hc : c < 4294967296) : (x * w + o + c) / 4294967296 < 4294967296 := by
 have h : x * w ≤ 18446744065119617025 := Nat.mul_le_mul (show x ≤ 4294967295 by omega) (show w ≤ 4294967295 by omega)
 omega
structure Line (O0 O A : List Nat) (off w c : Nat) : Prop where
 wds : Wds O
 len : O.length = O0.length
 low : ∀ j,j < off → dg O j = dg O0 j
 high : ∀ j,off + A.length < j → dg O j = dg O0 j
 sum : pre O (off + A.length + 1) = pre O0 (off + A.length) + (val A * w + c) * 4294967296 ^ off
theorem qov (b : Nat) (O0 : List Nat) (off k cap : Nat) (va : Value) (A : List Nat) (m c : Nat) {I : Hp} (ha : Ws I va A) (h0 : Wds O0) (hk : k = A.length + 1) (hoff : off + A.length < O0.length) (hs : O0.length ≤ 1000000000) (hm : m < 4294967296) (hc : c < 4294967296) :
   Fun prog 245 [.slice (some ⟨b,off,none⟩) k cap,va,(.int .u32 (m : Int)),.int .u32 (c : Int)] I [.box b (.cells (wl O0).toArray 134 (0,0))] (fun v I' B => v = .tuple #[] ∧ I = I' ∧ ∃ O,B = [.box b (.cells (wl O).toArray 134 (0,0))] ∧ Line O0 O A off m c) := by
 intro w hw
 refine qis _ func245 rfl ntmps245 rfl ?_ hw;refine cS (sR ?_);refine oV ?_;refine ve trivial rfl underlying33 rfl (ha) ?_;refine oV ?_;refine oN (tC (cB ?_));refine qt (ι := Nat × List Nat × Nat) [0,1,2,10,11] (.cons rfl (.cons rfl (.cons rfl (.cons rfl (.cons rfl .nil))))) (fun x => A.length - x.1) (fun x E0 => (3,.int .u32 (x.2.2 : Int)) :: (12,.int .i64 (x.1 : Int)) :: E0) (fun x => St w _ I [.box b (.cells (wl x.2.1).toArray 134 (0,0))]) (fun x => x.1 ≤ A.length ∧ Wds x.2.1 ∧ x.2.1.length = O0.length ∧ x.2.2 < 4294967296 ∧ (∀ j,j < off → dg x.2.1 j = dg O0 j) ∧ (∀ j,off + x.1 ≤ j → dg x.2.1 j = dg O0 j) ∧ pre x.2.1 (off + x.1) + 4294967296 ^ (off + x.1) * x.2.2 = pre O0 (off + x.1) + (pre A x.1 * m + c) * 4294967296 ^ off) ((0,O0,c)) (sC rfl (sC rfl (sC rfl (sC rfl (sC rfl (sC rfl (sC rfl sN))))))) (fun _ h => h) (⟨Nat.zero_le _,h0,rfl,hc,fun _ _ => rfl,fun _ _ => rfl,by simp only [pre]; rw [Nat.add_zero,Nat.zero_mul,Nat.zero_add,Nat.mul_comm]⟩) ?_;rintro ⟨i,O,q⟩ ⟨hi,hO,hl,hq,hlow,hhigh,hF⟩
 try dsimp only
 simp only at hi hO hl hq hlow hhigh hF; have hdA := jg ha.wds i; have hdO := jg hO (off + i)
 refine sR ?_;refine oV ?_;refine oN (tC (cS ?_));refine cC rfl (fun h1 => ?_) (fun h1 => ?_)
 ·
  have f1 := h1;try simp only [bl] at f1
  refine cK (tC (cS (cB (sR ?_))));refine oV ?_;refine yu trivial rfl underlying33 sizeOf134 rfl (ha) rfl (by omega) ?_;refine q7 trivial rfl isAgg134 rfl (ha.cellI (k := i) (by omega) (by omega)) ?_;iterate 2 refine oV ?_
  refine nR ?_;iterate 6 refine oV ?_
  refine y8 trivial rfl underlying33 sizeOf134 rfl rfl (by omega) ?_;refine qcd trivial rfl isAgg134 rfl (by repeat constructor) ((by rw [show (off + (i : Int).toNat * 1) = off + i by omega]; exact qn5 (by omega))) ?_;refine oV ?_;refine oQ call251 rfl (qw2 _ _ _ _ hdA hm hdO hq) ?_;iterate 4 refine oV ?_
  refine y8 trivial rfl underlying33 sizeOf134 rfl rfl (by omega) ?_;refine yn trivial rfl rfl rfl sizeOf134 rfl (by repeat constructor) (by rw [qcg]; omega) ?_;refine oN (qg (tC (cR ?_)))
  (refine qh trivial rfl rfl rfl ?_ ?_; (omega))
  refine oV ?_;refine oN ?_
  exact ql (i + 1, O.set (off + i) ((dg A i * m + dg O (off + i) + q) % 4294967296), (dg A i * m + dg O (off + i) + q) / 4294967296) (sC rfl (sC rfl (sC rfl (sC rfl (sC rfl (sC rfl (sC rfl sN))))))) (fun _ h => h.wl1 (off + i) _ (by omega)) (by show A.length - (i + 1) < A.length - i; omega) ⟨by show i + 1 ≤ A.length; omega, hO.set (Nat.mod_lt _ (by decide)), by simp only [List.length_set]; exact hl, qxi hdA hm hdO hq, fun j hj => by rw [qc5 (by omega), if_neg (by omega)]; exact hlow j hj, fun j hj => by
    have hj' : off + (i + 1) ≤ j := hj
    rw [qc5 (by omega),if_neg (by omega)]; exact hhigh j (by omega),qvh (by omega) (hhigh _ (Nat.le_refl _)) hF (Nat.mod_add_div _ _)⟩
 have f1 := h1;try simp only [bl] at f1
 refine qp (qc (qc (qo rfl (tC ?_))))
 have hiN : i = A.length := by omega
 subst hiN
 refine cR ?_;iterate 2 refine oV ?_
 refine ve trivial rfl underlying33 rfl (ha) ?_;refine oV ?_;refine y8 trivial rfl underlying33 sizeOf134 rfl rfl (by omega) ?_;refine yn trivial rfl rfl rfl sizeOf134 rfl (by repeat constructor) (by rw [qcg]; omega) ?_;refine oN ?_;refine ret0 rfl ?_;exact fun w' hw' => ⟨I,[.box b (.cells (wl (O.set (off + A.length) q)).toArray 134 (0,0))],hw'.wl1 (off + A.length) q (by omega),Ext.refl _ _,rfl,rfl,_,rfl,hO.set hq,by rw [List.length_set]; exact hl,fun j hj => by rw [qc5 (by omega),if_neg (by omega)]; exact hlow j hj,fun j hj => by rw [qc5 (by omega),if_neg (by omega)]; exact hhigh j (by omega),qvi (by omega) hF⟩
theorem qjv (va : Value) (A : List Nat) (m c : Nat) {I : Hp} (ha : Ws I va A) (hs : A.length ≤ 100000000) (hm : m < 4294967296) (hc : c < 4294967296) : Fun prog 235 [va,.int .u32 (m : Int),.int .u32 (c : Int)] I [] (fun v I' _ => Ws I' v (natW (val A * m + c))) := by
 intro w hw
 refine j5 _ func235 rfl ntmps235 rfl ?_ hw;refine sR ?_;refine oV ?_;refine nS ?_;refine oV ?_;refine ve trivial rfl underlying33 rfl (ha) ?_
 (refine qh trivial rfl rfl rfl ?_ ?_; (omega))
 refine qce trivial rfl underlying33 qcl rfl rfl (by omega) (by omega) (by (unfold maxLen; omega)) (fun b11 => ?_);refine oV ?_;refine oN (tC (cS ?_))
 rw [show ((A.length : Int) + 1).toNat = A.length + 1 by omega,qc9]
 refine cR ?_;iterate 4 refine oV ?_
 refine oC trivial rfl call245 rfl (qov b11 (List.replicate (A.length + 1) 0) 0 (A.length + 1) (A.length + 1) va A m c ha (qd7 _) rfl (by rw [List.length_replicate]; omega) (by rw [List.length_replicate]; omega) hm hc) (by repeat constructor) ?_;rintro _ _ _ hx1 ⟨rfl,rfl,O,rfl,hL⟩;refine oN (tC (cS ?_))
 have hl : O.length = A.length + 1 := by rw [hL.len,List.length_replicate]
 have hv : val O = val A * m + c := by
   have e := hL.sum
   rw [qn7,Nat.zero_add,Nat.pow_zero,Nat.mul_one,Nat.zero_add] at e
   rw [← e]; exact (qai (by omega)).symm
 refine qfq O Take.here hL.wds (by unfold maxLen; omega) (fun I1 hx1 hs1 => ?_)
 rw [hl] at hs1
 refine cR ?_;refine oV ?_;refine oI call156 rfl (qa2 _ _ hs1 (by omega)) ?_;rintro _ I2 hx2 hs2;refine oV ?_;refine nE ?_;refine ret1 rfl rfl ?_;refine leaf (hx1.trans hx2 (Nat.le_refl _)) (List.nil_sublist _) ?_; rw [hv] at hs2; exact hs2
theorem qxj (va vb : Value) (A B : List Nat) {I : Hp} (ha : Ws I va A) (hb : Ws I vb B) (hs : A.length ≤ 100000000) (hs2 : B.length ≤ 100000000) : Fun prog 244 [va,vb] I [] (fun v I' _ => Ws I' v (natW (val A * val B))) := by
 intro w hw
 refine qz _ func244 rfl ntmps244 rfl ?_ hw;refine sR ?_;refine oV ?_;refine nS ?_;refine oV ?_;refine ve trivial rfl underlying33 rfl (ha) ?_;refine oV ?_;refine ve trivial rfl underlying33 rfl (hb) ?_
 (refine qh trivial rfl rfl rfl ?_ ?_; (omega))
 (refine qh trivial rfl rfl rfl ?_ ?_; (omega))
 refine qce trivial rfl underlying33 qcl rfl rfl (by omega) (by omega) (by (unfold maxLen; omega)) (fun b15 => ?_);refine oV ?_;refine oN (tC (cS (cS ?_)))
 rw [show ((A.length : Int) + (B.length : Int) + 1).toNat = A.length + B.length + 1 by omega,qc9]
 refine cR ?_;refine oV ?_;refine ve trivial rfl underlying33 rfl (hb) ?_;refine oV ?_;refine oN (tC (cB ?_));refine qt (ι := Nat × List Nat) [0,5,16,17] (.cons rfl (.cons rfl (.cons rfl (.cons rfl .nil)))) (fun x => B.length - x.1) (fun x E0 => (18,.int .i64 (x.1 : Int)) :: E0) (fun x => St w [] I [.box b15 (.cells (wl x.2).toArray 134 (0,0))]) (fun x => x.1 ≤ B.length ∧ Wds x.2 ∧ x.2.length = A.length + B.length + 1 ∧ pre x.2 (A.length + x.1) = val A * pre B x.1 ∧ ∀ j,A.length + x.1 ≤ j → dg x.2 j = 0) ((0,List.replicate (A.length + B.length + 1) 0)) (sC rfl (sC rfl (sC rfl (sC rfl (sC rfl sN))))) (fun _ h => h) (⟨Nat.zero_le _,qd7 _,List.length_replicate,by simp only [qn7]; rfl,fun j _ => qn6 _ j⟩) ?_;rintro ⟨i,O⟩ ⟨hi,hO,hl,hF,hz⟩
 try dsimp only
 simp only at hi hO hl hF hz; have hdB := jg hb.wds i
 refine sR ?_;refine oV ?_;refine oN (tC (cS ?_));refine cC rfl (fun h1 => ?_) (fun h1 => ?_)
 ·
  have f1 := h1;try simp only [bl] at f1
  refine cK (tC (cS (cB (sR ?_))));refine oV ?_;refine yu trivial rfl underlying33 sizeOf134 rfl (hb) rfl (by omega) ?_;refine q7 trivial rfl isAgg134 rfl (hb.cellI (k := i) (by omega) (by omega)) ?_;iterate 2 refine oV ?_
  refine nS ?_;iterate 2 refine oV ?_
  refine ve trivial rfl underlying33 rfl (ha) ?_
  (refine qh trivial rfl rfl rfl ?_ ?_; (omega))
  (refine qh trivial rfl rfl rfl ?_ ?_; (omega))
  refine oV ?_;refine nR ?_;iterate 4 refine oV ?_
  refine qvb trivial rfl underlying33 sizeOf134 rfl rfl rfl rfl (by omega) ?_
  rw [show 0 + (i : Int).toNat * 1 = i by omega,show ((i : Int) + (A.length : Int) + 1).toNat - (i : Int).toNat = A.length + 1 by omega]
  iterate 2 refine oV ?_
  refine oC trivial rfl call245 rfl (qov b15 O i (A.length + 1) (A.length + 1) va A (dg B i) 0 ha hO rfl (by omega) (by omega) hdB (by decide)) (by repeat constructor) ?_;rintro _ _ _ hx1 ⟨rfl,rfl,O',rfl,hL⟩;refine oN (qg (tC (cR ?_)))
  (refine qh trivial rfl rfl rfl ?_ ?_; (omega))
  refine oV ?_;refine oN ?_
  exact ql (i + 1, O') (sC rfl (sC rfl (sC rfl (sC rfl (sC rfl sN))))) (fun _ h => h) (by show B.length - (i + 1) < B.length - i; omega) ⟨by show i + 1 ≤ B.length; omega, hL.wds, by rw [hL.len]; exact hl, by
    have e := hL.sum
    rw [Nat.add_comm i,hF,Nat.add_zero] at e
    show pre O' (A.length + (i + 1)) = val A * pre B (i + 1)
    rw [← Nat.add_assoc,e,pre,Nat.add_zero,Nat.mul_add,Nat.mul_assoc],fun j hj => by
    have hj' : A.length + (i + 1) ≤ j := hj
    rw [hL.high j (by omega)]; exact hz j (by omega)⟩
 have f1 := h1;try simp only [bl] at f1
 refine qp (qc (qc (qo rfl (tC (cS ?_)))))
 have hiN : i = B.length := by omega
 subst hiN
 have hv : val O = val A * val B := by
   have e1 : val O = pre O (A.length + B.length + 1) := (qai (by omega)).symm
   rw [e1,pre,hF,hz _ (Nat.le_refl _),Nat.zero_mul,Nat.add_zero]; rfl
 refine qfq O Take.here hO (by unfold maxLen; omega) (fun I1 hx1 hs1 => ?_)
 rw [hl] at hs1
 refine cR ?_;refine oV ?_;refine oI call156 rfl (qa2 _ _ hs1 (by omega)) ?_;rintro _ I2 hx2 hs2;refine oV ?_;refine nE ?_;refine ret1 rfl rfl ?_;refine leaf (hx1.trans hx2 (Nat.le_refl _)) (List.nil_sublist _) ?_; rw [hv] at hs2; exact hs2
theorem qbz {n k m : Nat} (h : n < 4294967296 ^ k) (hm : k ≤ m) : (natW n).length ≤ m := Nat.le_trans (qa1 h) hm
theorem qxk {a k : Nat} (h : a < 4294967296 ^ k) (i : Nat) : (natW (a ^ i)).length ≤ k * i + 1 := by
 refine qa1 ?_
 rcases Nat.eq_zero_or_pos i with h0 | h0
 · subst h0; rw [Nat.pow_zero,Nat.mul_zero,Nat.zero_add]; decide
 · have h1 : a ^ i < (4294967296 ^ k) ^ i := Nat.pow_lt_pow_left h (by omega)
   rw [← Nat.pow_mul] at h1
   exact Nat.lt_of_lt_of_le h1 (Nat.pow_le_pow_right (by decide) (by omega))
theorem qxl {a n : Nat} (h : a ≤ 1) : a ^ min n 1 = a ^ n := by
 rcases Nat.eq_zero_or_pos n with h0 | h0
 · subst h0; rfl
 · rw [Nat.min_eq_right h0, Nat.pow_one]
   rcases (by omega : a = 0 ∨ a = 1) with h1 | h1
   · subst h1; exact (Nat.zero_pow h0).symm
   · subst h1; exact (Nat.one_pow n).symm
theorem qxm {n : Nat} : 1 < bitZ n ↔ 1 < n := by
 constructor
 · intro h
   have h0 : n ≠ 0 := fun e => by subst e; simp [bitZ] at h
   have := qg7 h0
   have h2 : 2 ^ 1 ≤ 2 ^ (bitZ n - 1) := Nat.pow_le_pow_right (by decide) (by omega)
   omega
 · intro h
   have := qjf n
   rcases Nat.lt_or_ge 1 (bitZ n) with h1 | h1
   · exact h1
   · have h2 : 2 ^ bitZ n ≤ 2 ^ 1 := Nat.pow_le_pow_right (by decide) h1
     omega
theorem qxn (va : Value) (A : List Nat) (m : Nat) {I : Hp} (ha : Ws I va A) (hs : A.length ≤ 4096) (hm : m ≤ 64) (hsm : A.length * m ≤ 4096) : Fun prog 232 [va,.int .i64 (m : Int)] I [] (fun v I' _ => ∃ u,v = .tuple #[u,.bool true] ∧ Ws I' u (natW (val A ^ m))) := by
 have hle : lowL A ≤ A.length := qaj A A.length
 have hb := qxm (n := val A)
 have hlt := jj ha.wds
 have hcut : Ws I (yt va 0 (lowL A) 1) (natW (val A)) := by
   have h := ha.cut (lo := 0) (hi := lowL A) (Nat.zero_le _) hle
   rw [List.drop_zero,qc6 ha.wds] at h
   exact h
 have hnl : (natW (val A)).length ≤ 4096 := by rw [← qd5 ha.wds]; omega
 have hlm : lowL A * m ≤ 4096 := Nat.le_trans (Nat.mul_le_mul_right _ hle) hsm
 intro w hw
 refine qz _ func232 rfl ntmps232 rfl ?_ hw;refine sR ?_;iterate 2 refine oV ?_
 refine nS ?_;refine oV ?_;refine oQ call153 rfl (qdh _ _ ha (by omega)) ?_;refine oV ?_;refine nS ?_;refine oV ?_;refine oQ call157 rfl (qfu _ _ ha (by omega)) ?_;iterate 2 refine oV ?_
 refine nU ?_;iterate 2 refine oV ?_
 refine' oZ (fun hb16 => ?_) ?_;rotate_left
 ·
  have fb16 := hb16
  try simp only [bl] at fb16
  refine gV hb16 ?_;refine' qbc (wS rfl rfl hb16) (wS rfl rfl hb16) rfl rfl rfl rfl rfl rfl rfl rfl (fun hb18 => ?_) ?_;rotate_left
  ·
   have fb18 := hb18
   try simp only [bl] at fb18
   iterate 2 refine gV hb18 ?_
   have hpos : lowL A ≠ 0 := fun e => by
     have := (qja ha.wds).1 e
     omega
   have hq1 : (0 : Int) ≤ 4096 / (lowL A : Int) := Int.ediv_nonneg (by decide) (by omega)
   have hq2 : (4096 : Int) / (lowL A : Int) ≤ 4096 := Int.ediv_le_self _ (by decide)
   refine qc2 (wS rfl rfl hb18) rfl rfl rfl (by omega) (by rw [IntWalk.i64_in _ (by omega)]) ?_;refine gV hb18 ?_;refine oN ?_;exact qa rfl
  refine oN ?_;exact qa rfl
 refine nT ?_;refine cC rfl (fun h1 => ?_) (fun h1 => ?_)
 ·
  have f1 := h1;try simp only [bl] at f1
  exfalso
  rcases f1 with f1 | f1
  · omega
  · have hpos : lowL A ≠ 0 := fun e => by
      have := (qja ha.wds).1 e
      omega
    have : (m : Int) ≤ 4096 / (lowL A : Int) := Int.le_ediv_of_mul_le (by omega) (by have h9 := Int.ofNat_le.2 hlm; rw [Int.natCast_mul,Int.mul_comm] at h9; exact h9)
    omega
 have f1 := h1;try simp only [bl] at f1
 refine cK (tC ?_);refine zh (ι := Nat) [0,6] (.cons rfl (.cons rfl .nil)) (fun x E0 => (1,.int .i64 (x : Int)) :: E0) (fun x => St w [] I []) (fun x => val A ^ x = val A ^ m ∧ x ≤ m ∧ x ≤ 64) ?_ ?_
 ·
  refine sR ?_;iterate 2 refine oV ?_
  refine nT ?_;refine cC rfl (fun h2 => ?_) (fun h2 => ?_)
  ·
   have f2 := h2;try simp only [bl] at f2
   refine cR ?_;refine oV ?_;refine qg2 trivial rfl rfl rfl ?_;refine oV ?_;refine oN ?_
   (exact meet (min m 1) (by rw [show ((min m 1 : Nat) : Int) = min (m : Int) 1 by omega]; exact (sC rfl (sC rfl (sC rfl sN)))) (fun _ h => h) ⟨qxl (by omega),by omega,by omega⟩)
  have f2 := h2;try simp only [bl] at f2
  refine cK ?_;exact meet m (sC rfl (sC rfl (sC rfl sN))) (fun _ h => h) ⟨rfl,Nat.le_refl _,hm⟩
 rintro e ⟨he,hem,hem4⟩
 try dsimp only
 refine sR ?_;refine oI call129 rfl (qhf 1 (by decide)) ?_;rintro u1 I1 hx1 hs1;refine oV ?_;refine nU ?_;iterate 2 refine oV ?_
 refine oN (tC (cB ?_));refine qt (ι := Nat × Value × Hp) [0,6,30] (.cons rfl (.cons rfl (.cons rfl .nil))) (fun x => e - x.1) (fun x E0 => (8,x.2.1) :: (31,.int .i64 (x.1 : Int)) :: E0) (fun x => St w [] x.2.2 []) (fun x => x.1 ≤ e ∧ Ws x.2.2 x.2.1 (natW (val A ^ x.1)) ∧ Ext w.heap.size I x.2.2) ((0,u1,I1)) (sC rfl (sC rfl (sC rfl (sC rfl (sC rfl sN))))) (fun _ h => h) (⟨Nat.zero_le _,by rw [Nat.pow_zero]; exact hs1,hx1⟩) ?_;rintro ⟨i,u,I2⟩ ⟨hi,hu,hx2⟩
 try dsimp only
 simp only at hi hu hx2; have hlen := qxk hlt i; have hmul : A.length * i ≤ 4096 := Nat.le_trans (Nat.mul_le_mul_left _ (by omega)) hsm
 refine sR ?_;refine oV ?_;refine oN (tC (cS ?_));refine cC rfl (fun h3 => ?_) (fun h3 => ?_)
 ·
  have f3 := h3;try simp only [bl] at f3
  refine cK (tC (cS (cB (cR ?_))));iterate 3 refine oV ?_
  refine qns trivial rfl underlying33 sizeOf134 rfl (ha.slc.le hx2.le) rfl (by rw [jd]; omega) ?_;refine oI call244 rfl (qxj _ _ _ _ hu (by rw [Int.toNat_natCast]; exact hcut.le hx2.le) (by omega) (by omega)) ?_;rintro u3 I3 hx3 hs3;refine oV ?_;refine oN (qg (tC (cR ?_)))
  (refine qh trivial rfl rfl rfl ?_ ?_; (omega))
  refine oV ?_;refine oN ?_;exact ql (i + 1,u3,I3) (sC rfl (sC rfl (sC rfl (sC rfl (sC rfl sN))))) (fun _ h => h) (by show e - (i + 1) < e - i; omega) ⟨by show i + 1 ≤ e; omega,by rw [qk,qk] at hs3; rw [Nat.pow_succ]; exact hs3,hx2.trans hx3 (Nat.le_refl _)⟩
 have f3 := h3;try simp only [bl] at f3
 refine qp (qc (qc (qo rfl (tC (sR ?_)))));iterate 3 refine oV ?_
 refine nE ?_;refine ret2 rfl rfl rfl ?_
 have hie : i = e := by omega
 subst hie
 refine leaf hx2 (List.nil_sublist _) ⟨u,rfl,?_⟩; rw [← he]; exact hu
theorem qhg {a k q : Nat} (h : a < 4294967296 ^ k) (hq : q ≤ 2 ^ 31) : a * q < 4294967296 ^ (k + 1) := by
 rw [pow_succ]
 exact Nat.mul_lt_mul_of_lt_of_le h (Nat.le_trans hq (by decide)) (by decide)
theorem qow (va : Value) (A : List Nat) (m : Nat) {I : Hp} (ha : Ws I va A) (hs : A.length ≤ 50000000) (hm : m ≤ 100000) : Fun prog 230 [va,.int .i64 (m : Int)] I [] (fun v I' _ => Ws I' v (natW (val A * 2 ^ m))) := by
 have hp1 : 2 ^ (m % 32) ≤ 2 ^ 31 := Nat.pow_le_pow_right (by decide) (by omega)
 have hp0 : 0 < 2 ^ (m % 32) := Nat.pow_pos (by decide)
 intro w hw
 refine qz _ func230 rfl ntmps230 rfl ?_ hw;refine sR ?_;refine oV ?_;refine nS ?_;refine oV ?_;refine qg2 trivial rfl rfl rfl ?_;refine qbf trivial rfl rfl rfl ?_;refine oV ?_;refine oN (tC (cS ?_))
 rw [show max (0 : Int) (min (m : Int) 100000) = (m : Int) by omega]
 refine cR ?_;refine oV ?_;refine qc2 trivial rfl rfl rfl (by omega) (by rw [IntWalk.i64_in _ (by omega)]) ?_;refine qu8 trivial rfl underlying33 qcl rfl rfl (by omega) (by omega) (by (unfold maxLen; omega)) (fun v11 => ?_);refine oV ?_;refine oN (tC (cS ?_))
 rw [show ((m : Int) / 32).toNat = m / 32 by omega,qc9]
 refine cR ?_;iterate 3 refine oV ?_
 refine qca trivial rfl rfl rfl (by omega) ?_
 rw [show (m : Int) % 32 = ((m % 32 : Nat) : Int) by omega]
 refine qnw (2 ^ (m % 32)) trivial rfl rfl rfl (by omega) (by rw [Int.toNat_natCast,show min (m % 32) IntKind.u32.bits = m % 32 from Nat.min_eq_left (by show m % 32 ≤ 32; omega)]) (by rw [IntWalk.u32_in _ (by omega)]) ?_
 rw [Int.one_mul]
 refine oI call235 rfl (qjv _ _ (2 ^ (m % 32)) 0 ha (by omega) (by omega) (by decide)) ?_;rintro u1 I1 hx1 hs1
 have hl1 : (natW (val A * 2 ^ (m % 32) + 0)).length ≤ A.length + 1 := qbz (k := A.length + 1) (by rw [Nat.add_zero]; exact qhg (jj ha.wds) hp1) (Nat.le_refl _)
 refine qi7 trivial rfl underlying33 (qdg) (by decide) rfl rfl (fun v' => (by repeat constructor)) (hs1.slc) (qn4 _) (by rw [jd]; unfold maxLen; omega) (by rw [jd]; omega) (fun v18 => ?_)
 rw [qc8,jd,← show wl (List.replicate (m / 32) 0 ++ natW (val A * 2 ^ (m % 32) + 0)) = wl (List.replicate (m / 32) 0) ++ wl (natW (val A * 2 ^ (m % 32) + 0)) from List.map_append,← qc8]
 refine qn9 (xss := wcs (List.replicate (m / 32) 0 ++ natW (val A * 2 ^ (m % 32) + 0))) Take.here (by rw [jd,List.length_append,List.length_replicate]) (qfo _) (by unfold maxLen; omega) (fun I2 hx2 hs2 => ?_)
 have hw2 : Ws I2 v18 (List.replicate (m / 32) 0 ++ natW (val A * 2 ^ (m % 32) + 0)) := ⟨hs2,(qd7 _).app (qak _)⟩
 refine oI call156 rfl (qa2 _ _ hw2 (by rw [List.length_append,List.length_replicate]; omega)) ?_;rintro u3 I3 hx3 hs3;refine oV ?_;refine nE ?_;refine ret1 rfl rfl ?_;refine leaf (hx1.trans (hx2.trans hx3 (Nat.le_refl _)) (Nat.le_refl _)) (List.nil_sublist _) ?_; rw [qvr,qk,Nat.add_zero,qvs] at hs3; exact hs3
theorem qox (va : Value) (A : List Nat) (d : Nat) {I : Hp} (ha : Ws I va A) (hs : A.length ≤ 100000000) (hd0 : 0 < d) (hd : d < 4294967296) : Fun prog 158 [va,.int .u32 (d : Int)] I [] (fun v I' _ => ∃ u,v = .tuple #[u,.int .u32 ((val A % d : Nat) : Int),.bool true] ∧ Ws I' u (natW (val A / d))) := by
 intro w hw
 refine qz _ func158 rfl ntmps158 rfl ?_ hw;refine sR ?_;iterate 3 refine oV ?_
 refine nU ?_;iterate 2 refine oV ?_
 refine nT ?_;refine cC rfl (fun h1 => ?_) (fun h1 => ?_)
 ·
  have f1 := h1;try simp only [bl] at f1
  exfalso; omega
 have f1 := h1;try simp only [bl] at f1
 refine kS ?_;refine oV ?_;refine ve trivial rfl underlying33 rfl (ha) ?_;refine qce trivial rfl underlying33 qcl rfl rfl (by omega) (by omega) (by (unfold maxLen; omega)) (fun b12 => ?_);refine oV ?_;refine oN (tC (cS (cS ?_)))
 rw [Int.toNat_natCast,qc9]
 refine cR ?_;refine oV ?_;refine ve trivial rfl underlying33 rfl (ha) ?_
 (refine vp trivial rfl rfl rfl ?_ ?_; (omega))
 refine oV ?_;refine oN (tC (cB ?_));refine qt (ι := Nat × List Nat × Nat) [0,1,4] (.cons rfl (.cons rfl (.cons rfl .nil))) (fun x => x.1) (fun x E0 => (5,.int .u32 (x.2.2 : Int)) :: (7,.int .i64 ((x.1 : Int) - 1)) :: E0) (fun x => St w [] I [.box b12 (.cells (wl x.2.1).toArray 134 (0,0))]) (fun x => x.1 ≤ A.length ∧ Wds x.2.1 ∧ x.2.1.length = A.length ∧ x.2.2 < d ∧ val (A.drop x.1) = val (x.2.1.drop x.1) * d + x.2.2) ((A.length,List.replicate A.length 0,0)) (sC rfl (sC rfl (sC rfl (sC rfl (sC rfl sN))))) (fun _ h => h) (⟨Nat.le_refl _,qd7 _,List.length_replicate,hd0,by simp only; rw [qg5 (Nat.le_refl _),qg5 (by rw [List.length_replicate]; exact Nat.le_refl _),Nat.zero_mul]⟩) ?_;rintro ⟨j,O,r⟩ ⟨hj,hO,hl,hr,hF⟩
 try dsimp only
 simp only at hj hO hl hr hF
 refine cS (sR ?_);iterate 2 refine oV ?_
 refine nT ?_;refine cC rfl (fun h2 => ?_) (fun h2 => ?_)
 ·
  have f2 := h2;try simp only [bl] at f2
  obtain ⟨k,rfl⟩ : ∃ k,j = k + 1 := ⟨j - 1,by omega⟩
  have hdA := jg ha.wds k
  have hdr : (r * 4294967296 + dg A k) % d < d := Nat.mod_lt _ hd0
  rw [show ((k + 1 : Nat) : Int) - 1 = (k : Int) by omega]
  refine cK (tC (cS (cB (cR ?_))));iterate 5 refine oV ?_
  refine yu trivial rfl underlying33 sizeOf134 rfl (ha) rfl (by omega) ?_;refine q7 trivial rfl isAgg134 rfl (ha.cellI (k := k) (by omega) (by omega)) ?_;refine oV ?_;refine oQ call186 rfl (qop r (dg A k) d hr hd hdA) ?_;iterate 4 refine oV ?_
  refine y8 trivial rfl underlying33 sizeOf134 rfl rfl (by omega) ?_;refine yn trivial rfl rfl rfl sizeOf134 rfl (by repeat constructor) (by rw [qcg]; omega) ?_;refine oV ?_;refine oN (qg (tC (cR ?_)));refine oV ?_
  (refine vp trivial rfl rfl rfl ?_ ?_; (omega))
  refine oV ?_;refine oN ?_;exact ql (k,O.set k ((r * 4294967296 + dg A k) / d),(r * 4294967296 + dg A k) % d) (sC rfl (sC rfl (sC rfl (sC rfl (sC rfl sN))))) (fun _ h => h.wl1 k _ (by omega)) (by show k < k + 1; omega) ⟨by show k ≤ A.length; omega,hO.set (qje hr hdA),by simp only [List.length_set]; exact hl,hdr,qn1 (by omega) (by omega) hF (Nat.div_add_mod' _ _).symm⟩
 have f2 := h2;try simp only [bl] at f2
 refine qp (qc (qc (qo rfl (tC (cS ?_)))))
 have hj0 : j = 0 := by omega
 subst hj0
 rw [List.drop_zero,List.drop_zero] at hF
 obtain ⟨e1,e2⟩ := qg6 hF hr
 refine qfq O Take.here hO (by unfold maxLen; omega) (fun I1 hx1 hs1 => ?_)
 rw [hl] at hs1
 refine cR ?_;refine oV ?_;refine oI call156 rfl (qa2 _ _ hs1 (by omega)) ?_;rintro u2 I2 hx2 hs2;iterate 4 refine oV ?_
 refine nE ?_;refine ret3 rfl rfl rfl rfl ?_;refine leaf (hx1.trans hx2 (Nat.le_refl _)) (List.nil_sublist _) ⟨u2,?_,?_⟩
 · rw [← e2]
 · rw [← e1]; exact hs2
theorem qxo (va vb : Value) (R B : List Nat) {I : Hp} (ha : Ws I va R) (hb : Ws I vb B) (hs : B.length ≤ 100000000) (hn : 0 < B.length) (htop : dg B (B.length - 1) ≠ 0) (hlen : R.length ≤ B.length + 1) (hq : val R / val B < 4294967296) : Fun prog 242 [va,vb] I [] (fun v I' _ => ∃ q : Nat,v = .int .u32 (q : Int) ∧ val R / val B ≤ q ∧ q < 4294967296) := by
 obtain ⟨g1,g2⟩ := qvn ha.wds hb.wds hn htop hlen
 have hdB := jg hb.wds (B.length - 1)
 have hdR := jg ha.wds (B.length - 1)
 intro w hw
 refine qz _ func242 rfl ntmps242 rfl ?_ hw;refine sR ?_;refine oV ?_;refine nS ?_;refine oV ?_;refine ve trivial rfl underlying33 rfl (hb) ?_;refine oV ?_;refine nU ?_;refine oV ?_;refine ve trivial rfl underlying33 rfl (ha) ?_;iterate 2 refine oV ?_
 refine nT ?_;refine cC rfl (fun h1 => ?_) (fun h1 => ?_)
 ·
  have f1 := h1;try simp only [bl] at f1
  refine sR ?_;refine oV ?_;refine nF ?_;refine ret1 rfl rfl ?_;refine qe ⟨0,rfl,?_,by decide⟩; rw [g1 (by omega)]; exact Nat.le_refl _
 have f1 := h1;try simp only [bl] at f1
 refine kS ?_;refine oV ?_;refine nT ?_;refine zh (ι := Unit) [0,1,5] (.cons rfl (.cons rfl (.cons rfl .nil))) (fun x E0 => (6,.int .u32 (dg R B.length : Nat)) :: E0) (fun x => St w [] I []) (fun x => True) ?_ ?_
 ·
  refine sR ?_;refine oV ?_;refine ve trivial rfl underlying33 rfl (ha) ?_;iterate 2 refine oV ?_
  refine nT ?_;refine cC rfl (fun h2 => ?_) (fun h2 => ?_)
  ·
   have f2 := h2;try simp only [bl] at f2
   refine cR ?_;iterate 2 refine oV ?_
   refine yu trivial rfl underlying33 sizeOf134 rfl (ha) rfl (by omega) ?_;refine q7 trivial rfl isAgg134 rfl (ha.cellI (k := B.length) (by omega) (by omega)) ?_;refine oV ?_;refine oN ?_;exact meet () (sC rfl (sC rfl (sC rfl (sC rfl sN)))) (fun _ h => h) trivial
  have f2 := h2;try simp only [bl] at f2
  refine cK ?_
  (have e : dg R B.length = 0 := qbg (by omega); exact meet () (by rw [e]; exact (sC rfl (sC rfl (sC rfl (sC rfl sN))))) (fun _ h => h) trivial)
 rintro _ _
 try dsimp only
 refine cS ?_;refine jf (by kernel_rfl) (by kernel_rfl) (fun _ h => h.drawn) ?_;iterate 3 refine oV ?_
 (refine vp trivial rfl rfl rfl ?_ ?_; (omega))
 refine yu trivial rfl underlying33 sizeOf134 rfl (ha) rfl (by omega) ?_;refine q7 trivial rfl isAgg134 rfl (ha.cellI (k := B.length - 1) (by omega) (by omega)) ?_;iterate 2 refine oV ?_
 (refine vp trivial rfl rfl rfl ?_ ?_; (omega))
 refine yu trivial rfl underlying33 sizeOf134 rfl (hb) rfl (by omega) ?_;refine q7 trivial rfl isAgg134 rfl (hb.cellI (k := B.length - 1) (by omega) (by omega)) ?_;refine oQ call186 rfl (qw7 _ _ _ hdB hdR) ?_;iterate 7 refine oV ?_
 refine nU ?_;iterate 2 refine oV ?_
 refine nT ?_;refine cC rfl (fun h3 => ?_) (fun h3 => ?_)
 ·
  have f3 := h3;try simp only [bl] at f3
  refine sR ?_;refine oV ?_;refine nF ?_;refine ret1 rfl rfl ?_;refine qe ⟨4294967295,rfl,by omega,by decide⟩
 have f3 := h3;try simp only [bl] at f3
 refine kS ?_;iterate 2 refine oV ?_
 refine nE ?_;refine ret1 rfl rfl ?_;refine qe ⟨_,rfl,?_,?_⟩
 · unfold divQ; rw [if_pos (by simpa using f3)]; exact g2
 · unfold divQ; rw [if_pos (by simpa using f3)]; exact qje (by simpa using f3) hdR
theorem qhh {n : Nat} (h : n ≠ 0) : 0 < (natW n).length ∧ dg (natW n) ((natW n).length - 1) ≠ 0 :=
 ⟨Nat.pos_of_ne_zero fun e => h (jk.1 e),qve h⟩
theorem qxp (va vb : Value) (r b : Nat) {I : Hp} (ha : Ws I va (natW r)) (hb : Ws I vb (natW b)) (hs : (natW b).length ≤ 10000000) (hb0 : 0 < b) (hr : r < b * 4294967296) : Fun prog 231 [va,vb] I [] (fun v I' _ => ∃ u,v = .tuple #[.int .u32 ((r / b : Nat) : Int),u] ∧ Ws I' u (natW (r % b))) := by
 obtain ⟨hn,htop⟩ := qhh (n := b) (by omega)
 have hbl := jj (qak b)
 rw [qk] at hbl
 have hlen : (natW r).length ≤ (natW b).length + 1 := qbz (k := (natW b).length + 1) (by
   rw [pow_succ]
   exact Nat.lt_of_lt_of_le hr (Nat.mul_le_mul_right _ (Nat.le_of_lt hbl))) (Nat.le_refl _)
 have hq : r / b < 4294967296 := by rw [Nat.div_lt_iff_lt_mul hb0,Nat.mul_comm]; exact hr
 intro w hw
 refine qz _ func231 rfl ntmps231 rfl ?_ hw;refine sR ?_;iterate 2 refine oV ?_
 refine oN (tC (qu0 (sR ?_)));iterate 2 refine oV ?_
 refine qc1 trivial rfl call242 rfl (qxo _ _ _ _ ha hb (by omega) hn htop hlen (by rw [qk,qk]; exact hq)) ?_;rintro _ ⟨q0,rfl,hq1,hq2⟩;refine oV ?_;refine oN (tC (cS (qui (tC (cS (cB ?_))))));refine qt (ι := Nat × Hp) [1] (.cons rfl .nil) (fun x => x.1) (fun x E0 => (0,va) :: (6,.int .u32 (x.1 : Int)) :: E0) (fun x => St w [] x.2 []) (fun x => r / b ≤ x.1 ∧ x.1 < 4294967296 ∧ Ext w.heap.size I x.2) ((q0,I)) (sC rfl (sC rfl (sC rfl sN))) (fun _ h => h) (⟨by rw [qk,qk] at hq1; exact hq1,hq2,Ext.refl _ _⟩) ?_;rintro ⟨q,I1⟩ ⟨hqa,hqb,hx1⟩
 try dsimp only
 simp only at hqa hqb hx1
 refine cB (sR ?_);iterate 3 refine oV ?_
 refine oI call235 rfl (qjv _ _ q 0 (hb.le hx1.le) (by omega) hqb (by decide)) ?_;rintro u2 I2 hx2 hs2
 rw [qk,Nat.add_zero] at hs2
 have hl2 : (natW (b * q)).length ≤ (natW b).length + 1 := qbz (k := (natW b).length + 1) (by rw [pow_succ]; exact Nat.mul_lt_mul_of_lt_of_le hbl (by omega) (by decide)) (Nat.le_refl _)
 refine oI call243 rfl (qxh _ _ _ _ (ha.le (hx1.le.trans hx2.le)) hs2 (by omega) (by omega)) ?_;rintro _ I3 hx3 ⟨u3,rfl,hs3⟩;iterate 5 refine oV ?_
 refine nU ?_;refine oV ?_;refine nT ?_;refine cC rfl (fun h1 => ?_) (fun h1 => ?_)
 ·
  have f1 := h1;try simp only [bl] at f1
  rw [qk,qk] at f1 hs3; obtain ⟨hh1,hh2⟩ := qvo hb0 hqa f1
  refine sR ?_;iterate 2 refine oV ?_
  refine oN (tC (qp (qc (v1 rfl (qc (qo rfl (tC (sR ?_))))))));iterate 4 refine oV ?_
  refine oN (tC (cT (sc_r ?_)));refine ret2 rfl rfl rfl ?_;refine leaf (hx1.trans (hx2.trans hx3 (Nat.le_refl _)) (Nat.le_refl _)) (List.nil_sublist _) ⟨u3,?_,?_⟩
  · rw [hh1]; rfl
  · rw [← hh2]; exact hs3 f1
 have f1 := h1;try simp only [bl] at f1
 rw [qk,qk] at f1; obtain ⟨hm1,hm2⟩ := qvp hb0 hqa (by omega)
 refine cK (tC (cR ?_));refine oV ?_;refine qg1 trivial rfl rfl rfl (by rw [IntWalk.u32_in _ (by omega)]) ?_
 rw [show (q : Int) - 1 = ((q - 1 : Nat) : Int) by omega]
 refine oV ?_;refine oN (qg ?_);exact ql (q - 1,I3) (sC rfl (sC rfl (sC rfl sN))) (fun _ h => h) (by show q - 1 < q; omega) ⟨hm1,by show q - 1 < 4294967296; omega,hx1.trans (hx2.trans hx3 (Nat.le_refl _)) (Nat.le_refl _)⟩
theorem qxq {n : Nat} (h : n < 4294967296) : dg (natW n) 0 = n := by
 have h1 : pre (natW n) 1 = n := by
   have : val (natW n) = n := qk n
   rw [qai (qa1 (k := 1) (by simpa using h))]; exact this
 simpa [pre] using h1
theorem qxr {a b y q r : Nat} (hb : 0 < b) (h : a * 2 ^ y = q * (b * 2 ^ y) + r) (hr : r < b * 2 ^ y) : q = a / b ∧ r / 2 ^ y = a % b := by
 have hp : 0 < 2 ^ y := Nat.pow_pos (by decide)
 obtain ⟨h1,h2⟩ := qg6 h hr
 rw [Nat.mul_div_mul_right _ _ hp] at h1
 rw [Nat.mul_mod_mul_right] at h2
 exact ⟨h1,by rw [h2,Nat.mul_div_cancel _ hp]⟩
theorem qjw (va vb : Value) (A B : List Nat) {I : Hp} (ha : Ws I va A) (hb : Ws I vb B) (hs : A.length ≤ 2000000) (hs2 : B.length ≤ 2000000) (h0 : 0 < val B) : Fun prog 218 [va,vb] I [] (fun v I' _ => ∃ u1 u2,v = .tuple #[u1,u2,.bool true] ∧ Ws I' u1 (natW (val A / val B)) ∧ Ws I' u2 (natW (val A % val B))) := by
 obtain ⟨hn,htop⟩ := qhh (n := val B) (by omega)
 have hlB : (natW (val B)).length ≤ B.length := by rw [← qd5 hb.wds]; exact qaj _ _
 have hdt := jg (qak (val B)) ((natW (val B)).length - 1)
 have hbit : bitZ (dg (natW (val B)) ((natW (val B)).length - 1)) ≤ 32 := qd6 (by omega)
 have hbit0 : 0 < bitZ (dg (natW (val B)) ((natW (val B)).length - 1)) := Nat.pos_of_ne_zero fun e => htop (qc7.1 e)
 obtain ⟨y,hy⟩ : ∃ y,32 - bitZ (dg (natW (val B)) ((natW (val B)).length - 1)) = y := ⟨_,rfl⟩
 have hy31 : y ≤ 31 := by omega
 have hp31 : 2 ^ y ≤ 2 ^ 31 := Nat.pow_le_pow_right (by decide) hy31
 have hp0 : 0 < 2 ^ y := Nat.pow_pos (by decide)
 have hlA : (natW (val A * 2 ^ y)).length ≤ A.length + 1 := qbz (k := A.length + 1) (qhg (jj ha.wds) hp31) (Nat.le_refl _)
 have hlB2 : (natW (val B * 2 ^ y)).length ≤ B.length + 1 := qbz (k := B.length + 1) (qhg (jj hb.wds) hp31) (Nat.le_refl _)
 have hb1 : 0 < val B * 2 ^ y := Nat.mul_pos h0 hp0
 intro w hw
 refine qz _ func218 rfl ntmps218 rfl ?_ hw;refine sR ?_;iterate 3 refine oV ?_
 refine nS ?_;refine oV ?_;refine oI call156 rfl (qa2 _ _ hb (by omega)) ?_;rintro u1 I1 hx1 hs1;refine oV ?_;refine nU ?_;refine oV ?_;refine ve trivial rfl underlying33 rfl (hs1) ?_;refine oV ?_;refine nT ?_;refine cC rfl (fun h1 => ?_) (fun h1 => ?_)
 ·
  have f1 := h1;try simp only [bl] at f1
  exfalso; omega
 have f1 := h1;try simp only [bl] at f1
 refine kS ?_;iterate 2 refine oV ?_
 refine ve trivial rfl underlying33 rfl (hs1) ?_
 (refine vp trivial rfl rfl rfl ?_ ?_; (omega))
 refine yu trivial rfl underlying33 sizeOf134 rfl (hs1) rfl (by omega) ?_;refine q7 trivial rfl isAgg134 rfl (hs1.cellI (k := (natW (val B)).length - 1) (by omega) (by omega)) ?_;refine oQ call185 rfl (qoq _ hdt) ?_
 (refine vp trivial rfl rfl rfl ?_ ?_; (omega))
 refine oV ?_;refine oN (tC (cS ?_))
 rw [show (32 : Int) - (bitZ (dg (natW (val B)) ((natW (val B)).length - 1)) : Int) = (y : Int) by omega]
 refine cR ?_;iterate 2 refine oV ?_
 refine oI call230 rfl (qow _ _ y (ha.le hx1.le) (by omega) (by omega)) ?_;rintro u2 I2 hx2 hs2;iterate 2 refine oV ?_
 refine oI call230 rfl (qow _ _ y (hs1.le hx2.le) (by omega) (by omega)) ?_;rintro u3 I3 hx3 hs3;iterate 2 refine oV ?_
 refine oN (tC (cS ?_))
 rw [qk] at hs3
 have hs2' := hs2.le hx3.le
 refine cR ?_;refine oV ?_;refine ve trivial rfl underlying33 rfl (hs2') ?_;refine qce trivial rfl underlying33 qcl rfl rfl (by omega) (by omega) (by (unfold maxLen; omega)) (fun b32 => ?_);refine oV ?_;refine oN (tC (cS (cS ?_)))
 rw [Int.toNat_natCast,qc9]
 refine cR ?_;refine oV ?_;refine ve trivial rfl underlying33 rfl (hs2') ?_
 (refine vp trivial rfl rfl rfl ?_ ?_; (omega))
 refine oV ?_;refine oN (tC (cB ?_));refine qt (ι := Nat × List Nat × Nat × Value × Hp) [0,1,4,7] (.cons rfl (.cons rfl (.cons rfl (.cons rfl .nil)))) (fun x => x.1) (fun x E0 => (5,x.2.2.2.1) :: (8,.int .i64 ((x.1 : Int) - 1)) :: E0) (fun x => St w [] x.2.2.2.2 [.box b32 (.cells (wl x.2.1).toArray 134 (0,0))]) (fun x => x.1 ≤ (natW (val A * 2 ^ y)).length ∧ Wds x.2.1 ∧ x.2.1.length = (natW (val A * 2 ^ y)).length ∧ x.2.2.1 < val B * 2 ^ y ∧ Ws x.2.2.2.2 x.2.2.2.1 (natW x.2.2.1) ∧ val ((natW (val A * 2 ^ y)).drop x.1) = val (x.2.1.drop x.1) * (val B * 2 ^ y) + x.2.2.1 ∧ Ext w.heap.size I3 x.2.2.2.2) (((natW (val A * 2 ^ y)).length,List.replicate (natW (val A * 2 ^ y)).length 0,0,.slice none 0 0,I3)) (sC rfl (sC rfl (sC rfl (sC rfl (sC rfl (sC rfl sN)))))) (fun _ h => h) (⟨Nat.le_refl _,qd7 _,List.length_replicate,hb1,by simp only [yg]; exact Ws.nil _,by simp only; rw [qg5 (Nat.le_refl _),qg5 (by rw [List.length_replicate]; exact Nat.le_refl _),Nat.zero_mul],Ext.refl _ _⟩) ?_;rintro ⟨j,O,r,u4,I4⟩ ⟨hj,hO,hl,hr,hu4,hF,hx4⟩
 try dsimp only
 simp only at hj hO hl hr hu4 hF hx4; have hrl : (natW r).length ≤ B.length + 1 := qbz (k := B.length + 1) (Nat.lt_trans hr (qhg (jj hb.wds) hp31)) (Nat.le_refl _)
 refine cS (sR ?_);iterate 2 refine oV ?_
 refine nT ?_;refine cC rfl (fun h2 => ?_) (fun h2 => ?_)
 ·
  have f2 := h2;try simp only [bl] at f2
  obtain ⟨k,rfl⟩ : ∃ k,j = k + 1 := ⟨j - 1,by omega⟩
  have hdA := jg (qak (val A * 2 ^ y)) k
  rw [show ((k + 1 : Nat) : Int) - 1 = (k : Int) by omega]
  refine cK (tC (cS (cB (cR ?_))));iterate 4 refine oV ?_
  refine yu trivial rfl underlying33 sizeOf134 rfl (hs2'.le hx4.le) rfl (by omega) ?_;refine q7 trivial rfl isAgg134 rfl ((hs2'.le hx4.le).cellI (k := k) (by omega) (by omega)) ?_;refine oB underlying33 sizeOf134 zeroValue134 fun b47 => ?_;refine TL.pre ?_ (fun w' h => h.boxRow (m := 1) (sz := 1) rfl (by unfold maxLen; omega));refine oV ?_;refine qi7 trivial rfl underlying33 (qdg) (by decide) rfl rfl (fun v' => (by repeat constructor)) (hu4.slc) (qn4 _) (by rw [jd]; unfold maxLen; omega) (by rw [jd]; omega) (fun v49 => ?_)
  rw [qc8,jd]
  refine qn9 (xss := wcs (dg (natW (val A * 2 ^ y)) k :: natW r)) (by rw [qc8]; exact Take.here) (by rw [jd,List.length_cons]; omega) (qfo _) (by unfold maxLen; omega) (fun I5 hx5 hs5 => ?_)
  have hw5 : Ws I5 v49 (dg (natW (val A * 2 ^ y)) k :: natW r) := ⟨hs5,zc hdA (qak _)⟩
  refine oI call156 rfl (qa2 _ _ hw5 (by rw [List.length_cons]; omega)) ?_;rintro u6 I6 hx6 hs6;refine oV ?_
  rw [zw,qk] at hs6
  have hlt6 : dg (natW (val A * 2 ^ y)) k + 4294967296 * r < val B * 2 ^ y * 4294967296 := by
    have := Nat.mul_le_mul_right 4294967296 (Nat.succ_le_of_lt hr)
    rw [Nat.succ_mul,Nat.mul_comm r] at this
    omega
  refine oI call231 rfl (qxp _ _ _ _ hs6 ((((hs3.le hx4.le).le hx5.le)).le hx6.le) (by omega) hb1 hlt6) ?_;rintro _ I7 hx7 ⟨u7,rfl,hs7⟩;iterate 3 refine oV ?_
  refine y8 trivial rfl underlying33 sizeOf134 rfl rfl (by omega) ?_;refine yn trivial rfl rfl rfl sizeOf134 rfl (by repeat constructor) (by rw [qcg]; omega) ?_;refine oV ?_;refine oN (qg (tC (cR ?_)));refine oV ?_
  (refine vp trivial rfl rfl rfl ?_ ?_; (omega))
  refine oV ?_;refine oN ?_;exact ql (k,O.set k ((dg (natW (val A * 2 ^ y)) k + 4294967296 * r) / (val B * 2 ^ y)),(dg (natW (val A * 2 ^ y)) k + 4294967296 * r) % (val B * 2 ^ y),u7,I7) (sC rfl (sC rfl (sC rfl (sC rfl (sC rfl (sC rfl sN)))))) (fun _ h => h.wl1 k _ (by omega)) (by show k < k + 1; omega) ⟨by show k ≤ _; omega,hO.set ((Nat.div_lt_iff_lt_mul hb1).2 (Nat.lt_of_lt_of_eq hlt6 (Nat.mul_comm _ _))),by simp only [List.length_set]; exact hl,Nat.mod_lt _ hb1,hs7,qn1 (by omega) (by omega) hF (by rw [Nat.mul_comm r,Nat.add_comm]; exact (Nat.div_add_mod' _ _).symm),hx4.trans (hx5.trans (hx6.trans hx7 (Nat.le_refl _)) (Nat.le_refl _)) (Nat.le_refl _)⟩
 have f2 := h2;try simp only [bl] at f2
 refine qp (qc (qc (qo rfl (tC (cS ?_)))))
 have hj0 : j = 0 := by omega
 subst hj0
 rw [List.drop_zero,List.drop_zero,qk] at hF
 obtain ⟨e1,e2⟩ := qxr h0 hF hr
 refine cR ?_;refine oB underlying33 sizeOf134 zeroValue134 fun b57 => ?_;refine oV ?_;refine qby [2] Take.here (zc (by decide) zj) (by unfold maxLen; simp) (fun I8 hx8 hs8 => ?_);refine oI call232 rfl (qxn _ _ y hs8 (by simp) (by omega) (by show 1 * y ≤ 4096; omega)) ?_;rintro _ I9 hx9 ⟨u9,rfl,hs9⟩;iterate 5 refine oV ?_
 refine oN (tC (cS ?_))
 have hv2 : val [2] = 2 := rfl
 rw [hv2] at hs9
 obtain ⟨hn9,_⟩ := qhh (n := 2 ^ y) (by omega)
 refine cR ?_;iterate 2 refine oV ?_
 refine yu trivial rfl underlying33 sizeOf134 rfl (hs9) rfl (by omega) ?_;refine q7 trivial rfl isAgg134 rfl (hs9.cellI (k := 0) rfl (by omega)) ?_
 rw [qxq (n := 2 ^ y) (by omega)]
 refine oI call158 rfl (qox _ _ (2 ^ y) ((hu4.le hx8.le).le hx9.le) (by omega) hp0 (by omega)) ?_;rintro _ I10 hx10 ⟨u10,rfl,hs10⟩;iterate 5 refine oV ?_
 refine oN (tC (cS ?_))
 rw [qk,e2] at hs10
 refine qfq O Take.here hO (by unfold maxLen; omega) (fun I11 hx11 hs11 => ?_)
 rw [hl] at hs11
 refine cR ?_;refine oV ?_;refine oI call156 rfl (qa2 _ _ hs11 (by omega)) ?_;rintro u12 I12 hx12 hs12;iterate 4 refine oV ?_
 refine nE ?_;refine ret3 rfl rfl rfl rfl ?_;refine leaf (hx1.trans (hx2.trans (hx3.trans (hx4.trans (hx8.trans (hx9.trans (hx10.trans (hx11.trans hx12 (Nat.le_refl _)) (Nat.le_refl _)) (Nat.le_refl _)) (Nat.le_refl _)) (Nat.le_refl _)) (Nat.le_refl _)) (Nat.le_refl _)) (Nat.le_refl _)) (List.nil_sublist _) ⟨u12,u10,rfl,?_,(hs10.le hx11.le).le hx12.le⟩
 rw [e1] at hs12; exact hs12
abbrev vbox (b : Nat) (v : Value) : Tw.Item := .box b (.cells [v].toArray 33 (0,0))
theorem qxs (va vb : Value) (A B : List Nat) {I : Hp} (ha : Ws I va A) (hb : Ws I vb B) : Fun prog 229 [va,vb] I [] (fun v I' B' => I = I' ∧ ∃ b2 b3,v = .func (.func 241) #[] #[.pointer (some ⟨b3,0,none⟩),.pointer (some ⟨b2,0,none⟩)] ∧ B' = [vbox b3 vb,vbox b2 va]) := by
 intro w hw
 refine qz _ func229 rfl ntmps229 rfl ?_ hw;refine sR ?_;refine vh (cs := [_]) trivial rfl rfl (ha.cells1).1 (fun b2 => ?_);refine vh (cs := [_]) trivial rfl rfl (hb.cells1).1 (fun b3 => ?_);refine oV ?_;refine nS ?_;iterate 2 refine oV ?_
 refine nE ?_;refine ret1 rfl rfl ?_;exact fun w' hw' => ⟨I,[vbox b3 vb,vbox b2 va],hw',Ext.refl _ _,rfl,b2,b3,rfl,rfl⟩
structure qxt (P : Program) (r : Loop) (p b5 : Nat) : Prop where
 one : r.params = #[p]
 state : r.state = .ready
 pending : r.pending = none
 go : ∀ (w0 : World) (X : List Nat) (I : Hp) (B : List Tw.Item) (l : Nat) (y z : Value) (w : World) (S : List Nat),Ws I y S → St w0 X I (.box l (.loop r) :: vbox b5 z :: B) w → RoundIn Fence.wide 0 P l r.fn (r.tmps.setIfInBounds p y) r.assign r.body w (fun e w' => e = .returned (.bool true) ∧ St w0 X I (.box l (.loop r) :: vbox b5 y :: B) w')
theorem qxu (l b5 b2 b3 : Nat) (r : Loop) {p : Nat} (ok : qxt prog r p b5) (va vb : Value) (A B : List Nat) {I : Hp} (ha : Ws I va A) (hb : Ws I vb B) (hs : A.length ≤ 2000000) (hs2 : B.length ≤ 2000000) :
   Fun prog 241 [.func (.yield l) #[] #[], .pointer (some ⟨b3, 0, none⟩), .pointer (some ⟨b2, 0, none⟩)] I [.box l (.loop r), vbox b5 va, vbox b2 va, vbox b3 vb]
     (fun _ I' B' => ∃ r' B1,B' = .box l (.loop r') :: B1 ∧ r'.state = .ready ∧ r'.pending = none ∧ ∃ u L,B1 = [vbox b5 u] ∧ Ws I' u L ∧ val L = Nat.gcd (val A) (val B) ∧ L.length ≤ 2000000) := by
 intro w hw
 refine j5 _ func241 rfl ntmps241 rfl ?_ hw;refine cB ?_;refine qt (ι := Value × Value × List Nat × List Nat × Hp) [0,1,2] (.cons rfl (.cons rfl (.cons rfl .nil))) (fun x => val x.2.2.2.1) (fun x E0 => E0) (fun x => St w _ x.2.2.2.2 [.box l (.loop r),vbox b5 x.1,vbox b2 x.1,vbox b3 x.2.1]) (fun x => Ws x.2.2.2.2 x.1 x.2.2.1 ∧ Ws x.2.2.2.2 x.2.1 x.2.2.2.1 ∧ x.2.2.1.length ≤ 2000000 ∧ x.2.2.2.1.length ≤ 2000000 ∧ Nat.gcd (val x.2.2.1) (val x.2.2.2.1) = Nat.gcd (val A) (val B) ∧ Ext w.heap.size I x.2.2.2.2) ((va,vb,A,B,I)) (sC rfl (sC rfl (sC rfl sN))) (fun _ h => h) (⟨ha,hb,hs,hs2,rfl,Ext.refl _ _⟩) ?_;rintro ⟨u,z,L,M,I1⟩ ⟨hu,hz,hsL,hsM,hg,hx1⟩
 try dsimp only
 simp only at hu hz hsL hsM hg hx1; unfold vbox
 refine cS (sR ?_);refine oL isAgg33 ?_;refine oQ call157 rfl (qfu _ _ hz (by omega)) ?_;refine oV ?_;refine nT ?_;refine cC rfl (fun h1 => ?_) (fun h1 => ?_)
 ·
  have f1 := h1;try simp only [bl] at f1
  have hM : 0 < val M := Nat.pos_of_ne_zero fun e => by rw [e] at f1; simp [bitZ] at f1
  refine cK (tC (cB (sR ?_)));iterate 2 refine oL isAgg33 ?_
  refine oI call218 rfl (qjw _ _ _ _ hu hz (by omega) (by omega) hM) ?_;rintro _ I2 hx2 ⟨u1,u2,rfl,hq,hr2⟩;iterate 7 refine oV ?_
  refine nS ?_;refine oL isAgg33 ?_;refine oV ?_;refine yn trivial rfl rfl (hz.cells1).1 sizeOf33 (hz.cells1).2 (by repeat constructor) (by exact Nat.le_of_ble_eq_true rfl) ?_;refine yn trivial rfl rfl (hr2.cells1).1 sizeOf33 (hr2.cells1).2 (by repeat constructor) (by exact Nat.le_of_ble_eq_true rfl) ?_;refine oN (tC (cS ?_));refine c_ti (m := 4) rfl (qfr (fun _ => trivial) rfl rfl rfl (zr rfl) (qfr (fun _ => trivial) rfl rfl rfl (qv5 (off := 0) (cs := [z]) (Tb := 33) (fz := (0,0)) isAgg33 rfl (List.Mem.tail _ (List.Mem.tail _ (List.Mem.head _))) rfl) (qv2 (r := r) (S' := St w _ I2 [.box l (.loop r),vbox b5 z,vbox b2 z,vbox b3 u2]) rfl rfl rfl rfl ok.one (fun w' hw' => hw'.own (.box l (.loop r)) List.mem_cons_self) (fun w' hw' => ok.go w _ I2 _ l z u w' M (hz.le hx2.le) hw') (qfr (fun _ => trivial) rfl rfl rfl (zr rfl) (qjk ?_)))));refine tC ?_;refine qaf rfl (by rfl) ?_;refine cK (qg ?_);exact ql (z,u2,M,natW (val L % val M),I2) (sC rfl (sC rfl (sC rfl sN))) (fun _ h => h) (by show val (natW (val L % val M)) < val M; rw [qk]; exact Nat.mod_lt _ hM) ⟨hz.le hx2.le,hr2,hsM,qbz (Nat.lt_of_lt_of_le (Nat.mod_lt _ hM) (Nat.le_of_lt (jj hz.wds))) hsM,by simp only; rw [qk,qvu]; exact hg,hx1.trans hx2 (Nat.le_refl _)⟩
 have f1 := h1;try simp only [bl] at f1
 have hM : val M = 0 := qc7.1 (by omega)
 refine qp (qc (qc (qo rfl ?_)));refine ret0 rfl ?_;refine leaf hx1 (B' := [.box l (.loop r),vbox b5 u]) ((List.nil_sublist _).cons_cons _ |>.cons_cons _) ⟨r,[vbox b5 u],rfl,ok.state,ok.pending,u,L,rfl,hu,?_,hsL⟩; rw [← hg,hM,Nat.gcd_zero_right]
theorem qxv {n : Nat} {D : List Deferred} {E : Env} {a : Act} (h : Fits n D E a) {d : Nat} (hd : Nat.blt d n = true) (v : Value) (D' : List Deferred) : Fits n D' ((d, v) :: E) { tmps := a.tmps.setIfInBounds d v, defers := D' } :=
 let h1 := h.put hd v
 ⟨h1.size,rfl,h1.get⟩
theorem qoy (va vb : Value) (A B : List Nat) {I : Hp} (ha : Ws I va A) (hb : Ws I vb B) (hs : A.length ≤ 2000000) (hs2 : B.length ≤ 2000000) : Fun prog 217 [va,vb] I [] (fun v I' _ => Ws I' v (natW (Nat.gcd (val A) (val B)))) := by
 intro w hw
 refine qv9 _ func217 rfl ntmps217 rfl ?_ hw;refine sR ?_;refine oV ?_;refine nS ?_;refine oV ?_;refine qq trivial rfl zeroValue33 rfl (fun b5 => ?_);refine yn trivial rfl rfl (ha.cells1).1 sizeOf33 (ha.cells1).2 (by repeat constructor) (by exact Nat.le_of_ble_eq_true rfl) ?_;refine nU ?_;iterate 2 refine oV ?_
 refine oC trivial rfl call229 rfl (qxs va vb A B ha hb) (by repeat constructor) ?_;rintro _ I1 B1 hx1 ⟨rfl,b2,b3,rfl,rfl⟩;refine oN (tC (cB ?_));refine qv7 (R := fun I' B1 => ∃ u L,B1 = [vbox b5 u] ∧ Ws I' u L ∧ val L = Nat.gcd (val A) (val B) ∧ L.length ≤ 2000000) (Bc := [vbox b5 va,vbox b2 va,vbox b3 vb]) rfl call241 (by repeat constructor) (fun fn l Dd a hfit => qxu l b5 b2 b3 _ ⟨rfl,rfl,rfl,fun w0 X I B l y z w' S hy hw' => qv4 (B' := vbox b5 y :: B) rfl (qxv hfit rfl y []) (qoc (m := 1) rfl (qfr (fun _ => trivial) rfl rfl rfl (zr rfl) (qjk ⟨fun a w ha hw => ⟨rfl,ha,hw⟩⟩))) (qv3 (qoc (m := 2) rfl (qfr (fun _ => trivial) rfl rfl rfl (zr rfl) (qv1 (fun _ => trivial) rfl rfl (qv6 rfl rfl hy.cells1.1 sizeOf33 hy.cells1.2 (.there .here)) (qjk (qg ⟨fun a w ha hw => ⟨rfl,hw⟩⟩)))))) hw'⟩ va vb A B ha hb hs hs2) ?_;rintro Dd I2 _ hx2 ⟨u,L,rfl,hu,hL,hLs⟩;refine qg (tC (sR ?_));refine qcd trivial rfl isAgg33 rfl (by repeat constructor) (rfl) ?_;refine oI call156 rfl (qa2 _ _ hu (by omega)) ?_;rintro u3 I3 hx3 hs3;refine oV ?_;refine nE ?_;refine qwa rfl rfl (Take.there Take.here) ?_;refine leaf (hx2.trans hx3 (Nat.le_refl _)) (List.nil_sublist _) ?_; rw [hL] at hs3; exact hs3
theorem jl {a b : Nat} (h : a ≤ b) : (natW a).length ≤ (natW b).length := by
 have := jj (qak b)
 rw [qk] at this
 exact qa1 (Nat.lt_of_le_of_lt h this)
theorem zz {l : List Nat} (h : Wds l) : (natW (val l)).length ≤ l.length := by rw [← qd5 h]; exact qaj _ _
theorem qxw (va vb : Value) (A B : List Nat) {I : Hp} (ha : Ws I va A) (hb : Ws I vb B) (hs : A.length ≤ 2000000) (hs2 : B.length ≤ 2000000) : Fun prog 206 [va,vb] I [] (fun v I' _ => ∃ u1 u2,v = .tuple #[u1,u2,.bool (decide (val B ≠ 0))] ∧ (val B ≠ 0 → Ws I' u1 (natW (val A / Nat.gcd (val A) (val B))) ∧ Ws I' u2 (natW (val B / Nat.gcd (val A) (val B))))) := by
 intro w hw
 refine qz _ func206 rfl ntmps206 rfl ?_ hw;refine sR ?_;iterate 3 refine oV ?_
 refine nU ?_;refine oV ?_;refine oQ call157 rfl (qfu _ _ hb (by omega)) ?_;refine oV ?_;refine nT ?_;refine cC rfl (fun h1 => ?_) (fun h1 => ?_)
 ·
  have f1 := h1;try simp only [bl] at f1
  refine sR ?_;iterate 3 refine oV ?_
  refine nF ?_;refine ret3 rfl rfl rfl rfl ?_
  have h0 : val B = 0 := qc7.1 (by omega)
  refine qe ⟨.slice none 0 0,.slice none 0 0,?_,fun h => absurd h0 h⟩; rw [decide_eq_false (not_not_intro h0)]
 have f1 := h1;try simp only [bl] at f1
 have h0 : 0 < val B := Nat.pos_of_ne_zero fun e => f1 (by rw [e]; rfl)
 have hg : 0 < Nat.gcd (val A) (val B) := Nat.gcd_pos_of_pos_right _ h0
 have hgl : (natW (Nat.gcd (val A) (val B))).length ≤ 2000000 := Nat.le_trans (jl (Nat.gcd_le_right _ h0)) (Nat.le_trans (zz hb.wds) hs2)
 refine kS ?_;iterate 2 refine oV ?_
 refine oI call217 rfl (qoy _ _ _ _ ha hb hs hs2) ?_;rintro u1 I1 hx1 hs1;refine oV ?_;refine nS ?_;iterate 2 refine oV ?_
 refine oI call218 rfl (qjw _ _ _ _ (ha.le hx1.le) hs1 (by omega) (by omega) (by rw [qk]; exact hg)) ?_;rintro _ I2 hx2 ⟨u2,u3,rfl,hq2,hr2⟩;iterate 5 refine oV ?_
 refine nS ?_;iterate 2 refine oV ?_
 refine oI call218 rfl (qjw _ _ _ _ (hb.le (hx1.le.trans hx2.le)) (hs1.le hx2.le) (by omega) (by omega) (by rw [qk]; exact hg)) ?_;rintro _ I3 hx3 ⟨u4,u5,rfl,hq4,hr4⟩;iterate 5 refine oV ?_
 refine nS ?_;iterate 5 refine oV ?_
 refine nE ?_;refine ret3 rfl rfl rfl rfl ?_
 rw [qk] at hq2 hq4
 refine leaf (hx1.trans (hx2.trans hx3 (Nat.le_refl _)) (Nat.le_refl _)) (List.nil_sublist _) ⟨u2,u4,?_,fun _ => ⟨hq2.le hx3.le,hq4⟩⟩; rw [decide_eq_true (by omega)]; rfl
theorem qxx (va vb : Value) (A B : List Nat) {I : Hp} (ha : Ws I va A) (hb : Ws I vb B) (hs : A.length ≤ 2000000) (hs2 : B.length ≤ 2000000) : Fun prog 204 [va,vb] I [] (fun v I' _ => v = .bool (decide (Nat.gcd (val A) (val B) = 1))) := by
 intro w hw
 refine qz _ func204 rfl ntmps204 rfl ?_ hw;refine sR ?_;refine oV ?_;refine nS ?_;iterate 2 refine oV ?_
 refine oI call217 rfl (qoy _ _ _ _ ha hb hs hs2) ?_;rintro u1 I1 hx1 hs1
 have hgl : (natW (Nat.gcd (val A) (val B))).length ≤ 2000000 := by
   rcases Nat.eq_zero_or_pos (val B) with h0 | h0
   · rw [h0,Nat.gcd_zero_right]; exact Nat.le_trans (zz ha.wds) hs
   · exact Nat.le_trans (jl (Nat.gcd_le_right _ h0)) (Nat.le_trans (zz hb.wds) hs2)
 refine oI call129 rfl (qhf 1 (by decide)) ?_;rintro u2 I2 hx2 hs2';refine oQ call128 rfl (qou _ _ _ _ (hs1.le hx2.le) hs2' (by omega) (qbz (k := 1) (by decide) (by decide))) ?_;iterate 2 refine oV ?_
 refine nE ?_;refine ret1 rfl rfl ?_;refine leaf (hx1.trans hx2 (Nat.le_refl _)) (List.nil_sublist _) (congrArg Value.bool ?_)
 rw [qk,qk,Bool.eq_iff_iff,beq_iff_eq,decide_eq_true_eq]
 constructor
 · intro h; have := qft h; omega
 · intro h; rw [h]; exact qcn _
end Go.Proofs.YtfcmhcaggdakbaaGreatDoor
namespace Go.Tw
def lowQ (neg : Bool) (n d : Nat) : Rat := mkRat (if neg then -(n : Int) else n) d
theorem qhi {neg : Bool} {n d : Nat} (h : d = 0 ∨ n = 0) : lowQ neg n d = 0 := by
 unfold lowQ
 rcases h with rfl | rfl
 · exact Rat.mkRat_zero _
 · cases neg <;> exact Rat.zero_mkRat _
theorem qfv {neg : Bool} {n d : Nat} (hn : n ≠ 0) (hd : d ≠ 0) : (lowQ neg n d).num.natAbs = n / Nat.gcd n d ∧ (lowQ neg n d).den = d / Nat.gcd n d ∧ decide ((lowQ neg n d).num < 0) = neg := by
 have hg : 0 < Nat.gcd n d := Nat.gcd_pos_of_pos_left _ (by omega)
 have hna : (if neg then -(n : Int) else (n : Int)).natAbs = n := by cases neg <;> simp
 have hdv : (Nat.gcd n d : Int) ∣ (if neg then -(n : Int) else (n : Int)) := by
   cases neg
   · exact Int.natCast_dvd_natCast.2 (Nat.gcd_dvd_left n d)
   · exact Int.dvd_neg.2 (Int.natCast_dvd_natCast.2 (Nat.gcd_dvd_left n d))
 have hpos : 0 < n / Nat.gcd n d := Nat.div_pos (Nat.le_of_dvd (by omega) (Nat.gcd_dvd_left n d)) hg
 unfold lowQ
 rw [Rat.num_mkRat,Rat.den_mkRat,if_neg hd,if_neg hd,hna,Nat.gcd_comm d n]
 have e : (if neg then -(n : Int) else (n : Int)) / (Nat.gcd n d : Int) = if neg then -((n / Nat.gcd n d : Nat) : Int) else ((n / Nat.gcd n d : Nat) : Int) := by
   cases neg
   · simp only [Bool.false_eq_true,if_false]; exact (Int.natCast_ediv _ _).symm
   · simp only [if_true]
     rw [Int.neg_ediv_of_dvd (Int.natCast_dvd_natCast.2 (Nat.gcd_dvd_left n d)),Int.natCast_ediv]
 rw [e]
 refine ⟨?_,rfl,?_⟩
 all_goals generalize n / Nat.gcd n d = s at *
 · cases neg <;> simp
 · cases neg
   · simp only [Bool.false_eq_true,if_false]; exact decide_eq_false (by omega)
   · simp only [if_true]; exact decide_eq_true (by omega)
theorem qjx (z : Int) : (if decide (z < 0) then -(z.natAbs : Int) else (z.natAbs : Int)) = z := by
 by_cases h : z < 0
 · rw [decide_eq_true h,if_pos rfl]; omega
 · rw [decide_eq_false h,if_neg (by decide)]; omega
theorem qfw (z : Int) (d : Nat) : lowQ (decide (z < 0)) z.natAbs d = mkRat z d := by unfold lowQ; rw [qjx]
theorem qoz (q : Rat) : lowQ (decide (q.num < 0)) q.num.natAbs q.den = q := by rw [qfw]; exact Rat.mkRat_self q
theorem sign_mul (x y : Int) : (if (decide (x < 0) != decide (y < 0)) then -((x.natAbs * y.natAbs : Nat) : Int) else ((x.natAbs * y.natAbs : Nat) : Int)) = x * y := by
 have key : ∀ (s t : Bool) (a b : Nat),(if s != t then -((a * b : Nat) : Int) else ((a * b : Nat) : Int)) = (if s then -(a : Int) else a) * (if t then -(b : Int) else b) := by
   intro s t a b
   cases s <;> cases t <;> simp [Int.mul_neg,Int.neg_mul]
 rw [key,qjx,qjx]
theorem qxy (p q : Rat) : lowQ (decide (p.num < 0) != decide (q.num < 0)) (p.num.natAbs * q.num.natAbs) (p.den * q.den) = p * q := by
 unfold lowQ; rw [sign_mul]; exact (Rat.mul_def' p q).symm
structure Few (k : Nat) (q : Rat) : Prop where
 num : q.num.natAbs < 4294967296 ^ k
 den : q.den < 4294967296 ^ k
theorem Few.le {k m : Nat} {q : Rat} (h : Few k q) (hk : k ≤ m) : Few m q :=
 ⟨Nat.lt_of_lt_of_le h.num (Nat.pow_le_pow_right (by decide) hk),Nat.lt_of_lt_of_le h.den (Nat.pow_le_pow_right (by decide) hk)⟩
theorem Few.neg {k : Nat} {q : Rat} (h : Few k q) : Few k (-q) := ⟨by rw [Rat.neg_num,Int.natAbs_neg]; exact h.num,by rw [Rat.neg_den]; exact h.den⟩
theorem qo0 {n k m : Nat} (h : n < 4294967296 ^ k) (hm : k ≤ m) : (natW n).length ≤ m := Nat.le_trans (qa1 h) hm
theorem sign_pow (x : Int) (n : Nat) : decide (x ^ n < 0) = (decide (x < 0) && decide (n % 2 ≠ 0)) := by
 have key : ∀ k,x ^ (2 * k) = (x ^ k) ^ 2 := fun k => by rw [Nat.mul_comm,Int.pow_mul]
 have sq : ∀ y : Int, 0 ≤ y ^ 2 := fun y => by
   rw [Int.pow_succ,Int.pow_succ,Int.pow_zero,Int.one_mul]
   rcases (by omega : y < 0 ∨ 0 ≤ y) with h | h
   · exact Int.le_of_lt (Int.mul_pos_of_neg_of_neg h h)
   · exact Int.mul_nonneg h h
 have hz : ∀ k, x ^ k = 0 → x = 0 := fun k h => by
   by_cases hx : x = 0
   · exact hx
   · exact absurd h (Int.pow_ne_zero hx)
 obtain ⟨k,hk⟩ : ∃ k,n = 2 * k ∨ n = 2 * k + 1 := ⟨n / 2,by omega⟩
 rcases hk with rfl | rfl
 · rw [show (2 * k) % 2 = 0 by omega, key]
   simp [sq]
 · rw [show (2 * k + 1) % 2 = 1 by omega, Int.pow_succ, key]
   have h0 := sq (x ^ k)
   by_cases hx : x < 0
   · have hne : (x ^ k) ^ 2 ≠ 0 := fun e => by
       rw [Int.pow_succ,Int.pow_succ,Int.pow_zero,Int.one_mul] at e
       rcases Int.mul_eq_zero.1 e with e | e <;> exact absurd (hz k e) (by omega)
     have : (x ^ k) ^ 2 * x < 0 := Int.mul_neg_of_pos_of_neg (by omega) hx
     simp [hx,this]
   · have : 0 ≤ (x ^ k) ^ 2 * x := Int.mul_nonneg h0 (by omega)
     simp [hx]; omega
end Go.Tw
namespace Go.Proofs.YtfcmhcaggdakbaaGreatDoor
open Go Go.Tw
def IntV (I : Hp) (v : Value) (z : Int) : Prop := ∃ vm,v = .agg #[.bool (decide (z < 0)),vm] ∧ Ws I vm (natW z.natAbs)
def RatV (I : Hp) (v : Value) (q : Rat) : Prop := ∃ vn vd,v = .agg #[.bool (decide (q.num < 0)),vn,vd] ∧ Ws I vn (natW q.num.natAbs) ∧ Ws I vd (natW q.den)
theorem IntV.le {I I' : Hp} {v : Value} {z : Int} (h : IntV I v z) (hl : I.Le I') : IntV I' v z := let ⟨vm,h1,h2⟩ := h; ⟨vm,h1,h2.le hl⟩
theorem RatV.le {I I' : Hp} {v : Value} {q : Rat} (h : RatV I v q) (hl : I.Le I') : RatV I' v q := let ⟨vn,vd,h1,h2,h3⟩ := h; ⟨vn,vd,h1,h2.le hl,h3.le hl⟩
theorem qxz (neg : Bool) (n : Nat) : (neg && decide (0 < n)) = decide ((if neg then -(n : Int) else n) < 0) := by
 cases neg <;> simp
theorem qx0 (neg : Bool) (n : Nat) : (if neg then -(n : Int) else (n : Int)).natAbs = n := by cases neg <;> simp
theorem qx1 (neg : Bool) (va : Value) (A : List Nat) {I : Hp} (ha : Ws I va A) (hs : A.length ≤ 1000000) : Fun prog 182 [.bool neg,va] I [] (fun v I' _ => IntV I' v (if neg then -(val A : Int) else val A)) := by
 intro w hw
 refine qz _ func182 rfl ntmps182 rfl ?_ hw;refine sR ?_;refine qq trivial rfl zeroValue132 rfl (fun b4 => ?_);refine nS ?_;refine oV ?_;refine oI call156 rfl (qa2 _ _ ha (by omega)) ?_;rintro u1 I1 hx1 hs1;refine oV ?_;refine nS ?_;refine oV ?_;refine' oY (fun hb8 => ?_) ?_;rotate_left
 ·
  have fb8 := hb8
  try simp only [bl] at fb8
  refine gV hb8 ?_;refine ve (wS rfl rfl hb8) rfl underlying33 rfl (hs1) ?_;refine gV hb8 ?_;refine oN ?_;exact qa rfl
 refine oV ?_;refine qw trivial rfl (qdc) rfl (.cons rfl rfl rfl (by repeat constructor) (.cons rfl (by exact (Ws.cells1 (by assumption)).1) (by rfl) (by repeat constructor) .nil)) ?_;refine oS sizeOf132 ?_;refine nE ?_;refine retR rfl (.agg isAgg132 sizeOf132 rfl (by repeat constructor) rfl .nil) ?_;refine leaf hx1 (List.nil_sublist _) ⟨u1,?_,by rw [qx0]; exact hs1⟩
 rw [← qxz]
 have e : decide (((natW (val A)).length : Int) > 0) = decide (0 < val A) := by
   rw [decide_eq_decide]
   constructor
   · intro h; exact Nat.pos_of_ne_zero fun e => by rw [e,yg] at h; simp at h
   · intro h; have := (qhh (n := val A) (by omega)).1; omega
 rw [e]; rfl
theorem qo1 (a b k : Nat) (ha : (natW a).length ≤ k) (hb : (natW b).length ≤ k) : (natW (a + b)).length ≤ k + 1 := by
 have h1 := jj (qak a)
 have h2 := jj (qak b)
 rw [qk] at h1 h2
 have h3 : a < 4294967296 ^ k := Nat.lt_of_lt_of_le h1 (Nat.pow_le_pow_right (by decide) ha)
 have h4 : b < 4294967296 ^ k := Nat.lt_of_lt_of_le h2 (Nat.pow_le_pow_right (by decide) hb)
 refine qa1 ?_
 rw [pow_succ]
 generalize 4294967296 ^ k = P at *
 omega
theorem qo2 {a b : Nat} (h : a / Nat.gcd a b = 0) (hb : b ≠ 0) : a = 0 := by
 rcases Nat.eq_zero_or_pos a with h0 | h0
 · exact h0
 · have := Nat.div_pos (Nat.le_of_dvd h0 (Nat.gcd_dvd_left a b)) (Nat.gcd_pos_of_pos_left b h0)
   omega
theorem RatV.zero {I : Hp} {vd : Value} (h : Ws I vd (natW 1)) : RatV I (.agg #[.bool false, .slice none 0 0, vd]) 0 :=
 ⟨.slice none 0 0,vd,rfl,by rw [show (0 : Rat).num.natAbs = 0 from rfl,yg]; exact Ws.nil I,h⟩
theorem qx2 (neg : Bool) (va vb : Value) (A B : List Nat) {I : Hp} (ha : Ws I va A) (hb : Ws I vb B) (hs : A.length ≤ 2000000) (hs2 : B.length ≤ 2000000) : Fun prog 181 [.bool neg,va,vb] I [] (fun v I' _ => RatV I' v (lowQ neg (val A) (val B))) := by
 intro w hw
 refine j5 _ func181 rfl ntmps181 rfl ?_ hw;refine sR ?_;refine qq trivial rfl zeroValue35 rfl (fun b6 => ?_);refine nS ?_;iterate 2 refine oV ?_
 refine oI call206 rfl (qxw _ _ _ _ ha hb hs hs2) ?_;rintro _ I1 hx1 ⟨u1,u2,rfl,hs1⟩;iterate 7 refine oV ?_
 refine nU ?_;iterate 2 refine oV ?_
 refine' oZ (fun hb19 => ?_) ?_;rotate_left
 ·
  have fb19 := hb19
  try simp only [bl] at fb19
  have hB : val B ≠ 0 := by simpa using hb19
  obtain ⟨hu1,hu2⟩ := hs1 hB
  refine gV hb19 ?_;refine ve (wS rfl rfl hb19) rfl underlying33 rfl (hu1) ?_;refine gV hb19 ?_;refine oN ?_;exact qa rfl
 refine nT ?_;refine cC rfl (fun h1 => ?_) (fun h1 => ?_)
 ·
  have f1 := h1;try simp only [bl] at f1
  have h0 : val B = 0 ∨ val A = 0 := by
    rcases f1 with f1 | f1
    · exact .inl (Decidable.not_not.1 f1)
    · by_cases hB : val B = 0
      · exact .inl hB
      · exact .inr (qo2 (jk.1 (by omega)) hB)
  refine sR ?_;refine oI call129 rfl (qhf 1 (by decide)) ?_;rintro u3 I2 hx2 hs2';refine qw trivial rfl (qbk) rfl (.cons rfl (by exact (Ws.cells1 (by assumption)).1) (by rfl) (by repeat constructor) .nil) ?_;refine oS sizeOf35 ?_;refine nF ?_;refine retR rfl (.agg isAgg35 sizeOf35 rfl (by repeat constructor) rfl .nil) ?_;refine leaf (hx1.trans hx2 (Nat.le_refl _)) (List.nil_sublist _) ?_
  rw [qhi h0]; exact RatV.zero hs2'
 have f1 := h1;try simp only [bl] at f1
 have hB : val B ≠ 0 := fun e => f1.1 e
 obtain ⟨hu1,hu2⟩ := hs1 hB
 have hA : val A ≠ 0 := fun e => f1.2 (by rw [e,Nat.zero_div,yg]; rfl)
 obtain ⟨e1,e2,e3⟩ := qfv (neg := neg) hA hB
 refine kS ?_;iterate 3 refine oV ?_
 refine qw trivial rfl (qbk) rfl (.cons rfl rfl rfl (by repeat constructor) (.cons rfl (by exact (Ws.cells1 (by assumption)).1) (by rfl) (by repeat constructor) (.cons rfl (by exact (Ws.cells1 (by assumption)).1) (by rfl) (by repeat constructor) .nil))) ?_;refine oS sizeOf35 ?_;refine nE ?_;refine retR rfl (.agg isAgg35 sizeOf35 rfl (by repeat constructor) rfl .nil) ?_;refine leaf hx1 (List.nil_sublist _) ⟨u1,u2,?_,?_,?_⟩
 · rw [e3]; rfl
 · rw [e1]; exact hu1
 · rw [e2]; exact hu2
theorem qx3 (p q : Rat) : lowQ (decide (p.num * (q.den : Int) + q.num * (p.den : Int) < 0)) (p.num * (q.den : Int) + q.num * (p.den : Int)).natAbs (p.den * q.den) = p + q := by
 rw [qfw,Rat.add_def']
def okR (e : Prop) [Decidable e] (q : Rat) (I : Hp) (v : Value) : Prop := ∃ s x y X Y,v = .tuple #[.agg #[.bool s,x,y],.int .i64 (if e then 3 else 0)] ∧ Ws I x X ∧ Ws I y Y ∧ (¬ e → s = decide (q.num < 0) ∧ X = natW q.num.natAbs ∧ Y = natW q.den)
theorem qx4 (n d : Int) (va vb : Value) {I : Hp} (ha : Ws I va (natW n.natAbs)) (hb : Ws I vb (natW d.natAbs)) (hs : (natW n.natAbs).length ≤ 2000000) (hs2 : (natW d.natAbs).length ≤ 2000000) : Fun prog 226 [.agg #[.bool (decide (n < 0)),va],.agg #[.bool (decide (d < 0)),vb]] I [] (fun v I' _ => okR (d = 0) (lowQ (decide (n < 0) != decide (d < 0)) n.natAbs d.natAbs) I' v) := by
 intro w hw
 refine qz _ func226 rfl ntmps226 rfl ?_ hw;refine sR ?_;refine vh trivial rfl rfl rfl (fun b2 => ?_);refine vh trivial rfl rfl rfl (fun b3 => ?_);refine qq trivial rfl zeroValue35 rfl (fun b4 => ?_);refine oV ?_;refine nU ?_;refine oF 1 underlying132 sizeOf33 ?_;refine oL isAgg33 ?_;refine oQ call157 rfl (qfu _ _ hb (by omega)) ?_;refine oV ?_;refine nT ?_;refine cC rfl (fun h1 => ?_) (fun h1 => ?_)
 ·
  have f1 := h1;try simp only [bl] at f1
  have h0 : d = 0 := by rw [qk] at f1; have := qc7.1 (show bitZ d.natAbs = 0 by omega); omega
  refine sR ?_;refine qw trivial rfl (qbk) rfl .nil ?_;refine oS sizeOf35 ?_;refine oV ?_;refine nF ?_;refine retR rfl (.agg isAgg35 sizeOf35 rfl (by repeat constructor) rfl (.tmp rfl .nil)) ?_;refine qe ⟨false,.slice none 0 0,.slice none 0 0,[],[],?_,Ws.nil _,Ws.nil _,fun h => absurd h0 h⟩; rw [if_pos h0]; rfl
 have f1 := h1;try simp only [bl] at f1
 have h0 : d ≠ 0 := fun e => by rw [qk,e] at f1; exact f1 rfl
 refine kS ?_;refine oF 0 underlying132 sizeOf4 ?_;refine oL isAgg4 ?_;refine oF 0 underlying132 sizeOf4 ?_;refine oL isAgg4 ?_;refine qwc trivial rfl rfl rfl underlying4 ?_;refine oF 1 underlying132 sizeOf33 ?_;refine oL isAgg33 ?_;refine oF 1 underlying132 sizeOf33 ?_;refine oL isAgg33 ?_;refine oI call181 rfl (qx2 (decide (n < 0) != decide (d < 0)) _ _ _ _ ha hb hs hs2) ?_;rintro _ I1 hx1 ⟨u1,u2,rfl,h1,h2⟩;refine oS sizeOf35 ?_;refine oV ?_;refine nE ?_;refine retR rfl (.agg isAgg35 sizeOf35 rfl (by repeat constructor) rfl (.tmp rfl .nil)) ?_
 rw [qk,qk] at h1 h2
 refine leaf hx1 (List.nil_sublist _) ⟨_,u1,u2,_,_,?_,h1,h2,fun _ => ⟨rfl,rfl,rfl⟩⟩
 rw [qk,qk,if_neg h0]; rfl
end Go.Proofs.YtfcmhcaggdakbaaGreatDoor
namespace Go.Tw
open Go
section
variable {P : Program} {ops : Array Oper} {rest : List Oper} {n : Nat} {D : List Deferred} {E : Env} {S : World → Prop} {Q : Exit → Act → World → Prop} {d : Nat} {ty : TypeId} {pos : String} {aft : Array Edge} {g : Option (Nat × Bool)}
end
end Go.Tw
namespace Go.Proofs.YtfcmhcaggdakbaaGreatDoor
open Go Go.Tw
def qbm (neg : Bool) (A B : List Nat) : Bool := decide (neg = decide ((lowQ neg (val A) (val B)).num < 0)) && decide (A = natW (lowQ neg (val A) (val B)).num.natAbs) && decide (B = natW (lowQ neg (val A) (val B)).den)
theorem qo3 {A : List Nat} (hA : Wds A) : lowL A = A.length ↔ A = natW (val A) := by
 constructor
 · intro h
   have := qc6 hA
   rw [h,List.take_length] at this
   exact this
 · intro h
   rw [qd5 hA,← h]
theorem qx5 (neg : Bool) {A B : List Nat} (hA : Wds A) (hB : Wds B) : (decide (lowL A = A.length) && decide (lowL B = B.length) && decide ((val A).gcd (val B) = 1) && decide ((B.length : Int) > 0) && !(neg && (A.length : Int) == 0)) = qbm neg A B := by
 unfold qbm
 rw [Bool.eq_iff_iff]
 simp only [Bool.and_eq_true,decide_eq_true_eq,Bool.not_eq_true',Bool.and_eq_false_iff,beq_eq_false_iff_ne,ne_eq,qo3 hA,qo3 hB]
 constructor
 · rintro ⟨⟨⟨⟨h1, h2⟩, h3⟩, h4⟩, h5⟩
   have hb : val B ≠ 0 := fun e => by rw [e,yg] at h2; rw [h2] at h4; simp at h4
   by_cases ha : val A = 0
   · rw [qhi (.inr ha)]
     rw [ha,Nat.gcd_zero_left] at h3
     rw [ha,yg] at h1
     rw [h3] at h2
     refine ⟨⟨?_,?_⟩,h2⟩
     · have : neg = false := by
         rcases h5 with h5 | h5
         · exact h5
         · rw [h1] at h5; simp at h5
       rw [this]; rfl
     · rw [h1]; exact yg.symm
   · obtain ⟨e1, e2, e3⟩ := qfv (neg := neg) ha hb
     rw [h3,Nat.div_one] at e1 e2
     exact ⟨⟨e3.symm,by rw [e1]; exact h1⟩,by rw [e2]; exact h2⟩
 · rintro ⟨⟨h1, h2⟩, h3⟩
   generalize lowQ neg (val A) (val B) = q at h1 h2 h3
   have e1 : val A = q.num.natAbs := by rw [h2,qk]
   have e2 : val B = q.den := by rw [h3,qk]
   refine ⟨⟨⟨⟨by rw [e1]; exact h2,by rw [e2]; exact h3⟩,?_⟩,?_⟩,?_⟩
   · rw [e1,e2]; exact q.reduced
   · have : B.length ≠ 0 := fun e => by
       rw [h3] at e
       exact q.den_nz (jk.1 e)
     omega
   · by_cases hn : q.num < 0
     · right
       intro e
       have e4 : (natW q.num.natAbs).length = 0 := by rw [← h2]; omega
       have := jk.1 e4
       omega
     · left; rw [h1,decide_eq_false hn]
theorem qo4 (neg : Bool) (va vb : Value) (A B : List Nat) {I : Hp} (ha : Ws I va A) (hb : Ws I vb B) (hs : A.length ≤ 2000000) (hs2 : B.length ≤ 2000000) : Fun prog 175 [.agg #[.bool neg,va,vb]] I [] (fun v _ _ => v = .bool (qbm neg A B)) := by
 intro w hw
 refine qn _ func175 rfl ntmps175 rfl ?_ hw;refine sR ?_;refine vh trivial rfl rfl rfl (fun b1 => ?_);refine oV ?_;refine nS ?_;refine oF 1 underlying35 sizeOf33 ?_;refine oL isAgg33 ?_;refine oQ call203 rfl (qot _ _ ha (by omega)) ?_;refine' oY (fun hb6 => ?_) ?_;rotate_left
 ·
  have fb6 := hb6
  try simp only [bl] at fb6
  refine gF hb6 2 underlying35 sizeOf33 ?_;refine gL hb6 isAgg33 ?_;refine yd (wS rfl rfl hb6) rfl call203 rfl (qot _ _ hb (by omega)) ?_;refine oN ?_;exact qa rfl
 refine' oY (fun hb11 => ?_) ?_;rotate_left
 ·
  have fb11 := hb11
  try simp only [bl] at fb11
  refine gF hb11 1 underlying35 sizeOf33 ?_;refine gL hb11 isAgg33 ?_;refine gF hb11 2 underlying35 sizeOf33 ?_;refine gL hb11 isAgg33 ?_;refine yd (wS rfl rfl hb11) rfl call204 rfl (qxx _ _ _ _ ha hb hs hs2) ?_;refine oN ?_;exact qa rfl
 refine' oY (fun hb18 => ?_) ?_;rotate_left
 ·
  have fb18 := hb18
  try simp only [bl] at fb18
  refine gF hb18 2 underlying35 sizeOf33 ?_;refine gL hb18 isAgg33 ?_;refine ve (wS rfl rfl hb18) rfl underlying33 rfl (hb) ?_;refine gV hb18 ?_;refine oN ?_;exact qa rfl
 refine' oY (fun hb24 => ?_) ?_;rotate_left
 ·
  have fb24 := hb24
  try simp only [bl] at fb24
  refine gF hb24 0 underlying35 sizeOf4 ?_;refine gL hb24 isAgg4 ?_;refine' qbc (wS rfl rfl hb24) (wS rfl rfl hb24) rfl rfl rfl rfl rfl rfl rfl rfl (fun hb27 => ?_) ?_;rotate_left
  ·
   have fb27 := hb27
   try simp only [bl] at fb27
   refine gF hb27 1 underlying35 sizeOf33 ?_;refine gL hb27 isAgg33 ?_;refine ve (wS rfl rfl hb27) rfl underlying33 rfl (ha) ?_;refine gV hb27 ?_;refine oN ?_;exact qa rfl
  refine gV hb24 ?_;refine oN ?_;exact qa rfl
 refine oV ?_;refine nE ?_;refine ret1 rfl rfl ?_;refine qe (congrArg Value.bool ?_); exact qx5 neg ha.wds hb.wds
end Go.Proofs.YtfcmhcaggdakbaaGreatDoor
namespace Go.Tw
open Go
def digs (n : Nat) : List Nat := if h : n < 10 then [48 + n] else (48 + n % 10) :: digs (n / 10)
termination_by n
decreasing_by omega
def qam (m : Nat) (out : List Nat) : List Nat := if m = 0 ∧ out ≠ [] then [] else digs m
theorem qo5 {m : Nat} (out : List Nat) (h : 0 < m ∨ out = []) : qam m out = (48 + m % 10) :: qam (m / 10) (out ++ [48 + m % 10]) := by
 have e1 : qam m out = digs m := by
   unfold qam
   rw [if_neg]
   rintro ⟨h1,h2⟩
   rcases h with h | h
   · omega
   · exact h2 h
 rw [e1,digs]
 unfold qam
 by_cases h1 : m < 10
 · rw [dif_pos h1,if_pos ⟨by omega,by simp⟩,Nat.mod_eq_of_lt h1]
 · rw [dif_neg h1,if_neg (fun e => absurd e.1 (by omega))]
theorem qo6 : ∀ (n : Nat),∀ x ∈ digs n,48 ≤ x ∧ x ≤ 57 := by
 intro n
 induction n using Nat.strongRecOn with
 | _ n ih =>
   rw [digs]
   split
   · intro x hx; simp at hx; omega
   · intro x hx
     rcases List.mem_cons.1 hx with rfl | hx
     · omega
     · exact ih (n / 10) (by omega) x hx
theorem qo7 : ∀ (k n : Nat), n < 2 ^ k → (digs n).length ≤ k + 1
 | 0,n,h => by rw [digs,dif_pos (by omega)]; simp
 | k + 1, n, h => by
   rw [digs]
   split
   · simp
   · have := qo7 k (n / 10) (by rw [Nat.pow_succ] at h; omega)
     simp only [List.length_cons]; omega
theorem qfx (n : Nat) : 0 < (digs n).length := by
 rw [digs]; split <;> simp
theorem qdi {l : List Nat} (hl : Wds l) {k : Nat} (h : l.length ≤ k) : (digs (val l)).length ≤ 32 * k + 1 := qo7 _ _ (by
 have := jj hl
 have h2 : 4294967296 ^ l.length ≤ 4294967296 ^ k := Nat.pow_le_pow_right (by decide) h
 rw [show 2 ^ (32 * k) = 4294967296 ^ k by rw [Nat.pow_mul]]
 omega)
def decL (n : Nat) : List Int := (digs n).reverse.map Int.ofNat
def decS (n : Nat) : ByteArray := js (decL n)
theorem j7 (n : Nat) : (decS n).size = (digs n).length := by unfold decS decL; rw [qi5]; simp
def revd (xs : List Int) (i : Nat) : List Int := (List.range xs.length).map fun k => if k < i ∨ xs.length ≤ k + i then xs.getD (xs.length - 1 - k) 0 else xs.getD k 0
theorem qef (xs : List Int) (i : Nat) : (revd xs i).length = xs.length := by simp [revd]
theorem qeg (xs : List Int) (i k : Nat) (hk : k < xs.length) : (revd xs i)[k]? = some (if k < i ∨ xs.length ≤ k + i then xs.getD (xs.length - 1 - k) 0 else xs.getD k 0) := by
 unfold revd
 rw [List.getElem?_map,List.getElem?_range hk]; rfl
theorem qx6 (xs : List Int) : revd xs 0 = xs := by
 refine List.ext_getElem? fun k => ?_
 by_cases hk : k < xs.length
 · rw [qeg _ _ _ hk,if_neg (by omega),List.getD_eq_getElem?_getD,List.getElem?_eq_getElem hk]; rfl
 · rw [List.getElem?_eq_none (by rw [qef]; omega),List.getElem?_eq_none (by omega)]
theorem qx7 (xs : List Int) (i : Nat) (h : xs.length ≤ 2 * i + 1) : revd xs i = xs.reverse := by
 refine List.ext_getElem? fun k => ?_
 by_cases hk : k < xs.length
 · rw [qeg _ _ _ hk, List.getElem?_reverse hk]
   by_cases h2 : k < i ∨ xs.length ≤ k + i
   · rw [if_pos h2,List.getD_eq_getElem?_getD,List.getElem?_eq_getElem (by omega : xs.length - 1 - k < xs.length)]; rfl
   · rw [if_neg h2,show xs.length - 1 - k = k by omega,List.getD_eq_getElem?_getD,List.getElem?_eq_getElem hk]; rfl
 · rw [List.getElem?_eq_none (by rw [qef]; omega),List.getElem?_eq_none (by simp; omega)]
theorem qo8 (xs : List Int) (i : Nat) (h : 2 * i + 1 < xs.length) : ((revd xs i).set i (xs.getD (xs.length - 1 - i) 0)).set (xs.length - 1 - i) (xs.getD i 0) = revd xs (i + 1) := by
 refine List.ext_getElem? fun k => ?_
 by_cases hk : k < xs.length
 · rw [List.getElem?_set, List.getElem?_set, qeg _ _ _ hk, qeg _ _ _ hk, List.length_set, qef]
   by_cases h1 : xs.length - 1 - i = k
   · rw [if_pos h1, if_pos (by omega), if_pos (by omega)]
     rw [show xs.length - 1 - k = i by omega]
   · rw [if_neg h1]
     by_cases h2 : i = k
     · subst h2
       rw [if_pos rfl,if_pos hk,if_pos (by omega)]
     · rw [if_neg h2]
       by_cases h3 : k < i ∨ xs.length ≤ k + i
       · rw [if_pos h3,if_pos (by omega)]
       · rw [if_neg h3,if_neg (by omega)]
 · rw [List.getElem?_eq_none (by simp [qef]; omega),List.getElem?_eq_none (by rw [qef]; omega)]
section
variable {P : Program} {n : Nat} {D : List Deferred} {E : Env} {Q : Exit → Act → World → Prop} {w0 : World} {X : List Nat} {I : Hp} {B : List Item}
theorem qx8 {c : Code} {e : TypeId} {size nn : Nat} {u : Value} {xs : List Value} (hp : 0 < nn)
   (k : ∀ b cap,u = .slice (some ⟨b,0,none⟩) nn cap → TC P c Q n D E (St w0 X I (.row u e size nn xs :: B))) : TC P c Q n D E (St w0 X I (.row u e size nn xs :: B)) := ⟨fun a w ha hw => by
 obtain ⟨cap,hv⟩ := qi6 (hw.own _ List.mem_cons_self) hp
 exact (k _ cap hv).out a w ha hw⟩
end
end Go.Tw
namespace Go.Proofs.YtfcmhcaggdakbaaGreatDoor
open Go Go.Tw
theorem qx9 (b nn cap : Nat) (xs : List Int) {I : Hp} (hx : xs.length = nn) (hp : 0 < nn) (hm : nn ≤ 1000000000) : Fun prog 159 [.slice (some ⟨b,0,none⟩) nn cap] I [.row (.slice (some ⟨b,0,none⟩) nn cap) 5 1 nn (xs.map (Value.int .u8))] (fun _ I' B' => I = I' ∧ B' = [.row (.slice (some ⟨b,0,none⟩) nn cap) 5 1 nn (xs.reverse.map (Value.int .u8))]) := by
 intro w hw
 refine qn _ func159 rfl ntmps159 rfl ?_ hw;refine sR ?_;refine oV ?_;refine qng trivial rfl underlying64 rfl ?_
 (refine vp trivial rfl rfl rfl ?_ ?_; (omega))
 iterate 2 refine oV ?_
 refine oN (tC (cB ?_));refine qt (ι := Nat × Int) [0] (.cons rfl .nil) (fun x => nn - x.1) (fun x E0 => (2,.int .i64 (x.1 : Int)) :: (3,.int .i64 x.2) :: E0) (fun x => St w _ I [.row (.slice (some ⟨b,0,none⟩) nn cap) 5 1 nn ((revd xs x.1).map (Value.int .u8))]) (fun x => 2 * x.1 ≤ nn + 1 ∧ x.2 = (nn : Int) - 1 - (x.1 : Int)) ((0,(nn : Int) - 1)) (sC rfl (sC rfl (sC rfl sN))) (fun _ h => by rw [qx6]; exact h) (⟨Nat.zero_le _,by simp⟩) ?_;rintro ⟨i,j⟩ ⟨hle,hj⟩
 try dsimp only
 simp only at hle hj; subst hj
 refine cS (sR ?_);iterate 3 refine oV ?_
 refine nT ?_;refine cC rfl (fun h1 => ?_) (fun h1 => ?_)
 ·
  have f1 := h1;try simp only [bl] at f1
  have g1 : ((revd xs i).map (Value.int .u8))[i]? = some (.int .u8 (xs.getD i 0)) := by rw [List.getElem?_map,qeg _ _ _ (by omega),if_neg (by omega)]; rfl
  have g2 : ((revd xs i).map (Value.int .u8))[nn - 1 - i]? = some (.int .u8 (xs.getD (nn - 1 - i) 0)) := by rw [List.getElem?_map,qeg _ _ _ (by omega),if_neg (by omega)]; rfl
  have hl0 : ((revd xs i).map (Value.int .u8)).length = nn := by rw [List.length_map,qef,hx]
  refine cK (tC (cS (cB ?_)));refine zu (m := 16) [] (by repeat constructor) (by kernel_rfl) rfl ?_;refine qT (i := 0) (qB 16 1) (Hp.Le.refl _) rfl rfl (oV qF) ?_;refine qT (i := 1) (qB 16 3) (Hp.Le.refl _) rfl rfl (oV qF) ?_;refine qT (i := 2) (qB 16 7) (Hp.Le.refl _) rfl rfl (oV qF) ?_;refine qT (i := 3) (qB 16 15) (Hp.Le.refl _) rfl rfl (oV qF) ?_;refine qT (i := 4) (qB 16 31) (Hp.Le.refl _) rfl rfl (oV qF) ?_;refine qT (i := 5) (qB 16 63) (Hp.Le.refl _) rfl rfl (oV qF) ?_;refine qT (i := 6) (qB 16 127) (Hp.Le.refl _) rfl rfl (y8 trivial rfl underlying64 sizeOf5 rfl rfl (by omega) qF) ?_;refine qT (i := 8) (qB 16 383) (Hp.Le.refl _) rfl rfl (oV qF) ?_;refine qT (i := 9) (qB 16 895) (Hp.Le.refl _) rfl rfl (oV qF) ?_;refine qT (i := 10) (qB 16 1919) (Hp.Le.refl _) rfl rfl (y8 trivial rfl underlying64 sizeOf5 rfl rfl (by omega) qF) ?_;refine h_go [7,11] (by kernel_rfl) rfl (TWHs.cons ?_ (TWHs.cons ?_ TWHs.nil))
  ·
   refine qP (qB 16 2047) rfl ?_;refine j0 trivial rfl isAgg5 (by repeat constructor) rfl (by rw [show 0 + ((nn : Int) - 1 - (i : Int)).toNat * 1 = nn - 1 - i by omega]; exact g2) ?_;refine qM (Hp.Le.refl _) ?_;refine qO (i := 11) (qB 16 4095) rfl ?_;refine j0 trivial rfl isAgg5 (by repeat constructor) rfl (by rw [show 0 + ((i : Nat) : Int).toNat * 1 = i by omega]; exact g1) ?_;refine qM (Hp.Le.refl _) ?_;refine qT (i := 12) (qB 16 8191) (Hp.Le.refl _) rfl rfl (y8 trivial rfl underlying64 sizeOf5 rfl rfl (by omega) qF) ?_;refine qO (i := 13) (qB 16 16383) rfl ?_;refine qg0 (xs' := (((revd xs i).map (Value.int .u8)).set i (.int .u8 (xs.getD (nn - 1 - i) 0)))) (u := .slice (some ⟨b,0,none⟩) nn cap) trivial rfl rfl rfl sizeOf5 rfl rfl (by repeat constructor) (by decide) (by omega) (by rw [show 0 + ((i : Nat) : Int).toNat * 1 = i by omega]; exact qfn (cs := (revd xs i).map (Value.int .u8)) (i := i) (by omega)) ?_;refine qM (Hp.Le.refl _) ?_;refine qT (i := 14) (qB 16 32767) (Hp.Le.refl _) rfl rfl (y8 trivial rfl underlying64 sizeOf5 rfl rfl (by omega) qF) ?_;refine qO (i := 15) (qB 16 65535) rfl ?_;refine qg0 (xs' := ((((revd xs i).map (Value.int .u8)).set i (.int .u8 (xs.getD (nn - 1 - i) 0))).set (nn - 1 - i) (.int .u8 (xs.getD i 0)))) (u := .slice (some ⟨b,0,none⟩) nn cap) trivial rfl rfl rfl sizeOf5 rfl rfl (by repeat constructor) (by decide) (by omega) (by rw [show 0 + ((nn : Int) - 1 - (i : Int)).toNat * 1 = nn - 1 - i by omega]; exact qfn (cs := ((revd xs i).map (Value.int .u8)).set i (.int .u8 (xs.getD (nn - 1 - i) 0))) (i := nn - 1 - i) (by rw [List.length_set]; omega)) ?_
   refine qM (Hp.Le.refl _) ?_;refine jc (by kernel_rfl) ?_;refine qg (tC (cR ?_));refine oV ?_
   (refine qh trivial rfl rfl rfl ?_ ?_; (omega))
   refine oV ?_
   (refine vp trivial rfl rfl rfl ?_ ?_; (omega))
   iterate 2 refine oV ?_
   refine oN ?_
   have e := congrArg (List.map (Value.int .u8)) (qo8 xs i (by omega))
   rw [List.map_set,List.map_set,hx] at e
   rw [e]
   exact ql (i + 1,(nn : Int) - 1 - (i : Int) - 1) (sC rfl (sC rfl (sC rfl sN))) (fun _ h => h) (by show nn - (i + 1) < nn - i; omega) ⟨by show 2 * (i + 1) ≤ nn + 1; omega,by simp only; omega⟩
  refine qP (qB 16 3967) rfl ?_;refine j0 trivial rfl isAgg5 (by repeat constructor) rfl (by rw [show 0 + ((i : Nat) : Int).toNat * 1 = i by omega]; exact g1) ?_;refine qM (Hp.Le.refl _) ?_;refine qO (i := 7) (qB 16 4095) rfl ?_;refine j0 trivial rfl isAgg5 (by repeat constructor) rfl (by rw [show 0 + ((nn : Int) - 1 - (i : Int)).toNat * 1 = nn - 1 - i by omega]; exact g2) ?_;refine qM (Hp.Le.refl _) ?_;refine qT (i := 12) (qB 16 8191) (Hp.Le.refl _) rfl rfl (y8 trivial rfl underlying64 sizeOf5 rfl rfl (by omega) qF) ?_;refine qO (i := 13) (qB 16 16383) rfl ?_;refine qg0 (xs' := (((revd xs i).map (Value.int .u8)).set i (.int .u8 (xs.getD (nn - 1 - i) 0)))) (u := .slice (some ⟨b,0,none⟩) nn cap) trivial rfl rfl rfl sizeOf5 rfl rfl (by repeat constructor) (by decide) (by omega) (by rw [show 0 + ((i : Nat) : Int).toNat * 1 = i by omega]; exact qfn (cs := (revd xs i).map (Value.int .u8)) (i := i) (by omega)) ?_;refine qM (Hp.Le.refl _) ?_;refine qT (i := 14) (qB 16 32767) (Hp.Le.refl _) rfl rfl (y8 trivial rfl underlying64 sizeOf5 rfl rfl (by omega) qF) ?_;refine qO (i := 15) (qB 16 65535) rfl ?_;refine qg0 (xs' := ((((revd xs i).map (Value.int .u8)).set i (.int .u8 (xs.getD (nn - 1 - i) 0))).set (nn - 1 - i) (.int .u8 (xs.getD i 0)))) (u := .slice (some ⟨b,0,none⟩) nn cap) trivial rfl rfl rfl sizeOf5 rfl rfl (by repeat constructor) (by decide) (by omega) (by rw [show 0 + ((nn : Int) - 1 - (i : Int)).toNat * 1 = nn - 1 - i by omega]; exact qfn (cs := ((revd xs i).map (Value.int .u8)).set i (.int .u8 (xs.getD (nn - 1 - i) 0))) (i := nn - 1 - i) (by rw [List.length_set]; omega)) ?_
  refine qM (Hp.Le.refl _) ?_;refine jc (by kernel_rfl) ?_;refine qg (tC (cR ?_));refine oV ?_
  (refine qh trivial rfl rfl rfl ?_ ?_; (omega))
  refine oV ?_
  (refine vp trivial rfl rfl rfl ?_ ?_; (omega))
  iterate 2 refine oV ?_
  refine oN ?_
  have e := congrArg (List.map (Value.int .u8)) (qo8 xs i (by omega))
  rw [List.map_set,List.map_set,hx] at e
  rw [e]
  exact ql (i + 1,(nn : Int) - 1 - (i : Int) - 1) (sC rfl (sC rfl (sC rfl sN))) (fun _ h => h) (by show nn - (i + 1) < nn - i; omega) ⟨by show 2 * (i + 1) ≤ nn + 1; omega,by simp only; omega⟩
 have f1 := h1;try simp only [bl] at f1
 refine qp (qc (qc (qo rfl ?_)));refine ret0 rfl ?_;refine leaf (Ext.refl _ _) (List.Sublist.refl _) ⟨rfl,?_⟩; rw [qx7 _ _ (by omega)]
theorem qya (va : Value) (A : List Nat) {I : Hp} (ha : Ws I va A) (hs : A.length ≤ 2000000) : Fun prog 130 [va] I [] (fun v _ _ => v = .string (decS (val A))) := by
 have hdl := qdi ha.wds hs
 intro w hw
 refine qn _ func130 rfl ntmps130 rfl ?_ hw;refine sR ?_;refine oV ?_;refine nS ?_;refine oV ?_;refine oN (tC (cS (cB ?_)));refine qt (ι := Value × List Nat × List Nat × Value × Hp) [] .nil (fun x => val x.2.1 + (if x.2.2.1.length = 0 then 1 else 0)) (fun x E0 => (0,x.1) :: (3,x.2.2.2.1) :: E0) (fun x => St w [] x.2.2.2.2 [.row x.2.2.2.1 5 1 x.2.2.1.length ((x.2.2.1.map Int.ofNat).map (Value.int .u8))]) (fun x => Ws x.2.2.2.2 x.1 x.2.1 ∧ x.2.1.length ≤ 2000000 ∧ x.2.2.1 ++ qam (val x.2.1) x.2.2.1 = digs (val A) ∧ Ext w.heap.size I x.2.2.2.2) ((va,A,[],.slice none 0 0,I)) (sC rfl (sC rfl sN)) (fun _ h => h.nilRow _ _) (⟨ha,hs,by simp [qam],Ext.refl _ _⟩) ?_;rintro ⟨u,L,out,r,I1⟩ ⟨hu,hL,hd,hx1⟩
 try dsimp only
 simp only at hu hL hd hx1; have hol : out.length ≤ (digs (val A)).length := by rw [← hd,List.length_append]; omega
 refine cS (sR ?_);refine oV ?_;refine oQ call157 rfl (qfu _ _ hu (by omega)) ?_;refine oV ?_;refine' oZ (fun hb10 => ?_) ?_;rotate_left
 ·
  have fb10 := hb10
  try simp only [bl] at fb10
  refine gV hb10 ?_;refine yw (wS rfl rfl hb10) rfl underlying64 rfl (by repeat constructor) ?_;refine gV hb10 ?_;refine oN ?_;exact qa rfl
 refine nT ?_;refine cC rfl (fun h1 => ?_) (fun h1 => ?_)
 ·
  have f1 := h1;try simp only [bl] at f1
  have hgo : 0 < val L ∨ out = [] := by
    rcases f1 with f1 | f1
    · exact .inl (Nat.pos_of_ne_zero fun e => by rw [e] at f1; simp [bitZ] at f1)
    · exact .inr (List.length_eq_zero_iff.1 (by omega))
  rw [qo5 out hgo] at hd
  refine cK (tC (cB (sR ?_)));refine oV ?_;refine oI call158 rfl (qox _ _ 10 hu (by omega) (by decide) (by decide)) ?_;rintro _ I2 hx2 ⟨u2,rfl,hs2⟩;iterate 7 refine oV ?_
  refine nS ?_;iterate 2 refine oV ?_
  refine qc4 trivial rfl rfl rfl (by rw [IntWalk.u32_in _ (by omega)]) ?_;refine ya trivial rfl underlying134 underlying5 rfl (by rw [IntWalk.u8_in _ (by omega)]) ?_;refine oB underlying64 sizeOf5 zeroValue5 fun b25 => ?_;refine oD underlying64 qwz fun v26 => ?_;refine oV ?_;refine nR ?_;iterate 2 refine oV ?_
  refine oN (qg ?_)
  have hl2 : (natW (val L / 10)).length ≤ 2000000 := Nat.le_trans (jl (Nat.div_le_self _ _)) (Nat.le_trans (zz hu.wds) hL)
  have hms : val (natW (val L / 10)) + (if (out ++ [48 + val L % 10]).length = 0 then 1 else 0) < val L + (if out.length = 0 then 1 else 0) := by
    rw [qk,if_neg (by simp)]
    rcases hgo with hgo | hgo
    · omega
    · rw [if_pos (by rw [hgo]; rfl)]; omega
  exact ql (u2,natW (val L / 10),out ++ [48 + val L % 10],v26,I2) (sC rfl (sC rfl sN)) (fun _ h => by simp only [List.map_append,List.length_append]; exact h.sort (by repeat constructor)) hms ⟨hs2,hl2,by simp only; rw [qk,← hd]; simp,hx1.trans hx2 (Nat.le_refl _)⟩
 have f1 := h1;try simp only [bl] at f1
 have hL0 : val L = 0 := qc7.1 (by omega)
 have hne : out ≠ [] := fun e => by rw [e] at f1; simp at f1
 refine qp (qc (qc (qo rfl (tC (cS ?_)))));refine qx8 (by have := List.length_pos_iff.2 hne; omega) (fun b cap hr => ?_)
 subst hr
 refine cR ?_;refine oV ?_;refine oC trivial rfl call159 rfl (qx9 b _ cap (out.map Int.ofNat) (by simp) (List.length_pos_iff.2 hne) (by omega)) (by repeat constructor) ?_;rintro _ _ _ hx3 ⟨rfl,rfl⟩;refine nS ?_;refine oV ?_;refine qu9 (ns := (out.map Int.ofNat).reverse) trivial rfl underlying64 underlying5 underlying9 rfl (by repeat constructor) (by omega) ?_;refine oV ?_;refine nE ?_;refine ret1 rfl rfl ?_;refine leaf hx1 (List.nil_sublist _) (congrArg Value.string ?_)
 unfold qam at hd
 rw [if_pos ⟨hL0,hne⟩,List.append_nil] at hd
 unfold decS decL
 rw [← hd,List.map_reverse]
theorem qhj (va : Value) (A : List Nat) {I : Hp} (ha : Ws I va A) (hs : A.length ≤ 2000000) : Fun prog 176 [va] I [] (fun v _ _ => v = .int .i64 ((digs (val A)).length : Nat)) := by
 have hdl := qdi ha.wds hs
 have hsz := j7 (val A)
 intro w hw
 refine qn _ func176 rfl ntmps176 rfl ?_ hw;refine sR ?_;refine oV ?_;refine nS ?_;refine oV ?_;refine oQ call130 rfl (qya _ _ ha hs) ?_;refine yj trivial rfl underlying9 rfl ?_;refine oV ?_;refine nE ?_;refine ret1 rfl rfl ?_;refine qe (congrArg (Value.int .i64) ?_); omega
def yb (neg : Bool) (A B : List Nat) : Bool := qbm neg A B && decide ((digs (val A)).length ≤ 40) && decide ((digs (val B)).length ≤ 40)
theorem qyb (neg : Bool) (va vb : Value) (A B : List Nat) {I : Hp} (ha : Ws I va A) (hb : Ws I vb B) (hs : A.length ≤ 2000000) (hs2 : B.length ≤ 2000000) : Fun prog 143 [.agg #[.bool neg,va,vb]] I [] (fun v _ _ => v = .bool (yb neg A B)) := by
 intro w hw
 refine qn _ func143 rfl ntmps143 rfl ?_ hw;refine sR ?_;refine vh trivial rfl rfl rfl (fun b1 => ?_);refine oV ?_;refine nS ?_;refine oA isAgg35 sizeOf35 ?_;refine oQ call175 rfl (qo4 neg _ _ _ _ ha hb (by omega) (by omega)) ?_;refine' oY (fun hb5 => ?_) ?_;rotate_left
 ·
  have fb5 := hb5
  try simp only [bl] at fb5
  refine gF hb5 1 underlying35 sizeOf33 ?_;refine gL hb5 isAgg33 ?_;refine yd (wS rfl rfl hb5) rfl call176 rfl (qhj _ _ ha hs) ?_;refine gV hb5 ?_;refine oN ?_;exact qa rfl
 refine' oY (fun hb11 => ?_) ?_;rotate_left
 ·
  have fb11 := hb11
  try simp only [bl] at fb11
  refine gF hb11 2 underlying35 sizeOf33 ?_;refine gL hb11 isAgg33 ?_;refine yd (wS rfl rfl hb11) rfl call176 rfl (qhj _ _ hb hs2) ?_;refine gV hb11 ?_;refine oN ?_;exact qa rfl
 refine oV ?_;refine nE ?_;refine ret1 rfl rfl ?_;refine qe (congrArg Value.bool ?_); unfold yb; rw [Bool.eq_iff_iff]; simp only [Bool.and_eq_true,decide_eq_true_eq]; constructor <;> (rintro ⟨⟨h1,h2⟩,h3⟩; exact ⟨⟨h1,by omega⟩,by omega⟩)
structure Rch (s : ByteArray) (i : Nat) (l c : Int) : Prop where
 le : i ≤ s.size
 bl : 1 ≤ l ∧ l ≤ i + 1
 bc : 1 ≤ c ∧ c ≤ i + 1
 go : ∀ at_ : Int,(i : Int) ≤ at_ → qr s at_ = y9 s at_ (s.size - i) i l c
theorem Rch.start (s : ByteArray) : Rch s 0 1 1 := ⟨Nat.zero_le _,by simp,by simp,fun _ _ => rfl⟩
theorem Rch.step {s : ByteArray} {i : Nat} {l c l' c' : Int} (h : Rch s i l c) (hi : i < s.size) (hl : (((Utf8.decode s i).1 : Int) = 10 ∧ l' = l + 1 ∧ c' = 1) ∨ (((Utf8.decode s i).1 : Int) ≠ 10 ∧ l' = l ∧ c' = c + 1)) : Rch s (i + (Utf8.decode s i).2) l' c' := by
 have hw := yx s i
 have hin := zx s i hi
 have hbl := h.bl; have hbc := h.bc
 refine ⟨by omega,by omega,by omega,fun at_ ha => ?_⟩
 rw [h.go at_ (by omega)]
 exact qwg hi (by omega) hl
theorem Rch.here {s : ByteArray} {i : Nat} {l c : Int} (h : Rch s i l c) {at_ : Int} (h1 : (i : Int) ≤ at_) (h2 : at_ < ((i + (Utf8.decode s i).2 : Nat) : Int) ∨ s.size ≤ i) : qr s at_ = (l,c) := by
 rw [h.go at_ h1]
 rcases Nat.lt_or_ge i s.size with hi | hi
 · exact qwh hi (by omega)
 · exact qjl hi
theorem qfy (s : ByteArray) : qr s 0 = (1,1) := by
 have hw := yx s 0
 exact (Rch.start s).here (Int.le_refl _) (.inl (by omega))
theorem qco (s t : ByteArray) (j : Nat) (h : j < s.size) : (s ++ t).get! j = s.get! j := by
 have h' : j < s.data.size := h
 show (s ++ t).data[j]! = s.data[j]!
 rw [ByteArray.data_append,getElem!_def,getElem!_def,Array.getElem?_append_left h']
theorem qjy (s t : ByteArray) (j : Nat) : (s ++ t).get! (s.size + j) = t.get! j := by
 show (s ++ t).data[s.data.size + j]! = t.data[j]!
 rw [ByteArray.data_append,getElem!_def,getElem!_def,Array.getElem?_append_right (by omega)]
 simp
theorem qyc (s t : ByteArray) : (s ++ t).extract s.size (s ++ t).size = t := by
 rw [ByteArray.size_append]
 exact ByteArray.extract_append_eq_right rfl rfl
theorem qjz (s : ByteArray) (at_ : Int) : ∀ (f i : Nat) (l c : Int), l ≤ (y9 s at_ f i l c).1 ∧ (y9 s at_ f i l c).1 ≤ l + f
 | 0,i,l,c => by simp [y9]
 | f + 1, i, l, c => by
   simp only [y9]
   have h1 := qjz s at_ f (i + (Utf8.decode s i).2) (l + 1) 1
   have h2 := qjz s at_ f (i + (Utf8.decode s i).2) l (c + 1)
   repeat' split
   all_goals first | (simp only; omega) | omega
theorem qyd (s : ByteArray) (at_ : Int) : 1 ≤ (qr s at_).1 ∧ (qr s at_).1 ≤ 1 + s.size := qjz s at_ s.size 0 1 1
end Go.Proofs.YtfcmhcaggdakbaaGreatDoor
namespace Go.Tw
open Go
def kAt (s : ByteArray) (i : Nat) : Int := yo (Utf8.decode s i).1
def z6 (p : Int → Bool) (s : ByteArray) : Nat → Nat → Nat
 | 0,i => s.size
 | f + 1,i => if s.size ≤ i then s.size else if p (kAt s i) then z6 p s f (i + (Utf8.decode s i).2) else i
def qf (p : Int → Bool) (s : ByteArray) (i : Nat) : Nat := z6 p s (s.size - i) i
def qj (k : Int) : Bool := k == 2
def yk (k : Int) : Bool := k == 1 || k == 2
def v6 (k : Int) : Bool := k == 3
def yh (s : ByteArray) : Nat → Nat → Nat
 | 0,i => s.size
 | f + 1,i => if s.size ≤ i then s.size else if (s.get! i).toNat = 124 then i else yh s f (i + 1)
def cutZ (s : ByteArray) : Nat := yh s s.size 0
def jm (s : ByteArray) : Bool := decide (1 ≤ s.size) && decide (s.size ≤ 40) && decide (qf qj s 0 = s.size) && (decide (s.size = 1) || decide ((s.get! 0).toNat ≠ 48))
def numZ (s : ByteArray) : Bool :=
 if cutZ s = s.size then jm s
 else jm (s.extract 0 (cutZ s)) && jm (s.extract (cutZ s + 1) s.size) && !((s.extract (cutZ s + 1) s.size).toList == (ByteArray.mk #[48]).toList)
def vg (s : ByteArray) (i : Nat) : Nat :=
 if qf qj s i < s.size ∧ (s.get! (qf qj s i)).toNat = 124 ∧ qf qj s i + 1 < qf qj s (qf qj s i + 1) then qf qj s (qf qj s i + 1) else qf qj s i
structure TokR where
 kind : Int
 text : ByteArray
 stop : Nat
 err : Int
def tokZ (s : ByteArray) (i : Nat) : TokR :=
 if kAt s i = 1 then
   if qf yk s i - i > 40 then ⟨0,⟨#[]⟩,qf yk s i,4⟩ else ⟨0,s.extract i (qf yk s i),qf yk s i,0⟩
 else if kAt s i = 2 then
   if cutZ (s.extract i (vg s i)) > 40 ∨ (s.extract i (vg s i)).size - cutZ (s.extract i (vg s i)) > 41 then ⟨0,⟨#[]⟩,vg s i,4⟩
   else if numZ (s.extract i (vg s i)) then ⟨1,s.extract i (vg s i),vg s i,0⟩ else ⟨0,⟨#[]⟩,vg s i,5⟩
 else if kAt s i = 4 then ⟨2,s.extract i (i + (Utf8.decode s i).2),i + (Utf8.decode s i).2,0⟩
 else ⟨0,⟨#[]⟩,i,5⟩
structure Tok where
 kind : Int
 text : ByteArray
 line : Int
 col : Int
def Tok.cells (t : Tok) : List Value := [.int .i64 t.kind,.string t.text,.int .i64 t.line,.int .i64 t.col]
structure LexR where
 toks : List Tok
 line : Int
 col : Int
 err : Int
def qbn (s : ByteArray) : Nat → Nat → List Tok → LexR
 | 0,_,out => ⟨out,0,0,0⟩
 | f + 1, i, out =>
   if s.size ≤ i then ⟨out,0,0,0⟩
   else if kAt s i = 3 then qbn s f (i + 1) out
   else if 4000 ≤ out.length then ⟨[],(qr s i).1,(qr s i).2,4⟩
   else if (tokZ s i).err ≠ 0 then ⟨[],(qr s i).1,(qr s i).2,(tokZ s i).err⟩
   else qbn s f (tokZ s i).stop (out ++ [⟨(tokZ s i).kind,(tokZ s i).text,(qr s i).1,(qr s i).2⟩])
def lexZ (s : ByteArray) : LexR := if 60000 < s.size then ⟨[],1,1,4⟩ else qbn s s.size 0 []
theorem qo9 (p : Int → Bool) (s : ByteArray) : ∀ (f g i : Nat), s.size ≤ i + f → s.size ≤ i + g → z6 p s f i = z6 p s g i
 | 0,0,i,_,_ => rfl
 | 0,g + 1,i,h,_ => by simp only [z6]; rw [if_pos (by omega)]
 | f + 1,0,i,_,h => by simp only [z6]; rw [if_pos (by omega)]
 | f + 1, g + 1, i, h1, h2 => by
   have hw := yx s i
   simp only [z6]
   rw [qo9 p s f g (i + (Utf8.decode s i).2) (by omega) (by omega)]
theorem qan {p : Int → Bool} {s : ByteArray} {i : Nat} (h : s.size ≤ i) : qf p s i = s.size := by
 unfold qf
 cases hf : s.size - i with
 | zero => rfl
 | succ f => omega
theorem qao {p : Int → Bool} {s : ByteArray} {i : Nat} (h : i < s.size) (hp : p (kAt s i) = false) : qf p s i = i := by
 unfold qf
 obtain ⟨f,hf⟩ : ∃ f,s.size - i = f + 1 := ⟨s.size - i - 1,by omega⟩
 rw [hf]
 simp only [z6]
 rw [if_neg (by omega),hp]
 rfl
theorem qap {p : Int → Bool} {s : ByteArray} {i : Nat} (h : i < s.size) (hp : p (kAt s i) = true) : qf p s i = qf p s (i + (Utf8.decode s i).2) := by
 have hw := yx s i
 unfold qf
 obtain ⟨f,hf⟩ : ∃ f,s.size - i = f + 1 := ⟨s.size - i - 1,by omega⟩
 rw [hf]
 conv => lhs; simp only [z6]
 rw [if_neg (by omega),if_pos hp]
 exact qo9 p s _ _ _ (by omega) (by omega)
inductive Hops (s : ByteArray) (a : Nat) : Nat → Prop
 | refl : Hops s a a
 | step {i : Nat} : Hops s a i → i < s.size → Hops s a (i + (Utf8.decode s i).2)
theorem Hops.trans {s : ByteArray} {a b c : Nat} (h : Hops s a b) (h2 : Hops s b c) : Hops s a c := by
 induction h2 with
 | refl => exact h
 | step _ hi ih => exact ih.step hi
theorem Hops.ge {s : ByteArray} {a b : Nat} (h : Hops s a b) : a ≤ b := by
 induction h with
 | refl => exact Nat.le_refl _
 | step _ _ ih => omega
theorem Hops.le {s : ByteArray} {a b : Nat} (h : Hops s a b) (ha : a ≤ s.size) : b ≤ s.size := by
 induction h with
 | refl => exact ha
 | step _ hi ih => exact zx s _ hi
theorem qcp (p : Int → Bool) (s : ByteArray) : ∀ (f i : Nat), s.size ≤ i + f → i ≤ s.size → Hops s i (qf p s i)
 | 0,i,h,hi => by rw [qan (by omega),show i = s.size by omega]; exact .refl
 | f + 1, i, h, hi => by
   rcases Nat.lt_or_ge i s.size with hlt | hge
   · have hw := yx s i
     have hin := zx s i hlt
     cases hp : p (kAt s i) with
     | false => rw [qao hlt hp]; exact .refl
     | true =>
       rw [qap hlt hp]
       exact (Hops.refl.step hlt).trans (qcp p s f _ (by omega) hin)
   · rw [qan hge,show i = s.size by omega]; exact .refl
theorem qdj (p : Int → Bool) (s : ByteArray) (i : Nat) (hi : i ≤ s.size) : i ≤ qf p s i := (qcp p s s.size i (by omega) hi).ge
theorem qaq (p : Int → Bool) (s : ByteArray) (i : Nat) (hi : i ≤ s.size) : qf p s i ≤ s.size := (qcp p s s.size i (by omega) hi).le hi
theorem qj0 (p : Int → Bool) (s : ByteArray) (a : Nat) (ha : a ≤ s.size) : ∀ (f i : Nat), z6 p (s.extract a s.size) f i + a = z6 p s f (a + i)
 | 0,i => by simp only [z6]; simp; omega
 | f + 1, i => by
   have hs : (s.extract a s.size).size = s.size - a := by simp
   have hk : kAt (s.extract a s.size) i = kAt s (a + i) := by unfold kAt; rw [qfs s a i ha]
   simp only [z6]
   rw [hk,qfs s a i ha,hs]
   by_cases h1 : s.size ≤ a + i
   · rw [if_pos h1,if_pos (by omega)]; omega
   · rw [if_neg h1, if_neg (by omega)]
     split
     · have := qj0 p s a ha f (i + (Utf8.decode s (a + i)).2)
       rw [← Nat.add_assoc] at this
       exact this
     · omega
theorem qhk (p : Int → Bool) (s : ByteArray) (a : Nat) (ha : a ≤ s.size) : qf p (s.extract a s.size) 0 + a = qf p s a := by
 have h := qj0 p s a ha (s.size - a) 0
 unfold qf
 have hs : (s.extract a s.size).size = s.size - a := by simp
 rw [hs]
 exact h
theorem qj1 {s : ByteArray} {i : Nat} (h : (Utf8.decode s i).1 < 128) : (Utf8.decode s i).2 = 1 ∧ (Utf8.decode s i).1 = (s.get! i).toNat := by
 rw [Lib.decode_at] at h ⊢
 unfold Lib.decodeN at h ⊢
 by_cases h0 : (s.get! i).toNat < 128
 · rw [if_pos h0]; exact ⟨rfl,rfl⟩
 · rw [if_neg h0] at h
   exfalso
   revert h
   repeat' split
   all_goals (simp only; omega)
theorem decode_ascii {s : ByteArray} {i : Nat} (h : (s.get! i).toNat < 128) : Utf8.decode s i = ((s.get! i).toNat,1) := by
 rw [Lib.decode_at]; unfold Lib.decodeN; rw [if_pos h]
theorem qpa {r : Int} : yo r = 2 ↔ 48 ≤ r ∧ r ≤ 57 := by
 unfold yo
 repeat' split
 all_goals omega
theorem qye {r : Int} (h : yo r = 3) : r = 9 ∨ r = 10 ∨ r = 13 ∨ r = 32 := by
 unfold yo at h
 split at h
 · omega
 · split at h
   · omega
   · split at h
     · assumption
     · split at h <;> omega
theorem qyf {r : Int} (h : yo r = 4) : r = 43 ∨ r = 45 ∨ r = 42 ∨ r = 47 ∨ r = 94 ∨ r = 40 ∨ r = 41 ∨ r = 61 ∨ r = 59 ∨ r = 44 := by
 unfold yo at h
 split at h
 · omega
 · split at h
   · omega
   · split at h
     · omega
     · split at h
       · assumption
       · omega
theorem qpb {s : ByteArray} {i : Nat} (h : kAt s i = 2) : (Utf8.decode s i).2 = 1 ∧ 48 ≤ (s.get! i).toNat ∧ (s.get! i).toNat ≤ 57 := by
 have h1 := qpa.1 h
 have h2 := qj1 (s := s) (i := i) (by omega)
 exact ⟨h2.1,by omega,by omega⟩
theorem qhl {s : ByteArray} {i : Nat} (h : kAt s i = 3) : (Utf8.decode s i).2 = 1 := by
 have h1 := qye h
 exact (qj1 (s := s) (i := i) (by omega)).1
theorem qpc {s : ByteArray} {i : Nat} (h : kAt s i = 4) : (Utf8.decode s i).2 = 1 := by
 have h1 := qyf h
 exact (qj1 (s := s) (i := i) (by omega)).1
theorem qpd (s : ByteArray) : ∀ (f g i : Nat), s.size ≤ i + f → s.size ≤ i + g → yh s f i = yh s g i
 | 0,0,i,_,_ => rfl
 | 0,g + 1,i,h,_ => by simp only [yh]; rw [if_pos (by omega)]
 | f + 1,0,i,_,h => by simp only [yh]; rw [if_pos (by omega)]
 | f + 1, g + 1, i, h1, h2 => by
   simp only [yh]
   rw [qpd s f g (i + 1) (by omega) (by omega)]
theorem qpe {s : ByteArray} {i : Nat} (h : i < s.size) (h1 : (s.get! i).toNat = 124) : yh s (s.size - i) i = i := by
 obtain ⟨f,hf⟩ : ∃ f,s.size - i = f + 1 := ⟨s.size - i - 1,by omega⟩
 rw [hf]; simp only [yh]; rw [if_neg (by omega),if_pos h1]
theorem qpf {s : ByteArray} {i : Nat} (h : i < s.size) (h1 : ¬ (s.get! i).toNat = 124) : yh s (s.size - i) i = yh s (s.size - (i + 1)) (i + 1) := by
 obtain ⟨f,hf⟩ : ∃ f,s.size - i = f + 1 := ⟨s.size - i - 1,by omega⟩
 rw [hf]; conv => lhs; simp only [yh]
 rw [if_neg (by omega),if_neg h1]
 exact qpd s _ _ _ (by omega) (by omega)
theorem qpg {s : ByteArray} {f i : Nat} (h : s.size ≤ i) : yh s f i = s.size := by
 cases f with
 | zero => rfl
 | succ f => simp only [yh]; rw [if_pos h]
theorem qj2 (s : ByteArray) : ∀ (f i : Nat), yh s f i ≤ s.size
 | 0,i => Nat.le_refl _
 | f + 1, i => by
   simp only [yh]
   repeat' split
   · exact Nat.le_refl _
   · omega
   · exact qj2 s f _
theorem qbo (s : ByteArray) : cutZ s ≤ s.size := qj2 s _ _
theorem qhm (s : ByteArray) (i : Nat) (hi : i ≤ s.size) : i ≤ vg s i ∧ vg s i ≤ s.size := by
 have h1 := qdj qj s i hi
 have h2 := qaq qj s i hi
 unfold vg
 split
 · rename_i h
   have h3 := qaq qj s (qf qj s i + 1) (by omega)
   omega
 · omega
theorem qcq {s : ByteArray} {i : Nat} (hi : i < s.size) (h : (tokZ s i).err = 0) : i < (tokZ s i).stop ∧ (tokZ s i).stop ≤ s.size := by
 have hw := yx s i
 have hin := zx s i hi
 unfold tokZ at h ⊢
 by_cases h1 : kAt s i = 1
 · rw [if_pos h1] at h ⊢
   have e := qap (p := yk) hi (by unfold yk; rw [h1]; rfl)
   have h3 := qdj yk s (i + (Utf8.decode s i).2) hin
   have h4 := qaq yk s i (by omega)
   split
   · rename_i h2; rw [if_pos h2] at h; simp at h
   · simp only; omega
 · rw [if_neg h1] at h ⊢
   by_cases h2 : kAt s i = 2
   · rw [if_pos h2] at h ⊢
     have e := qap (p := qj) hi (by unfold qj; rw [h2]; rfl)
     have h3 := qdj qj s (i + (Utf8.decode s i).2) hin
     have hn : i < vg s i := by
       unfold vg
       split
       · rename_i hh
         omega
       · omega
     have hle := (qhm s i (by omega)).2
     split
     · rename_i h5; rw [if_pos h5] at h; simp at h
     · rename_i h5
       rw [if_neg h5] at h
       split
       · exact ⟨hn,hle⟩
       · rename_i h6; rw [if_neg h6] at h; simp at h
   · rw [if_neg h2] at h ⊢
     by_cases h3 : kAt s i = 4
     · rw [if_pos h3]; simp only; omega
     · rw [if_neg h3] at h; simp at h
theorem qdk {s : ByteArray} {f i : Nat} {out : List Tok} (h : s.size ≤ i) : qbn s f i out = ⟨out,0,0,0⟩ := by
 cases f with
 | zero => rfl
 | succ f => simp only [qbn]; rw [if_pos h]
theorem qhn (s : ByteArray) : ∀ (f g i : Nat) (out : List Tok), s.size ≤ i + f → s.size ≤ i + g → qbn s f i out = qbn s g i out
 | 0,g,i,out,h,_ => by rw [qdk (by omega),qdk (by omega)]
 | f + 1,0,i,out,_,h => by rw [qdk (by omega),qdk (by omega)]
 | f + 1, g + 1, i, out, h1, h2 => by
   by_cases hi : s.size ≤ i
   · rw [qdk hi,qdk hi]
   · simp only [qbn]
     rw [if_neg hi,if_neg hi]
     by_cases h3 : kAt s i = 3
     · rw [if_pos h3,if_pos h3]; exact qhn s f g (i + 1) out (by omega) (by omega)
     · rw [if_neg h3, if_neg h3]
       by_cases h4 : 4000 ≤ out.length
       · rw [if_pos h4,if_pos h4]
       · rw [if_neg h4, if_neg h4]
         by_cases h5 : (tokZ s i).err ≠ 0
         · rw [if_pos h5,if_pos h5]
         · rw [if_neg h5, if_neg h5]
           have h6 := qcq (s := s) (i := i) (by omega) (by simpa using h5)
           exact qhn s f g _ _ (by omega) (by omega)
def z7 (s : ByteArray) (i : Nat) (out : List Tok) : LexR := qbn s (s.size - i) i out
theorem qj3 {s : ByteArray} {i : Nat} {out : List Tok} (h : s.size ≤ i) : z7 s i out = ⟨out,0,0,0⟩ := qdk h
theorem j8 {s : ByteArray} {i : Nat} {out : List Tok} (h : i < s.size) : z7 s i out =
   if kAt s i = 3 then z7 s (i + 1) out
   else if 4000 ≤ out.length then ⟨[],(qr s i).1,(qr s i).2,4⟩
   else if (tokZ s i).err ≠ 0 then ⟨[],(qr s i).1,(qr s i).2,(tokZ s i).err⟩
   else z7 s (tokZ s i).stop (out ++ [⟨(tokZ s i).kind,(tokZ s i).text,(qr s i).1,(qr s i).2⟩]) := by
 unfold z7
 obtain ⟨f,hf⟩ : ∃ f,s.size - i = f + 1 := ⟨s.size - i - 1,by omega⟩
 rw [hf]
 conv => lhs; simp only [qbn]
 rw [if_neg (by omega)]
 by_cases h3 : kAt s i = 3
 · rw [if_pos h3,if_pos h3]; exact qhn s _ _ _ _ (by omega) (by omega)
 · rw [if_neg h3, if_neg h3]
   by_cases h4 : 4000 ≤ out.length
   · rw [if_pos h4,if_pos h4]
   · rw [if_neg h4, if_neg h4]
     by_cases h5 : (tokZ s i).err ≠ 0
     · rw [if_pos h5,if_pos h5]
     · rw [if_neg h5, if_neg h5]
       have h6 := qcq (s := s) (i := i) (by omega) (by simpa using h5)
       exact qhn s _ _ _ _ (by omega) (by omega)
theorem qj4 {s : ByteArray} (h : s.size ≤ 60000) : lexZ s = z7 s 0 [] := by unfold lexZ; rw [if_neg (by omega)]; rfl
theorem qyg (out : List Tok) (t : Tok) : ((out ++ [t]).map Tok.cells).flatten = (out.map Tok.cells).flatten ++ t.cells := by simp
theorem qyh (out : List Tok) : ∀ c ∈ out.map Tok.cells,c.length = 4 := by
 intro c hc
 obtain ⟨t,_,rfl⟩ := List.mem_map.1 hc
 rfl
end Go.Tw
namespace Go.Proofs.YtfcmhcaggdakbaaGreatDoor
open Go Go.Tw
theorem qyi (n n' b0 b1 b2 b3 c1 c2 c3 : Nat) (hn : n' ≤ n) (hw : (Lib.decodeN n b0 b1 b2 b3).2 ≤ n') (h1 : 1 < n' → c1 = b1) (h2 : 2 < n' → c2 = b2) (h3 : 3 < n' → c3 = b3) :
   Lib.decodeN n' b0 c1 c2 c3 = Lib.decodeN n b0 b1 b2 b3 := by
 unfold Lib.decodeN at hw ⊢
 by_cases g0 : b0 < 128
 · simp only [if_pos g0]
 · simp only [if_neg g0] at hw ⊢
   by_cases g1 : b0 / 32 = 6 ∧ (1 < n ∧ b1 / 64 = 2)
   · rw [if_pos g1] at hw ⊢
     by_cases k1 : 1 < n'
     · rw [h1 k1,if_pos ⟨g1.1,k1,g1.2.2⟩]
     · rw [if_neg (by omega), if_neg (by omega), if_neg (by omega)]
       split at hw
       · simp only at hw; omega
       · rename_i hx; rw [if_neg hx]
   · rw [if_neg g1] at hw ⊢
     have q1 : ¬ (b0 / 32 = 6 ∧ (1 < n' ∧ c1 / 64 = 2)) := by
       by_cases k1 : 1 < n'
       · rw [h1 k1]; omega
       · omega
     rw [if_neg q1]
     by_cases g2 : b0 / 16 = 14 ∧ (1 < n ∧ b1 / 64 = 2) ∧ (2 < n ∧ b2 / 64 = 2)
     · rw [if_pos g2] at hw ⊢
       by_cases k2 : 2 < n'
       · rw [h1 (by omega),h2 k2,if_pos ⟨g2.1,⟨by omega,g2.2.1.2⟩,k2,g2.2.2.2⟩]
       · rw [if_neg (by omega), if_neg (by omega)]
         split at hw
         · simp only at hw; omega
         · rename_i hx; rw [if_neg hx]
     · rw [if_neg g2] at hw ⊢
       have q2 : ¬ (b0 / 16 = 14 ∧ (1 < n' ∧ c1 / 64 = 2) ∧ (2 < n' ∧ c2 / 64 = 2)) := by
         by_cases k2 : 2 < n'
         · rw [h1 (by omega),h2 k2]; omega
         · omega
       rw [if_neg q2]
       by_cases g3 : b0 / 8 = 30 ∧ (1 < n ∧ b1 / 64 = 2) ∧ (2 < n ∧ b2 / 64 = 2) ∧ (3 < n ∧ b3 / 64 = 2)
       · rw [if_pos g3] at hw ⊢
         by_cases k3 : 3 < n'
         · rw [h1 (by omega),h2 (by omega),h3 k3,if_pos ⟨g3.1,⟨by omega,g3.2.1.2⟩,⟨by omega,g3.2.2.1.2⟩,k3,g3.2.2.2.2⟩]
         · rw [if_neg (by omega)]
           split at hw
           · simp only at hw; omega
           · rename_i hx; rw [if_neg hx]
       · rw [if_neg g3]
         rw [if_neg]
         by_cases k3 : 3 < n'
         · rw [h1 (by omega),h2 (by omega),h3 k3]; omega
         · omega
theorem qeh (s : ByteArray) (a b j : Nat) (hb : b ≤ s.size) (hj : a + j < b) : (s.extract a b).get! j = s.get! (a + j) := by
 have h1 : j < (s.extract a b).data.size := by show j < (s.extract a b).size; rw [ByteArray.size_extract]; omega
 have h2 : a + j < s.data.size := by show a + j < s.size; omega
 show (s.extract a b).data[j]! = s.data[a + j]!
 rw [getElem!_pos (s.extract a b).data j h1,getElem!_pos s.data (a + j) h2]
 simp
theorem qph (s : ByteArray) (a b j : Nat) (hb : b ≤ s.size) (hj : a + j < b) (hw : a + j + (Utf8.decode s (a + j)).2 ≤ b) : Utf8.decode (s.extract a b) j = Utf8.decode s (a + j) := by
 have hs : (s.extract a b).size = b - a := by rw [ByteArray.size_extract]; omega
 rw [Lib.decode_at] at hw
 rw [Lib.decode_at,Lib.decode_at,qeh s a b j hb hj,hs]
 refine qyi _ _ _ _ _ _ _ _ _ (by omega) (by omega) (fun h => ?_) (fun h => ?_) (fun h => ?_)
 · rw [qeh s a b (j + 1) hb (by omega)]; rfl
 · rw [qeh s a b (j + 2) hb (by omega)]; rfl
 · rw [qeh s a b (j + 3) hb (by omega)]; rfl
theorem qpi {s : ByteArray} {b : Nat} (h : Hops s 0 b) : Rch s b (qr s b).1 (qr s b).2 := by
 have : ∃ l c,Rch s b l c := by
   induction h with
   | refl => exact ⟨1,1,Rch.start s⟩
   | @step i _ hi ih =>
     obtain ⟨l,c,hr⟩ := ih
     by_cases h10 : ((Utf8.decode s i).1 : Int) = 10
     · exact ⟨_,_,hr.step hi (.inl ⟨h10,rfl,rfl⟩)⟩
     · exact ⟨_,_,hr.step hi (.inr ⟨h10,rfl,rfl⟩)⟩
 obtain ⟨l,c,hr⟩ := this
 have hw := yx s b
 have e := hr.here (at_ := b) (Int.le_refl _) (by
   rcases Nat.lt_or_ge b s.size with h1 | h1
   · exact .inl (by omega)
   · exact .inr h1)
 rw [e]
 exact hr
theorem qho {s : ByteArray} {i : Nat} (h : Hops s 0 i) (hi : i < s.size) : qr s (i + (Utf8.decode s i).2 : Nat) = if (Utf8.decode s i).1 = 10 then ((qr s i).1 + 1,1) else ((qr s i).1,(qr s i).2 + 1) := by
 have hr := qpi h
 have hw := yx s (i + (Utf8.decode s i).2)
 have hor : ((i + (Utf8.decode s i).2 : Nat) : Int) < ((i + (Utf8.decode s i).2 + (Utf8.decode s (i + (Utf8.decode s i).2)).2 : Nat) : Int) ∨ s.size ≤ i + (Utf8.decode s i).2 := .inl (by omega)
 by_cases h10 : (Utf8.decode s i).1 = 10
 · rw [if_pos h10]
   exact (hr.step hi (.inl ⟨by omega,rfl,rfl⟩)).here (Int.le_refl _) hor
 · rw [if_neg h10]
   exact (hr.step hi (.inr ⟨by omega,rfl,rfl⟩)).here (Int.le_refl _) hor
theorem qpj {s : ByteArray} {a B : Nat} (h0 : Hops s 0 a) (hB : B ≤ s.size) {b : Nat} (h : Hops s a b) : b ≤ B → (qr s a).1 ≤ (qr s b).1 ∧
   Rch (s.extract a B) (b - a) ((qr s b).1 - (qr s a).1 + 1) (if (qr s b).1 = (qr s a).1 then (qr s b).2 - (qr s a).2 + 1 else (qr s b).2) := by
 induction h with
 | refl =>
   intro _
   refine ⟨Int.le_refl _,?_⟩
   rw [if_pos rfl,Nat.sub_self,Int.sub_self,Int.sub_self]
   exact Rch.start _
 | @step i hs hi ih =>
   intro hb
   have hw := yx s i
   have hai := hs.ge
   obtain ⟨h1,hr⟩ := ih (by omega)
   have hsz : (s.extract a B).size = B - a := by rw [ByteArray.size_extract]; omega
   have hd : Utf8.decode (s.extract a B) (i - a) = Utf8.decode s i := by
     have := qph s a B (i - a) hB (by omega) (by rw [show a + (i - a) = i by omega]; exact hb)
     rw [show a + (i - a) = i by omega] at this
     exact this
   have hp := qho (h0.trans hs) hi
   have e : i + (Utf8.decode s i).2 - a = (i - a) + (Utf8.decode (s.extract a B) (i - a)).2 := by rw [hd]; omega
   rw [e]
   by_cases h10 : (Utf8.decode s i).1 = 10
   · rw [if_pos h10] at hp
     rw [hp]
     refine ⟨by show _ ≤ (qr s i).1 + 1; omega,?_⟩
     rw [if_neg (by show ¬ (qr s i).1 + 1 = _; omega)]
     exact hr.step (by omega) (.inl ⟨by rw [hd]; omega,by show (qr s i).1 + 1 - _ + 1 = _; omega,rfl⟩)
   · rw [if_neg h10] at hp
     rw [hp]
     refine ⟨h1,?_⟩;refine hr.step (by omega) (.inr ⟨by rw [hd]; omega,rfl,?_⟩)
     show (if (qr s i).1 = _ then (qr s i).2 + 1 - _ + 1 else (qr s i).2 + 1) = _
     split <;> omega
theorem qyj {s : ByteArray} {a b : Nat} (h : Hops s a b) (h0 : Hops s 0 a) (hb : b ≤ s.size) :
   (1 ≤ (qr (s.extract a b) ((b - a : Nat) : Int)).1 ∧ (qr (s.extract a b) ((b - a : Nat) : Int)).1 ≤ 1 + s.size) ∧ (1 ≤ (qr (s.extract a b) ((b - a : Nat) : Int)).2 ∧ (qr (s.extract a b) ((b - a : Nat) : Int)).2 ≤ 1 + s.size) ∧
   qr s b = if (qr (s.extract a b) ((b - a : Nat) : Int)).1 > 1 then ((qr s a).1 + (qr (s.extract a b) ((b - a : Nat) : Int)).1 - 1,(qr (s.extract a b) ((b - a : Nat) : Int)).2) else ((qr s a).1,(qr s a).2 + (qr (s.extract a b) ((b - a : Nat) : Int)).2 - 1) := by
 obtain ⟨h1,hr⟩ := qpj h0 hb h (Nat.le_refl _)
 have hge := h.ge
 have hsz : (s.extract a b).size = b - a := by rw [ByteArray.size_extract]; omega
 have e := hr.here (at_ := ((b - a : Nat) : Int)) (Int.le_refl _) (.inr (by omega))
 have hbl := hr.bl
 have hbc := hr.bc
 rw [e]
 refine ⟨by simp only; omega,by simp only; omega,?_⟩
 simp only
 by_cases h2 : (qr s b).1 = (qr s a).1
 · rw [if_neg (by omega), if_pos h2]
   exact Prod.ext h2 (by simp only; omega)
 · rw [if_pos (by omega), if_neg h2]
   exact Prod.ext (by simp only; omega) rfl
theorem qei {s : ByteArray} {i : Nat} (hi : i < s.size) (h : (tokZ s i).err = 0) : Hops s i (tokZ s i).stop := by
 unfold tokZ at h ⊢
 by_cases h1 : kAt s i = 1
 · rw [if_pos h1] at h ⊢
   split <;> exact qcp yk s s.size i (by omega) (by omega)
 · rw [if_neg h1] at h ⊢
   by_cases h2 : kAt s i = 2
   · rw [if_pos h2] at h ⊢
     have hn : Hops s i (vg s i) := by
       have hd := qcp qj s s.size i (by omega) (by omega)
       unfold vg
       split
       · rename_i hh
         have hstep := (Hops.refl (s := s) (a := qf qj s i)).step hh.1
         rw [Go.Tw.decode_ascii (s := s) (i := qf qj s i) (by omega)] at hstep
         exact (hd.trans hstep).trans (qcp qj s s.size _ (by omega) (by omega))
       · exact hd
     split
     · exact hn
     · split <;> exact hn
   · rw [if_neg h2] at h ⊢
     by_cases h3 : kAt s i = 4
     · rw [if_pos h3]; exact Hops.refl.step hi
     · rw [if_neg h3]; exact Hops.refl
theorem qpk (s : ByteArray) (out : List Tok) : ∀ (f i : Nat), s.size ≤ i + f → i ≤ s.size → z7 s i out = z7 s (qf v6 s i) out
 | 0,i,h,hi => by rw [qan (by omega),show i = s.size by omega]
 | f + 1, i, h, hi => by
   rcases Nat.lt_or_ge i s.size with hlt | hge
   · by_cases hk : kAt s i = 3
     · have hw := qhl hk
       rw [qap hlt (by unfold v6; rw [beq_iff_eq]; exact hk),hw,j8 hlt,if_pos hk]
       exact qpk s out f (i + 1) (by omega) (by omega)
     · rw [qao hlt (by unfold v6; rw [beq_eq_false_iff_ne]; exact hk)]
   · rw [qan hge,show i = s.size by omega]
theorem qpl (s : ByteArray) : ∀ (f i : Nat), s.size ≤ i + f → i ≤ s.size → qf v6 s i < s.size → kAt s (qf v6 s i) ≠ 3
 | 0,i,h,hi,hlt => by rw [qan (by omega)] at hlt; omega
 | f + 1, i, h, hi, hlt => by
   rcases Nat.lt_or_ge i s.size with h1 | hge
   · have hw := yx s i
     have hin := zx s i h1
     cases hk : v6 (kAt s i) with
     | true =>
       rw [qap h1 hk] at hlt ⊢
       exact qpl s f _ (by omega) hin hlt
     | false =>
       rw [qao h1 hk]
       unfold v6 at hk
       rw [beq_eq_false_iff_ne] at hk
       exact hk
   · rw [qan hge] at hlt; omega
end Go.Proofs.YtfcmhcaggdakbaaGreatDoor
namespace Go.Tw
open Go
structure NodeC where
 kind : Int
 a : Int
 b : Int
 e : Int
 name : ByteArray
 neg : Bool
 n : List Nat
 d : List Nat
structure qd where
 c : NodeC
 vn : Value
 vd : Value
def qd.cells (o : qd) : List Value := [.int .i64 o.c.kind,.int .i64 o.c.a,.int .i64 o.c.b,.int .i64 o.c.e,.string o.c.name,.bool o.c.neg,o.vn,o.vd]
def qd.ok (I : Hp) (o : qd) : Prop := Ws I o.vn o.c.n ∧ Ws I o.vd o.c.d
theorem qd.ok.le {I I' : Hp} {o : qd} (h : o.ok I) (hl : I.Le I') : o.ok I' := ⟨h.1.le hl,h.2.le hl⟩
def nds (ns : List qd) : List (List Value) := ns.map qd.cells
structure LetC where
 name : ByteArray
 root : Int
def LetC.cells (l : LetC) : List Value := [.string l.name,.int .i64 l.root]
structure qv where
 ins : List ByteArray
 lets : List LetC
 outs : List ByteArray
 all : List NodeC
def scs (l : List ByteArray) : List (List Value) := l.map fun s => [.string s]
structure yi (I : Hp) (vi vl vo va : Value) (p : qv) (ns : List qd) : Prop where
 si : Slc I 1 vi (scs p.ins)
 sl : Slc I 2 vl (p.lets.map LetC.cells)
 so : Slc I 1 vo (scs p.outs)
 sa : Slc I 8 va (nds ns)
 ok : ∀ o ∈ ns,o.ok I
 eq : ns.map qd.c = p.all
theorem yi.le {I I' : Hp} {vi vl vo va : Value} {p : qv} {ns : List qd} (h : yi I vi vl vo va p ns) (hl : I.Le I') : yi I' vi vl vo va p ns :=
 ⟨h.si.le hl,h.sl.le hl,h.so.le hl,h.sa.le hl,fun o ho => (h.ok o ho).le hl,h.eq⟩
def isT (x : Tok) (k : Int) (t : ByteArray) : Bool := x.kind == k && x.text.toList == t.toList
def hdT : List Tok → Int → ByteArray → Bool
 | [],_,_ => false
 | x :: _,k,t => isT x k t
def lpar : ByteArray := ⟨#[40]⟩
def rpar : ByteArray := ⟨#[41]⟩
def caret : ByteArray := ⟨#[94]⟩
def vf : ByteArray := ⟨#[45]⟩
def zk : ByteArray := ⟨#[43]⟩
def qaa : ByteArray := ⟨#[42]⟩
def qa3 : ByteArray := ⟨#[47]⟩
def ye : ByteArray := ⟨#[59]⟩
def qab : ByteArray := ⟨#[44]⟩
def je : ByteArray := ⟨#[61]⟩
def inS : ByteArray := ⟨#[105,110]⟩
def letS : ByteArray := ⟨#[108,101,116]⟩
def outS : ByteArray := ⟨#[111,117,116]⟩
def decN (s : List UInt8) : Nat := s.foldl (fun n b => 10 * n + (b.toNat - 48)) 0
def numQ (s : ByteArray) : Rat := mkRat ((decN (s.extract 0 (cutZ s)).toList : Nat) : Int) (if cutZ s = s.size then 1 else decN (s.extract (cutZ s + 1) s.size).toList)
def numN (q : Rat) : NodeC := ⟨1,0,0,0,⟨#[]⟩,decide (q.num < 0),natW q.num.natAbs,natW q.den⟩
def refN (t : ByteArray) : NodeC := ⟨0,0,0,0,t,false,[],[]⟩
def negN (a : Int) : NodeC := ⟨6,a,0,0,⟨#[]⟩,false,[],[]⟩
def powN (a e : Int) : NodeC := ⟨7,a,0,e,⟨#[]⟩,false,[],[]⟩
def binN (k a b : Int) : NodeC := ⟨k,a,b,0,⟨#[]⟩,false,[],[]⟩
def vr (all : List NodeC) : Int := (all.length : Int) - 1
def yl (s : ByteArray) : Option Nat :=
 if s.size = 1 then some (decN s.toList)
 else if s.size = 2 ∧ (s.get! 1).toNat ≠ 124 ∧ decN s.toList ≤ 20 then some (decN s.toList)
 else none
inductive Lv where
 | atom | powL | power | factor | prodL | product | sumL | sum
inductive POut where
 | bad (r : List Tok)
 | ok (all : List NodeC) (r : List Tok)
inductive Expo : List Tok → Option Int → List Tok → Prop
 | neg {x y : Tok} {r : List Tok} {n : Nat} : isT x 2 vf = true → y.kind = 1 → yl y.text = some n → Expo (x :: y :: r) (some (-(n : Int))) r
 | neg_end {x : Tok} : isT x 2 vf = true → Expo [x] none []
 | neg_bad {x y : Tok} {r : List Tok} : isT x 2 vf = true → (y.kind = 1 → yl y.text = none) → Expo (x :: y :: r) none (y :: r)
 | pos {y : Tok} {r : List Tok} {n : Nat} : isT y 2 vf = false → y.kind = 1 → yl y.text = some n → Expo (y :: r) (some (n : Int)) r
 | pos_end : Expo [] none []
 | pos_bad {y : Tok} {r : List Tok} : isT y 2 vf = false → (y.kind = 1 → yl y.text = none) → Expo (y :: r) none (y :: r)
def yy (x : Tok) : Bool := x.kind == 1 || (x.kind == 0 && vt x.text)
def qar (x : Tok) : NodeC := if x.kind = 1 then numN (numQ x.text) else refN x.text
def mulK (x : Tok) : Option Int := if isT x 2 qaa then some 4 else if isT x 2 qa3 then some 5 else none
def addK (x : Tok) : Option Int := if isT x 2 zk then some 2 else if isT x 2 vf then some 3 else none
def hdK (f : Tok → Option Int) : List Tok → Option Int
 | [] => none
 | x :: _ => f x
inductive Ps : Lv → List NodeC → List Tok → POut → Prop
 | par_bad {all : List NodeC} {x : Tok} {r r1 : List Tok} : isT x 2 lpar = true → Ps .sum all r (.bad r1) → Ps .atom all (x :: r) (.bad r1)
 | par_ok {all a1 : List NodeC} {x y : Tok} {r r1 : List Tok} : isT x 2 lpar = true → Ps .sum all r (.ok a1 (y :: r1)) → isT y 2 rpar = true → Ps .atom all (x :: r) (.ok a1 r1)
 | par_no {all a1 : List NodeC} {x : Tok} {r r1 : List Tok} : isT x 2 lpar = true → Ps .sum all r (.ok a1 r1) → hdT r1 2 rpar = false → Ps .atom all (x :: r) (.bad r1)
 | leaf {all : List NodeC} {x : Tok} {r : List Tok} : yy x = true → Ps .atom all (x :: r) (.ok (all ++ [qar x]) r)
 | none {all : List NodeC} : Ps .atom all [] (.bad [])
 | no {all : List NodeC} {x : Tok} {r : List Tok} : isT x 2 lpar = false → yy x = false → Ps .atom all (x :: r) (.bad (x :: r))
 | pow_none {all : List NodeC} {r : List Tok} : hdT r 2 caret = false → Ps .powL all r (.ok all r)
 | pow_ok {all : List NodeC} {x : Tok} {r r1 : List Tok} {e : Int} : isT x 2 caret = true → Expo r (some e) r1 → Ps .powL all (x :: r) (.ok (all ++ [powN (vr all) e]) r1)
 | pow_bad {all : List NodeC} {x : Tok} {r r1 : List Tok} : isT x 2 caret = true → Expo r none r1 → Ps .powL all (x :: r) (.bad r1)
 | power_bad {all : List NodeC} {r r1 : List Tok} : Ps .atom all r (.bad r1) → Ps .power all r (.bad r1)
 | power_ok {all a1 : List NodeC} {r r1 : List Tok} {o : POut} : Ps .atom all r (.ok a1 r1) → Ps .powL a1 r1 o → Ps .power all r o
 | neg_bad {all : List NodeC} {x : Tok} {r r1 : List Tok} : isT x 2 vf = true → Ps .factor all r (.bad r1) → Ps .factor all (x :: r) (.bad r1)
 | neg_ok {all a1 : List NodeC} {x : Tok} {r r1 : List Tok} : isT x 2 vf = true → Ps .factor all r (.ok a1 r1) → Ps .factor all (x :: r) (.ok (a1 ++ [negN (vr a1)]) r1)
 | fac {all : List NodeC} {r : List Tok} {o : POut} : hdT r 2 vf = false → Ps .power all r o → Ps .factor all r o
 | prodL_end {all : List NodeC} {r : List Tok} : hdK mulK r = .none → Ps .prodL all r (.ok all r)
 | prodL_bad {all : List NodeC} {x : Tok} {r r1 : List Tok} {k : Int} : mulK x = some k → Ps .factor all r (.bad r1) → Ps .prodL all (x :: r) (.bad r1)
 | prodL_ok {all a1 : List NodeC} {x : Tok} {r r1 : List Tok} {k : Int} {o : POut} : mulK x = some k → Ps .factor all r (.ok a1 r1) → Ps .prodL (a1 ++ [binN k (vr all) (vr a1)]) r1 o → Ps .prodL all (x :: r) o
 | product_bad {all : List NodeC} {r r1 : List Tok} : Ps .factor all r (.bad r1) → Ps .product all r (.bad r1)
 | product_ok {all a1 : List NodeC} {r r1 : List Tok} {o : POut} : Ps .factor all r (.ok a1 r1) → Ps .prodL a1 r1 o → Ps .product all r o
 | sumL_end {all : List NodeC} {r : List Tok} : hdK addK r = .none → Ps .sumL all r (.ok all r)
 | sumL_bad {all : List NodeC} {x : Tok} {r r1 : List Tok} {k : Int} : addK x = some k → Ps .product all r (.bad r1) → Ps .sumL all (x :: r) (.bad r1)
 | sumL_ok {all a1 : List NodeC} {x : Tok} {r r1 : List Tok} {k : Int} {o : POut} : addK x = some k → Ps .product all r (.ok a1 r1) → Ps .sumL (a1 ++ [binN k (vr all) (vr a1)]) r1 o → Ps .sumL all (x :: r) o
 | sum_bad {all : List NodeC} {r r1 : List Tok} : Ps .product all r (.bad r1) → Ps .sum all r (.bad r1)
 | sum_ok {all a1 : List NodeC} {r r1 : List Tok} {o : POut} : Ps .product all r (.ok a1 r1) → Ps .sumL a1 r1 o → Ps .sum all r o
def Lv.need : Lv → Nat
 | .powL => 0
 | .prodL => 0
 | .sumL => 0
 | _ => 1
def POut.fits (n : Nat) (m : Nat) : POut → Prop
 | .bad r => r.length ≤ n
 | .ok _ r => r.length + m ≤ n
theorem Expo.len {r r1 : List Tok} {e : Option Int} (h : Expo r e r1) : r1.length ≤ r.length := by
 cases h <;> simp <;> omega
theorem Ps.len {lv : Lv} {all : List NodeC} {r : List Tok} {o : POut} (h : Ps lv all r o) : o.fits r.length lv.need := by
 induction h with
 | par_bad _ _ ih => simp only [POut.fits,List.length_cons] at *; omega
 | par_ok _ _ _ ih => simp only [POut.fits,List.length_cons,Lv.need] at *; omega
 | par_no _ _ _ ih => simp only [POut.fits,List.length_cons,Lv.need] at *; omega
 | leaf _ => simp only [POut.fits,List.length_cons,Lv.need]; omega
 | none => simp [POut.fits]
 | no _ _ => simp [POut.fits]
 | pow_none _ => simp [POut.fits,Lv.need]
 | pow_ok _ h => have := h.len; simp only [POut.fits,List.length_cons,Lv.need]; omega
 | pow_bad _ h => have := h.len; simp only [POut.fits,List.length_cons]; omega
 | power_bad _ ih => exact ih
 | @power_ok all a1 r r1 o _ _ ih1 ih2 => cases o <;> simp only [POut.fits,Lv.need] at * <;> omega
 | neg_bad _ _ ih => simp only [POut.fits,List.length_cons] at *; omega
 | neg_ok _ _ ih => simp only [POut.fits,List.length_cons,Lv.need] at *; omega
 | fac _ _ ih => exact ih
 | prodL_end _ => simp [POut.fits,Lv.need]
 | prodL_bad _ _ ih => simp only [POut.fits,List.length_cons] at *; omega
 | @prodL_ok all a1 x r r1 k o _ _ _ ih1 ih2 => cases o <;> simp only [POut.fits,List.length_cons,Lv.need] at * <;> omega
 | product_bad _ ih => exact ih
 | @product_ok all a1 r r1 o _ _ ih1 ih2 => cases o <;> simp only [POut.fits,Lv.need] at * <;> omega
 | sumL_end _ => simp [POut.fits,Lv.need]
 | sumL_bad _ _ ih => simp only [POut.fits,List.length_cons] at *; omega
 | @sumL_ok all a1 x r r1 k o _ _ _ ih1 ih2 => cases o <;> simp only [POut.fits,List.length_cons,Lv.need] at * <;> omega
 | sum_bad _ ih => exact ih
 | @sum_ok all a1 r r1 o _ _ ih1 ih2 => cases o <;> simp only [POut.fits,Lv.need] at * <;> omega
theorem Expo.some_out (r : List Tok) : ∃ e r1,Expo r e r1 := by
 cases r with
 | nil => exact ⟨_,_,.pos_end⟩
 | cons x r =>
   cases hx : isT x 2 vf with
   | true =>
     cases r with
     | nil => exact ⟨_,_,.neg_end hx⟩
     | cons y r =>
       by_cases hy : y.kind = 1
       · cases he : yl y.text with
         | some n => exact ⟨_,_,.neg hx hy he⟩
         | none => exact ⟨_,_,.neg_bad hx fun _ => he⟩
       · exact ⟨_,_,.neg_bad hx fun h => absurd h hy⟩
   | false =>
     by_cases hy : x.kind = 1
     · cases he : yl x.text with
       | some n => exact ⟨_,_,.pos hx hy he⟩
       | none => exact ⟨_,_,.pos_bad hx fun _ => he⟩
     · exact ⟨_,_,.pos_bad hx fun h => absurd h hy⟩
theorem Ps.pow_out (all : List NodeC) (r : List Tok) : ∃ o,Ps .powL all r o := by
 cases r with
 | nil => exact ⟨_,.pow_none rfl⟩
 | cons x r =>
   cases hx : isT x 2 caret with
   | false => exact ⟨_,.pow_none hx⟩
   | true =>
     obtain ⟨e,r1,he⟩ := Expo.some_out r
     cases e with
     | some e => exact ⟨_,.pow_ok hx he⟩
     | none => exact ⟨_,.pow_bad hx he⟩
theorem Ps.outs : ∀ (n : Nat) (r : List Tok),r.length ≤ n → (∀ all,∃ o,Ps .factor all r o) ∧ (∀ all,∃ o,Ps .prodL all r o) ∧ (∀ all,∃ o,Ps .sumL all r o) ∧ (∀ all,∃ o,Ps .product all r o) ∧ (∀ all,∃ o,Ps .sum all r o) := by
 intro n
 induction n with
 | zero =>
   intro r hr
   obtain rfl : r = [] := List.length_eq_zero_iff.1 (by omega)
   have hf : ∀ all,Ps .factor all [] (.bad []) := fun all => .fac rfl (.power_bad .none)
   exact ⟨fun all => ⟨_,hf all⟩,fun all => ⟨_,.prodL_end rfl⟩,fun all => ⟨_,.sumL_end rfl⟩,fun all => ⟨_,.product_bad (hf all)⟩,fun all => ⟨_,.sum_bad (.product_bad (hf all))⟩⟩
 | succ n ih =>
   intro r hr
   have ihl : ∀ r1 : List Tok,r1.length < r.length → r1.length ≤ n := fun r1 h => by omega
   have hatom : ∀ all, ∃ o, Ps .atom all r o := fun all => by
     cases r with
     | nil => exact ⟨_,.none⟩
     | cons x r =>
       cases hx : isT x 2 lpar with
       | true =>
         obtain ⟨o,ho⟩ := (ih r (ihl r (by simp))).2.2.2.2 all
         cases o with
         | bad r1 => exact ⟨_,.par_bad hx ho⟩
         | ok a1 r1 =>
           cases r1 with
           | nil => exact ⟨_,.par_no hx ho rfl⟩
           | cons y r1 =>
             cases hy : isT y 2 rpar with
             | true => exact ⟨_,.par_ok hx ho hy⟩
             | false => exact ⟨_,.par_no hx ho hy⟩
       | false =>
         cases hl : yy x with
         | true => exact ⟨_,.leaf hl⟩
         | false => exact ⟨_,.no hx hl⟩
   have hpower : ∀ all, ∃ o, Ps .power all r o := fun all => by
     obtain ⟨o,ho⟩ := hatom all
     cases o with
     | bad r1 => exact ⟨_,.power_bad ho⟩
     | ok a1 r1 =>
       obtain ⟨o,ho2⟩ := Ps.pow_out a1 r1
       exact ⟨_,.power_ok ho ho2⟩
   have hfactor : ∀ all, ∃ o, Ps .factor all r o := fun all => by
     cases hm : hdT r 2 vf with
     | false => obtain ⟨o,ho⟩ := hpower all; exact ⟨_,.fac hm ho⟩
     | true =>
       cases r with
       | nil => cases hm
       | cons x r =>
         obtain ⟨o,ho⟩ := (ih r (ihl r (by simp))).1 all
         cases o with
         | bad r1 => exact ⟨_,.neg_bad hm ho⟩
         | ok a1 r1 => exact ⟨_,.neg_ok hm ho⟩
   have hprodL : ∀ all, ∃ o, Ps .prodL all r o := fun all => by
     cases hm : hdK mulK r with
     | none => exact ⟨_,.prodL_end hm⟩
     | some k =>
       cases r with
       | nil => cases hm
       | cons x r =>
         obtain ⟨o,ho⟩ := (ih r (ihl r (by simp))).1 all
         cases o with
         | bad r1 => exact ⟨_,.prodL_bad hm ho⟩
         | ok a1 r1 =>
           have hl := ho.len
           simp only [POut.fits,Lv.need] at hl
           obtain ⟨o,ho2⟩ := (ih r1 (ihl r1 (by simp; omega))).2.1 (a1 ++ [binN k (vr all) (vr a1)])
           exact ⟨_,.prodL_ok hm ho ho2⟩
   have hproduct : ∀ all, ∃ o, Ps .product all r o := fun all => by
     obtain ⟨o,ho⟩ := hfactor all
     cases o with
     | bad r1 => exact ⟨_,.product_bad ho⟩
     | ok a1 r1 =>
       have hl := ho.len
       simp only [POut.fits,Lv.need] at hl
       obtain ⟨o,ho2⟩ := (ih r1 (ihl r1 (by omega))).2.1 a1
       exact ⟨_,.product_ok ho ho2⟩
   have hsumL : ∀ all, ∃ o, Ps .sumL all r o := fun all => by
     cases hm : hdK addK r with
     | none => exact ⟨_,.sumL_end hm⟩
     | some k =>
       cases r with
       | nil => cases hm
       | cons x r =>
         obtain ⟨o,ho⟩ := (ih r (ihl r (by simp))).2.2.2.1 all
         cases o with
         | bad r1 => exact ⟨_,.sumL_bad hm ho⟩
         | ok a1 r1 =>
           have hl := ho.len
           simp only [POut.fits,Lv.need] at hl
           obtain ⟨o,ho2⟩ := (ih r1 (ihl r1 (by simp; omega))).2.2.1 (a1 ++ [binN k (vr all) (vr a1)])
           exact ⟨_,.sumL_ok hm ho ho2⟩
   refine ⟨hfactor,hprodL,hsumL,hproduct,fun all => ?_⟩
   obtain ⟨o,ho⟩ := hproduct all
   cases o with
   | bad r1 => exact ⟨_,.sum_bad ho⟩
   | ok a1 r1 =>
     have hl := ho.len
     simp only [POut.fits,Lv.need] at hl
     obtain ⟨o,ho2⟩ := (ih r1 (ihl r1 (by omega))).2.2.1 a1
     exact ⟨_,.sum_ok ho ho2⟩
theorem Ps.sum_out (all : List NodeC) (r : List Tok) : ∃ o,Ps .sum all r o := (Ps.outs r.length r (Nat.le_refl _)).2.2.2.2 all
inductive Fr where
 | neg
 | br
 | bin (k a : Int)
def POut.then_ (q : POut) (o : POut) (f : List NodeC → List Tok → Prop) : Prop := match q with
 | .bad r => o = .bad r
 | .ok a r => f a r
def RunM : List Fr → Bool → List NodeC → List Tok → POut → Prop
 | [], true, all, r, o => ∃ q, Ps .prodL all r q ∧ q.then_ o fun a1 r1 => ∃ q2, Ps .sumL a1 r1 q2 ∧ q2.then_ o fun a2 r2 => match r2 with
     | y :: r3 => if isT y 2 ye then o = .ok a2 r3 else o = .bad r2
     | [] => o = .bad []
 | [], false, all, r, o => ∃ q2, Ps .sumL all r q2 ∧ q2.then_ o fun a2 r2 => match r2 with
     | y :: r3 => if isT y 2 ye then o = .ok a2 r3 else o = .bad r2
     | [] => o = .bad []
 | .br :: K, true, all, r, o => ∃ q, Ps .prodL all r q ∧ q.then_ o fun a1 r1 => ∃ q2, Ps .sumL a1 r1 q2 ∧ q2.then_ o fun a2 r2 => match r2 with
     | y :: r3 => if isT y 2 rpar then ∃ q3,Ps .powL a2 r3 q3 ∧ q3.then_ o fun a3 r4 => RunM K true a3 r4 o else o = .bad r2
     | [] => o = .bad []
 | .br :: K, false, all, r, o => ∃ q2, Ps .sumL all r q2 ∧ q2.then_ o fun a2 r2 => match r2 with
     | y :: r3 => if isT y 2 rpar then ∃ q3,Ps .powL a2 r3 q3 ∧ q3.then_ o fun a3 r4 => RunM K true a3 r4 o else o = .bad r2
     | [] => o = .bad []
 | .neg :: K,true,all,r,o => RunM K true (all ++ [negN (vr all)]) r o
 | .neg :: _,false,_,_,_ => False
 | .bin k a :: K, true, all, r, o => if 4 ≤ k then RunM K true (all ++ [binN k a (vr all)]) r o
     else ∃ q,Ps .prodL all r q ∧ q.then_ o fun a1 r1 => RunM K false (a1 ++ [binN k a (vr a1)]) r1 o
 | .bin _ _ :: _,false,_,_,_ => False
def RunE (K : List Fr) (all : List NodeC) (r : List Tok) (o : POut) : Prop := ∃ q,Ps .factor all r q ∧ q.then_ o fun a1 r1 => RunM K true a1 r1 o
def RunA (K : List Fr) (all : List NodeC) (r : List Tok) (o : POut) : Prop := ∃ q,Ps .powL all r q ∧ q.then_ o fun a1 r1 => RunM K true a1 r1 o
def ze (k : Int) : Int := if k = 6 then 3 else if 4 ≤ k then 2 else 1
def q8 (b : Int) : List Fr → List NodeC → List Fr × List NodeC
 | [],all => ([],all)
 | .br :: K,all => (.br :: K,all)
 | .neg :: K,all => if b ≤ 3 then q8 b K (all ++ [negN (vr all)]) else (.neg :: K,all)
 | .bin k a :: K,all => if b ≤ ze k then q8 b K (all ++ [binN k a (vr all)]) else (.bin k a :: K,all)
def FrOk : List Fr → Prop
 | [] => True
 | .bin k _ :: K => 2 ≤ k ∧ k ≤ 5 ∧ FrOk K
 | _ :: K => FrOk K
theorem qdl {b : Int} : ∀ {K : List Fr} {all : List NodeC}, FrOk K → FrOk (q8 b K all).1
 | [],_,h => h
 | .br :: K,_,h => h
 | .neg :: K, all, h => by
   unfold q8
   split
   · exact qdl (K := K) h
   · exact h
 | .bin k a :: K, all, h => by
   unfold q8
   split
   · exact qdl (K := K) h.2.2
   · exact h
theorem qej {x : Tok} {k : Int} {t : ByteArray} : isT x k t = true ↔ x.kind = k ∧ x.text = t := by
 unfold isT
 rw [Bool.and_eq_true,beq_iff_eq,beq_iff_eq]
 constructor
 · rintro ⟨h1, h2⟩
   refine ⟨h1,?_⟩
   have := Array.toList_inj.1 (by simpa [ByteArray.toList_eq] using h2)
   cases hx : x.text
   cases t
   simp_all
 · rintro ⟨h1, h2⟩
   exact ⟨h1,by rw [h2]⟩
theorem isT_no {x : Tok} {k k' : Int} {t t' : ByteArray} (h : isT x k t = true) (hn : ¬ (k = k' ∧ t = t')) : isT x k' t' = false := by
 cases hb : isT x k' t' with
 | false => rfl
 | true => exact absurd ⟨(qej.1 h).1.symm.trans (qej.1 hb).1,(qej.1 h).2.symm.trans (qej.1 hb).2⟩ hn
theorem Expo.det {r r1 r2 : List Tok} {e e' : Option Int} (h : Expo r e r1) (h' : Expo r e' r2) : e = e' ∧ r1 = r2 := by
 cases h <;> cases h' <;> simp_all
theorem RunE.minus {K : List Fr} {all : List NodeC} {x : Tok} {r : List Tok} {o : POut} (h : RunE K all (x :: r) o) (hx : isT x 2 vf = true) : RunE (.neg :: K) all r o := by
 obtain ⟨q,hq,ho⟩ := h
 cases hq with
 | neg_bad _ h => exact ⟨_,h,ho⟩
 | neg_ok _ h => exact ⟨_,h,ho⟩
 | fac h0 _ => exact absurd hx (by simp only [hdT] at h0; simp [h0])
theorem RunE.power {K : List Fr} {all : List NodeC} {r : List Tok} {o : POut} (h : RunE K all r o) (hx : hdT r 2 vf = false) : ∃ q,Ps .atom all r q ∧ q.then_ o fun a1 r1 => RunA K a1 r1 o := by
 obtain ⟨q,hq,ho⟩ := h
 cases hq with
 | neg_bad h0 _ => simp only [hdT] at hx; exact absurd h0 (by simp [hx])
 | neg_ok h0 _ => simp only [hdT] at hx; exact absurd h0 (by simp [hx])
 | fac _ h1 =>
   cases h1 with
   | power_bad h => exact ⟨_,h,ho⟩
   | power_ok h1 h2 => exact ⟨_,h1,_,h2,ho⟩
theorem RunE.of_sum {K : List Fr} {all : List NodeC} {r : List Tok} {o q : POut} (h : Ps .sum all r q) (ho : q.then_ o fun a2 r2 => match r2 with
     | y :: r3 => if isT y 2 rpar then RunA K a2 r3 o else o = .bad r2
     | [] => o = .bad []) : RunE (.br :: K) all r o := by
 cases h with
 | sum_bad h =>
   cases h with
   | product_bad h => exact ⟨_,h,ho⟩
   | product_ok h1 h2 => exact ⟨_,h1,_,h2,ho⟩
 | sum_ok h h3 =>
   cases h with
   | product_ok h1 h2 =>
     refine ⟨_,h1,_,h2,_,h3,?_⟩;exact ho
theorem RunE.bracket {K : List Fr} {all : List NodeC} {x : Tok} {r : List Tok} {o : POut} (h : RunE K all (x :: r) o) (hx : isT x 2 lpar = true) : RunE (.br :: K) all r o := by
 obtain ⟨q,hq,ho⟩ := h.power (isT_no hx (by decide))
 cases hq with
 | par_bad _ h => exact .of_sum h ho
 | par_ok _ h hy => refine .of_sum h ?_; show (if _ then _ else _); rw [if_pos hy]; exact ho
 | @par_no _ _ _ _ r1 _ h hy =>
   refine .of_sum h ?_
   cases r1 with
   | nil => exact ho
   | cons y r3 => simp only [hdT] at hy; show (if _ then _ else _); rw [if_neg (by simp [hy])]; exact ho
 | leaf h0 =>
   rw [yy,(qej.1 hx).1] at h0
   exact absurd h0 (by simp)
 | no h0 _ => exact absurd hx (by simp [h0])
theorem RunE.leaf {K : List Fr} {all : List NodeC} {x : Tok} {r : List Tok} {o : POut} (h : RunE K all (x :: r) o) (h0 : isT x 2 vf = false) (h1 : isT x 2 lpar = false) : if yy x then RunA K (all ++ [qar x]) r o else o = .bad (x :: r) := by
 obtain ⟨q,hq,ho⟩ := h.power h0
 cases hq with
 | par_bad hx _ => exact absurd hx (by simp [h1])
 | par_ok hx _ _ => exact absurd hx (by simp [h1])
 | par_no hx _ _ => exact absurd hx (by simp [h1])
 | leaf hl => rw [if_pos hl]; exact ho
 | no _ hl => rw [if_neg (by simp [hl])]; exact ho
theorem RunE.nil {K : List Fr} {all : List NodeC} {o : POut} (h : RunE K all [] o) : o = .bad [] := by
 obtain ⟨q,hq,ho⟩ := h.power rfl
 cases hq
 exact ho
theorem RunA.caret {K : List Fr} {all : List NodeC} {x : Tok} {r r1 : List Tok} {o : POut} {e : Option Int} (h : RunA K all (x :: r) o) (hx : isT x 2 Go.Tw.caret = true) (he : Expo r e r1) : match e with
   | some e => RunM K true (all ++ [powN (vr all) e]) r1 o
   | none => o = .bad r1 := by
 obtain ⟨q,hq,ho⟩ := h
 cases hq with
 | pow_none h0 => simp only [hdT] at h0; exact absurd hx (by simp [h0])
 | pow_ok _ h1 => obtain ⟨rfl,rfl⟩ := h1.det he; exact ho
 | pow_bad _ h1 => obtain ⟨rfl,rfl⟩ := h1.det he; exact ho
theorem RunA.none {K : List Fr} {all : List NodeC} {r : List Tok} {o : POut} (h : RunA K all r o) (hx : hdT r 2 Go.Tw.caret = false) : RunM K true all r o := by
 obtain ⟨q,hq,ho⟩ := h
 cases hq with
 | pow_none _ => exact ho
 | pow_ok h0 _ => simp only [hdT] at hx; exact absurd h0 (by simp [hx])
 | pow_bad h0 _ => simp only [hdT] at hx; exact absurd h0 (by simp [hx])
theorem qhp {k : Int} (h : 2 ≤ k ∧ k ≤ 5) : ze k = if 4 ≤ k then 2 else 1 := by unfold ze; rw [if_neg (by omega)]
theorem RunM.fold {b : Int} (hb : b = 3 ∨ b = 2) {r : List Tok} {o : POut} : ∀ {K : List Fr} {all : List NodeC}, FrOk K → RunM K true all r o → RunM (q8 b K all).1 true (q8 b K all).2 r o
 | [],_,_,h => h
 | .br :: K,_,_,h => h
 | .neg :: K, all, hK, h => by
   unfold q8
   rw [if_pos (by omega)]
   exact RunM.fold hb (K := K) hK h
 | .bin k a :: K, all, hK, h => by
   unfold q8
   have hk := qhp ⟨hK.1,hK.2.1⟩
   by_cases h4 : 4 ≤ k
   · rw [if_pos h4] at hk
     rw [hk]
     split
     · unfold RunM at h
       rw [if_pos h4] at h
       exact RunM.fold hb (K := K) hK.2.2 h
     · exact h
   · rw [if_neg h4] at hk
     rw [hk,if_neg (by omega)]
     exact h
theorem Ps.prodL_fin {all : List NodeC} {r : List Tok} {q : POut} (h : Ps .prodL all r q) (hm : hdK mulK r = Option.none) : q = .ok all r := by
 cases h with
 | prodL_end _ => rfl
 | prodL_bad h0 _ => simp only [hdK] at hm; rw [hm] at h0; cases h0
 | prodL_ok h0 _ _ => simp only [hdK] at hm; rw [hm] at h0; cases h0
theorem Ps.sumL_fin {all : List NodeC} {r : List Tok} {q : POut} (h : Ps .sumL all r q) (hm : hdK addK r = Option.none) : q = .ok all r := by
 cases h with
 | sumL_end _ => rfl
 | sumL_bad h0 _ => simp only [hdK] at hm; rw [hm] at h0; cases h0
 | sumL_ok h0 _ _ => simp only [hdK] at hm; rw [hm] at h0; cases h0
theorem RunM.fold_false {b : Int} {r : List Tok} {o : POut} {K : List Fr} {all : List NodeC} (h : RunM K false all r o) : q8 b K all = (K,all) := by
 cases K with
 | nil => rfl
 | cons f K =>
   cases f with
   | br => rfl
   | neg => exact h.elim
   | bin k a => exact h.elim
theorem RunM.fold1 {b : Int} (hb : b = 1 ∨ b = 0) {r : List Tok} {o : POut} (hm : hdK mulK r = Option.none) : ∀ {K : List Fr} {all : List NodeC}, FrOk K → RunM K true all r o → RunM (q8 b K all).1 false (q8 b K all).2 r o
 | [], _, _, h => by
   obtain ⟨q,hq,ho⟩ := h
   rw [hq.prodL_fin hm] at ho
   exact ho
 | .br :: K, _, _, h => by
   obtain ⟨q,hq,ho⟩ := h
   rw [hq.prodL_fin hm] at ho
   exact ho
 | .neg :: K, all, hK, h => by
   unfold q8
   rw [if_pos (by omega)]
   exact RunM.fold1 hb hm (K := K) hK h
 | .bin k a :: K, all, hK, h => by
   unfold q8
   have hk := qhp ⟨hK.1,hK.2.1⟩
   rw [if_pos (by rw [hk]; split <;> omega)]
   unfold RunM at h
   by_cases h4 : 4 ≤ k
   · rw [if_pos h4] at h
     exact RunM.fold1 hb hm (K := K) hK.2.2 h
   · rw [if_neg h4] at h
     obtain ⟨q,hq,ho⟩ := h
     rw [hq.prodL_fin hm] at ho
     rw [RunM.fold_false ho]
     exact ho
theorem qfz {b : Int} (hb : b = 1 ∨ b = 0) : ∀ {K : List Fr} {all : List NodeC}, FrOk K → (q8 b K all).1 = [] ∨ ∃ K', (q8 b K all).1 = .br :: K'
 | [],_,_ => .inl rfl
 | .br :: K,_,_ => .inr ⟨_,rfl⟩
 | .neg :: K, all, hK => by
   unfold q8
   rw [if_pos (by omega)]
   exact qfz hb (K := K) hK
 | .bin k a :: K, all, hK => by
   unfold q8
   rw [if_pos (by rw [qhp ⟨hK.1,hK.2.1⟩]; split <;> omega)]
   exact qfz hb (K := K) hK.2.2
theorem qj5 : ∀ {K : List Fr} {all : List NodeC}, FrOk K → (q8 2 K all).1 = [] ∨ (∃ K', (q8 2 K all).1 = .br :: K') ∨ ∃ k a K', (q8 2 K all).1 = .bin k a :: K' ∧ ¬ 4 ≤ k
 | [],_,_ => .inl rfl
 | .br :: K,_,_ => .inr (.inl ⟨_,rfl⟩)
 | .neg :: K, all, hK => by
   unfold q8
   rw [if_pos (by omega)]
   exact qj5 (K := K) hK
 | .bin k a :: K, all, hK => by
   unfold q8
   have hk := qhp ⟨hK.1,hK.2.1⟩
   by_cases h4 : 4 ≤ k
   · rw [if_pos (by rw [hk, if_pos h4]; omega)]
     exact qj5 (K := K) hK.2.2
   · rw [if_neg (by rw [hk, if_neg h4]; omega)]
     exact .inr (.inr ⟨_,_,_,rfl,h4⟩)
theorem qj6 {all : List NodeC} {x : Tok} {r : List Tok} {k : Int} {q o : POut} {f : List NodeC → List Tok → Prop} (hx : mulK x = some k) (hq : Ps .prodL all (x :: r) q) (ho : q.then_ o f) :
   ∃ q,Ps .factor all r q ∧ q.then_ o fun a1 r1 => ∃ q,Ps .prodL (a1 ++ [binN k (vr all) (vr a1)]) r1 q ∧ q.then_ o f := by
 cases hq with
 | prodL_end h0 => simp only [hdK] at h0; rw [h0] at hx; cases hx
 | prodL_bad h0 h => rw [hx] at h0; cases h0; exact ⟨_,h,ho⟩
 | prodL_ok h0 h h2 => rw [hx] at h0; cases h0; exact ⟨_,h,_,h2,ho⟩
theorem qj7 {x : Tok} {k : Int} (h : mulK x = some k) : 4 ≤ k ∧ k ≤ 5 := by
 unfold mulK at h
 split at h
 · cases h; decide
 · split at h
   · cases h; decide
   · cases h
theorem qj8 {x : Tok} {k : Int} (h : addK x = some k) : 2 ≤ k ∧ k < 4 := by
 unfold addK at h
 split at h
 · cases h; decide
 · split at h
   · cases h; decide
   · cases h
theorem RunM.mul {K : List Fr} {all : List NodeC} {x : Tok} {r : List Tok} {k : Int} {o : POut} (hK : FrOk K) (h : RunM K true all (x :: r) o) (hx : mulK x = some k) : RunE (.bin k (vr (q8 2 K all).2) :: (q8 2 K all).1) (q8 2 K all).2 r o := by
 have h2 := RunM.fold (.inr rfl) hK h
 have h4 := qj7 hx
 have step : ∀ {K : List Fr} {q f},Ps .prodL (q8 2 K all).2 (x :: r) q → q.then_ o f → True := fun _ _ => trivial
 rcases qj5 (K := K) (all := all) hK with e | ⟨K',e⟩ | ⟨k',a',K',e,hk⟩
 · rw [e] at h2 ⊢
   obtain ⟨q,hq,ho⟩ := h2
   obtain ⟨q,hq,ho⟩ := qj6 hx hq ho
   refine ⟨q,hq,?_⟩
   cases q with
   | bad r => exact ho
   | ok a1 r1 => show RunM _ _ _ _ _; unfold RunM; rw [if_pos h4.1]; exact ho
 · rw [e] at h2 ⊢
   obtain ⟨q,hq,ho⟩ := h2
   obtain ⟨q,hq,ho⟩ := qj6 hx hq ho
   refine ⟨q,hq,?_⟩
   cases q with
   | bad r => exact ho
   | ok a1 r1 => show RunM _ _ _ _ _; unfold RunM; rw [if_pos h4.1]; exact ho
 · rw [e] at h2 ⊢
   unfold RunM at h2
   rw [if_neg hk] at h2
   obtain ⟨q,hq,ho⟩ := h2
   obtain ⟨q,hq,ho⟩ := qj6 hx hq ho
   refine ⟨q,hq,?_⟩
   cases q with
   | bad r => exact ho
   | ok a1 r1 => show RunM _ _ _ _ _; unfold RunM; rw [if_pos h4.1]; unfold RunM; rw [if_neg hk]; exact ho
theorem qpm {all : List NodeC} {x : Tok} {r : List Tok} {k : Int} {q o : POut} {f : List NodeC → List Tok → Prop} (hx : addK x = some k) (hq : Ps .sumL all (x :: r) q) (ho : q.then_ o f) :
   ∃ q,Ps .factor all r q ∧ q.then_ o fun a1 r1 => ∃ q,Ps .prodL a1 r1 q ∧ q.then_ o fun a2 r2 => ∃ q,Ps .sumL (a2 ++ [binN k (vr all) (vr a2)]) r2 q ∧ q.then_ o f := by
 cases hq with
 | sumL_end h0 => simp only [hdK] at h0; rw [h0] at hx; cases hx
 | sumL_bad h0 h =>
   rw [hx] at h0; cases h0
   cases h with
   | product_bad h => exact ⟨_,h,ho⟩
   | product_ok h1 h2 => exact ⟨_,h1,_,h2,ho⟩
 | sumL_ok h0 h h3 =>
   rw [hx] at h0; cases h0
   cases h with
   | product_ok h1 h2 => exact ⟨_,h1,_,h2,_,h3,ho⟩
theorem qyk {x : Tok} {k : Int} (h : addK x = some k) : mulK x = Option.none := by
 unfold addK at h
 split at h
 · rename_i h1
   unfold mulK
   rw [if_neg (by rw [isT_no h1 (by decide)]; decide),if_neg (by rw [isT_no h1 (by decide)]; decide)]
 · split at h
   · rename_i h1
     unfold mulK
     rw [if_neg (by rw [isT_no h1 (by decide)]; decide),if_neg (by rw [isT_no h1 (by decide)]; decide)]
   · cases h
theorem RunM.add {K : List Fr} {all : List NodeC} {x : Tok} {r : List Tok} {k : Int} {o : POut} (hK : FrOk K) (h : RunM K true all (x :: r) o) (hx : addK x = some k) : RunE (.bin k (vr (q8 1 K all).2) :: (q8 1 K all).1) (q8 1 K all).2 r o := by
 have h2 := RunM.fold1 (.inl rfl) (show hdK mulK (x :: r) = Option.none from qyk hx) hK h
 have h4 := qj8 hx
 rcases qfz (b := 1) (K := K) (all := all) (.inl rfl) hK with e | ⟨K',e⟩
 · rw [e] at h2 ⊢
   obtain ⟨q,hq,ho⟩ := h2
   obtain ⟨q,hq,ho⟩ := qpm hx hq ho
   refine ⟨q,hq,?_⟩
   cases q with
   | bad r => exact ho
   | ok a1 r1 => show RunM _ _ _ _ _; unfold RunM; rw [if_neg (by omega)]; exact ho
 · rw [e] at h2 ⊢
   obtain ⟨q,hq,ho⟩ := h2
   obtain ⟨q,hq,ho⟩ := qpm hx hq ho
   refine ⟨q,hq,?_⟩
   cases q with
   | bad r => exact ho
   | ok a1 r1 => show RunM _ _ _ _ _; unfold RunM; rw [if_neg (by omega)]; exact ho
theorem qyl {x : Tok} {t : ByteArray} (h : isT x 2 t = true) (h1 : t ≠ qaa) (h2 : t ≠ qa3) : mulK x = Option.none := by
 unfold mulK
 rw [if_neg (by rw [isT_no h (fun e => h1 e.2)]; decide),if_neg (by rw [isT_no h (fun e => h2 e.2)]; decide)]
theorem qym {x : Tok} {t : ByteArray} (h : isT x 2 t = true) (h1 : t ≠ zk) (h2 : t ≠ vf) : addK x = Option.none := by
 unfold addK
 rw [if_neg (by rw [isT_no h (fun e => h1 e.2)]; decide),if_neg (by rw [isT_no h (fun e => h2 e.2)]; decide)]
theorem RunM.shut {K : List Fr} {all : List NodeC} {x : Tok} {r : List Tok} {o : POut} (hK : FrOk K) (h : RunM K true all (x :: r) o) (hx : isT x 2 rpar = true) : match (q8 0 K all).1 with
   | .br :: K' => RunA K' (q8 0 K all).2 r o
   | _ => o = .bad (x :: r) := by
 have h2 := RunM.fold1 (b := 0) (.inr rfl) (show hdK mulK (x :: r) = Option.none from qyl hx (by decide) (by decide)) hK h
 have ha : hdK addK (x :: r) = Option.none := qym hx (by decide) (by decide)
 rcases qfz (b := 0) (K := K) (all := all) (.inr rfl) hK with e | ⟨K',e⟩
 · rw [e] at h2 ⊢
   obtain ⟨q,hq,ho⟩ := h2
   rw [hq.sumL_fin ha] at ho
   simp only [POut.then_] at ho
   rw [if_neg (by rw [isT_no hx (by decide)]; decide)] at ho
   exact ho
 · rw [e] at h2 ⊢
   obtain ⟨q,hq,ho⟩ := h2
   rw [hq.sumL_fin ha] at ho
   simp only [POut.then_] at ho
   rw [if_pos hx] at ho
   exact ho
theorem RunM.fin {K : List Fr} {all : List NodeC} {r : List Tok} {o : POut} (hK : FrOk K) (h : RunM K true all r o) (hm : hdK mulK r = Option.none) (ha : hdK addK r = Option.none) (hp : hdT r 2 rpar = false) :
   if (q8 0 K all).1 = [] ∧ hdT r 2 ye = true then o = .ok (q8 0 K all).2 (r.drop 1) else o = .bad r := by
 have h2 := RunM.fold1 (b := 0) (.inr rfl) hm hK h
 rcases qfz (b := 0) (K := K) (all := all) (.inr rfl) hK with e | ⟨K',e⟩
 · rw [e] at h2 ⊢
   obtain ⟨q,hq,ho⟩ := h2
   rw [hq.sumL_fin ha] at ho
   simp only [POut.then_] at ho
   cases r with
   | nil => rw [if_neg (by simp [hdT])]; exact ho
   | cons y r => simpa [hdT] using ho
 · rw [e] at h2 ⊢
   obtain ⟨q,hq,ho⟩ := h2
   rw [hq.sumL_fin ha] at ho
   simp only [POut.then_] at ho
   rw [if_neg (by simp)]
   cases r with
   | nil => exact ho
   | cons y r => simp only [hdT] at hp; change (if isT y 2 rpar = true then _ else _) at ho; rw [if_neg (by simp [hp])] at ho; exact ho
def yf (x : Tok) : Bool := x.kind == 0 && vt x.text
def hdN : List Tok → Bool
 | [] => false
 | x :: _ => yf x
inductive NOut where
 | bad (r : List Tok)
 | ok (l : List ByteArray) (r : List Tok)
def NOut.cons (s : ByteArray) : NOut → NOut
 | .bad r => .bad r
 | .ok l r => .ok (s :: l) r
def q9 : List Tok → NOut
 | [] => .bad []
 | [x] => .bad (if yf x then [] else [x])
 | x :: y :: r => if yf x then (if isT y 2 qab then (q9 r).cons x.text else if isT y 2 ye then .ok [x.text] r else .bad (y :: r)) else .bad (x :: y :: r)
def NOut.after (l : List ByteArray) : NOut → NOut
 | .bad r => .bad r
 | .ok m r => .ok (l ++ m) r
theorem NOut.after_nil (o : NOut) : o.after [] = o := by cases o <;> rfl
theorem NOut.after_cons (l : List ByteArray) (s : ByteArray) (o : NOut) : (o.cons s).after l = o.after (l ++ [s]) := by
 cases o with
 | bad r => rfl
 | ok m r => show NOut.ok _ _ = NOut.ok _ _; simp
def NOut.fits (n : Nat) : NOut → Prop
 | .bad r => r.length ≤ n
 | .ok l r => r.length + 2 * l.length ≤ n ∧ 1 ≤ l.length
theorem qj9 : ∀ (r : List Tok), (q9 r).fits r.length
 | [] => Nat.le_refl _
 | [x] => by
   unfold q9
   split <;> simp [NOut.fits]
 | x :: y :: r => by
   have ih := qj9 r
   unfold q9
   split
   · split
     · cases h : q9 r with
       | bad r1 => rw [h] at ih; simp only [NOut.cons,NOut.fits,List.length_cons] at *; omega
       | ok l r1 => rw [h] at ih; simp only [NOut.cons,NOut.fits,List.length_cons] at *; omega
     · split
       · simp only [NOut.fits,List.length_cons,List.length_nil]; omega
       · simp only [NOut.fits,List.length_cons]; omega
   · simp only [NOut.fits,List.length_cons]; omega
theorem qyn {r : List Tok} (h : hdN r = false) : q9 r = .bad r := by
 match r,h with
 | [],_ => rfl
 | [x],h => simp only [hdN] at h; unfold q9; rw [if_neg (by simp [h])]
 | x :: y :: r,h => simp only [hdN] at h; unfold q9; rw [if_neg (by simp [h])]
theorem qyo {x : Tok} {r : List Tok} (h : yf x = true) (hc : hdT r 2 qab = true) : q9 (x :: r) = (q9 (r.drop 1)).cons x.text := by
 match r,hc with
 | y :: r,hc => simp only [hdT] at hc; rw [q9,if_pos h,if_pos hc]; rfl
theorem qyp {x : Tok} {r : List Tok} (h : yf x = true) (hc : hdT r 2 qab = false) : q9 (x :: r) = if hdT r 2 ye then .ok [x.text] (r.drop 1) else .bad r := by
 match r,hc with
 | [],_ => rw [q9,if_pos h]; rfl
 | y :: r, hc =>
   simp only [hdT] at hc
   rw [q9,if_pos h,if_neg (by simp [hc])]
   rfl
inductive LO where
 | bad (r : List Tok)
 | ok (name : ByteArray) (all : List NodeC) (r : List Tok)
inductive Lt1 : List NodeC → List Tok → LO → Prop
 | noname {all : List NodeC} {r : List Tok} : hdN r = false → Lt1 all r (.bad r)
 | noeq {all : List NodeC} {x : Tok} {r : List Tok} : yf x = true → hdT r 2 je = false → Lt1 all (x :: r) (.bad r)
 | sumbad {all : List NodeC} {x y : Tok} {r r1 : List Tok} : yf x = true → isT y 2 je = true → Ps .sum all r (.bad r1) → Lt1 all (x :: y :: r) (.bad r1)
 | nosemi {all a1 : List NodeC} {x y : Tok} {r r1 : List Tok} : yf x = true → isT y 2 je = true → Ps .sum all r (.ok a1 r1) → hdT r1 2 ye = false → Lt1 all (x :: y :: r) (.bad r1)
 | ok {all a1 : List NodeC} {x y z : Tok} {r r1 : List Tok} : yf x = true → isT y 2 je = true → Ps .sum all r (.ok a1 (z :: r1)) → isT z 2 ye = true → Lt1 all (x :: y :: r) (.ok x.text a1 r1)
inductive LSO where
 | bad (r : List Tok)
 | ok (ls : List LetC) (all : List NodeC) (r : List Tok)
inductive Lts : List LetC → List NodeC → List Tok → LSO → Prop
 | fin {ls : List LetC} {all : List NodeC} {r : List Tok} : hdT r 0 letS = false → Lts ls all r (.ok ls all r)
 | bad {ls : List LetC} {all : List NodeC} {x : Tok} {r r1 : List Tok} : isT x 0 letS = true → Lt1 all r (.bad r1) → Lts ls all (x :: r) (.bad r1)
 | more {ls : List LetC} {all a1 : List NodeC} {x : Tok} {n : ByteArray} {r r1 : List Tok} {o : LSO} : isT x 0 letS = true → Lt1 all r (.ok n a1 r1) → Lts (ls ++ [⟨n,vr a1⟩]) a1 r1 o → Lts ls all (x :: r) o
inductive PO where
 | bad (r : List Tok)
 | ok (p : qv)
inductive Prg : List Tok → PO → Prop
 | noin {r : List Tok} : hdT r 0 inS = false → Prg r (.bad r)
 | insbad {x : Tok} {r r1 : List Tok} : isT x 0 inS = true → q9 r = .bad r1 → Prg (x :: r) (.bad r1)
 | letsbad {x : Tok} {r r1 r2 : List Tok} {ins : List ByteArray} : isT x 0 inS = true → q9 r = .ok ins r1 → Lts [] [] r1 (.bad r2) → Prg (x :: r) (.bad r2)
 | noout {x : Tok} {r r1 r2 : List Tok} {ins : List ByteArray} {ls : List LetC} {all : List NodeC} : isT x 0 inS = true → q9 r = .ok ins r1 → Lts [] [] r1 (.ok ls all r2) → hdT r2 0 outS = false → Prg (x :: r) (.bad r2)
 | outsbad {x y : Tok} {r r1 r2 r3 : List Tok} {ins : List ByteArray} {ls : List LetC} {all : List NodeC} : isT x 0 inS = true → q9 r = .ok ins r1 → Lts [] [] r1 (.ok ls all (y :: r2)) → isT y 0 outS = true → q9 r2 = .bad r3 → Prg (x :: r) (.bad r3)
 | tail {x y z : Tok} {r r1 r2 r3 : List Tok} {ins outs : List ByteArray} {ls : List LetC} {all : List NodeC} : isT x 0 inS = true → q9 r = .ok ins r1 → Lts [] [] r1 (.ok ls all (y :: r2)) → isT y 0 outS = true → q9 r2 = .ok outs (z :: r3) → Prg (x :: r) (.bad (z :: r3))
 | ok {x y : Tok} {r r1 r2 : List Tok} {ins outs : List ByteArray} {ls : List LetC} {all : List NodeC} : isT x 0 inS = true → q9 r = .ok ins r1 → Lts [] [] r1 (.ok ls all (y :: r2)) → isT y 0 outS = true → q9 r2 = .ok outs [] → Prg (x :: r) (.ok ⟨ins,ls,outs,all⟩)
theorem qf0 {r : List Tok} {k : Int} {t : ByteArray} (h : hdT r k t = true) : ∃ x r',r = x :: r' ∧ isT x k t = true := by
 cases r with
 | nil => cases h
 | cons x r => exact ⟨x,r,rfl,h⟩
theorem qyq {r : List Tok} (h : hdN r = true) : ∃ x r',r = x :: r' ∧ yf x = true := by
 cases r with
 | nil => cases h
 | cons x r => exact ⟨x,r,rfl,h⟩
theorem Lt1.some_out (all : List NodeC) (r : List Tok) : ∃ o,Lt1 all r o := by
 cases hn : hdN r with
 | false => exact ⟨_,.noname hn⟩
 | true =>
   obtain ⟨x,r,rfl,hx⟩ := qyq hn
   cases he : hdT r 2 je with
   | false => exact ⟨_,.noeq hx he⟩
   | true =>
     obtain ⟨y,r,rfl,hy⟩ := qf0 he
     obtain ⟨o,ho⟩ := Ps.sum_out all r
     cases o with
     | bad r1 => exact ⟨_,.sumbad hx hy ho⟩
     | ok a1 r1 =>
       cases hs : hdT r1 2 ye with
       | false => exact ⟨_,.nosemi hx hy ho hs⟩
       | true =>
         obtain ⟨z,r1,rfl,hz⟩ := qf0 hs
         exact ⟨_,.ok hx hy ho hz⟩
theorem Lt1.len {all a1 : List NodeC} {r r1 : List Tok} {n : ByteArray} (h : Lt1 all r (.ok n a1 r1)) : r1.length < r.length := by
 cases h with
 | ok _ _ h1 _ =>
   have := h1.len
   simp only [POut.fits,List.length_cons] at *
   omega
theorem Lts.some_out : ∀ (n : Nat) (ls : List LetC) (all : List NodeC) (r : List Tok),r.length ≤ n → ∃ o,Lts ls all r o := by
 intro n
 induction n with
 | zero =>
   intro ls all r hr
   obtain rfl : r = [] := List.length_eq_zero_iff.1 (by omega)
   exact ⟨_,.fin rfl⟩
 | succ n ih =>
   intro ls all r hr
   cases hl : hdT r 0 letS with
   | false => exact ⟨_,.fin hl⟩
   | true =>
     obtain ⟨x,r,rfl,hx⟩ := qf0 hl
     obtain ⟨o,ho⟩ := Lt1.some_out all r
     cases o with
     | bad r1 => exact ⟨_,.bad hx ho⟩
     | ok nm a1 r1 =>
       have hlen := ho.len
       obtain ⟨o,ho2⟩ := ih (ls ++ [⟨nm,vr a1⟩]) a1 r1 (by simp only [List.length_cons] at hr; omega)
       exact ⟨_,.more hx ho ho2⟩
theorem Prg.some_out (r : List Tok) : ∃ o,Prg r o := by
 cases hi : hdT r 0 inS with
 | false => exact ⟨_,.noin hi⟩
 | true =>
   obtain ⟨x,r,rfl,hx⟩ := qf0 hi
   cases hn : q9 r with
   | bad r1 => exact ⟨_,.insbad hx hn⟩
   | ok ins r1 =>
     obtain ⟨o,ho⟩ := Lts.some_out r1.length [] [] r1 (Nat.le_refl _)
     cases o with
     | bad r2 => exact ⟨_,.letsbad hx hn ho⟩
     | ok ls all r2 =>
       cases hu : hdT r2 0 outS with
       | false => exact ⟨_,.noout hx hn ho hu⟩
       | true =>
         obtain ⟨y,r2,rfl,hy⟩ := qf0 hu
         cases hm : q9 r2 with
         | bad r3 => exact ⟨_,.outsbad hx hn ho hy hm⟩
         | ok outs r3 =>
           cases r3 with
           | nil => exact ⟨_,.ok hx hn ho hy hm⟩
           | cons z r3 => exact ⟨_,.tail hx hn ho hy hm⟩
theorem qek (s : ByteArray) (i : Nat) (h : i < s.size) : s.data.toList.drop i = s.get! i :: s.data.toList.drop (i + 1) := by
 have h' : i < s.data.toList.length := by rw [Array.length_toList]; exact h
 rw [List.drop_eq_getElem_cons h']
 congr 1
 show _ = s.data[i]!
 have h2 : i < s.data.size := h
 rw [getElem!_pos s.data i h2]
 simp
theorem qpn (s : ByteArray) : ∀ (f i : Nat), i ≤ s.size → i ≤ yh s f i
 | 0,i,h => h
 | f + 1, i, h => by
   simp only [yh]
   by_cases h1 : s.size ≤ i
   · rw [if_pos h1]; exact h
   · rw [if_neg h1]
     split
     · exact Nat.le_refl _
     · have := qpn s f (i + 1) (by omega); omega
theorem qpo (s : ByteArray) : ∀ (f i : Nat), i + f = s.size → Lib.index (s.data.toList.drop i) [124] = if yh s f i = s.size then -1 else ((yh s f i : Int) - i)
 | 0, i, h => by
   have e : s.data.toList.drop i = [] := List.drop_eq_nil_of_le (by rw [Array.length_toList]; show s.size ≤ i; omega)
   rw [e]
   simp only [yh,if_true]
   rfl
 | f + 1, i, h => by
   have hi : i < s.size := by omega
   have ih := qpo s f (i + 1) (by omega)
   have hle := qj2 s f (i + 1)
   rw [qek s i hi]
   have hstep : yh s (f + 1) i = if (s.get! i).toNat = 124 then i else yh s f (i + 1) := by
     conv => lhs; simp only [yh]
     rw [if_neg (c := s.size ≤ i) (by omega)]
   rw [hstep]
   unfold Lib.index
   by_cases h1 : (s.get! i).toNat = 124
   · have hb : s.get! i = 124 := UInt8.toNat_inj.1 h1
     have hp : (List.isPrefixOf [124] (s.get! i :: s.data.toList.drop (i + 1))) = true := by simp [List.isPrefixOf,hb]
     rw [if_pos h1,if_neg (c := i = s.size) (by omega),if_pos hp]
     omega
   · have hb : ¬ (124 : UInt8) = s.get! i := fun e => h1 (by rw [← e]; rfl)
     have hp : (List.isPrefixOf [124] (s.get! i :: s.data.toList.drop (i + 1))) = false := by simp [List.isPrefixOf,hb]
     rw [if_neg h1,if_neg (by rw [hp]; exact Bool.false_ne_true),ih]
     by_cases h2 : yh s f (i + 1) = s.size
     · rw [if_pos h2,if_pos h2]; rfl
     · rw [if_neg h2, if_neg h2]
       have hg : i + 1 ≤ yh s f (i + 1) := qpn s f (i + 1) (by omega)
       rw [if_neg (by rw [beq_iff_eq]; omega)]
       omega
theorem qyr (s : ByteArray) : Lib.indexB s ⟨#[124]⟩ = if cutZ s = s.size then -1 else (cutZ s : Int) := by
 have h := qpo s s.size 0 (by omega)
 rw [List.drop_zero] at h
 show Lib.index s.data.toList [124] = _
 rw [h]
 unfold cutZ
 split <;> omega
theorem qys (s : ByteArray) : (⟨(Lib.cut s.data.toList (ByteArray.mk #[124]).data.toList).1.toArray⟩ : ByteArray) = s.extract 0 (cutZ s) ∧ (⟨(Lib.cut s.data.toList (ByteArray.mk #[124]).data.toList).2.1.toArray⟩ : ByteArray) = s.extract (cutZ s + 1) s.size ∧ (Lib.cut s.data.toList (ByteArray.mk #[124]).data.toList).2.2 = decide (cutZ s < s.size) := by
 have h := qyr s
 have hle := qbo s
 by_cases hc : cutZ s = s.size
 · rw [if_pos hc] at h
   obtain ⟨h1,h2,h3⟩ := Lib.cutB_miss s ⟨#[124]⟩ h
   rw [h1,h2,h3,hc]
   refine ⟨?_,?_,?_⟩
   · simp
   · rw [ByteArray.extract_eq_empty_iff.2 (by omega)]
   · simp
 · rw [if_neg hc] at h
   obtain ⟨h1,h2,h3⟩ := Lib.cutB_hit s ⟨#[124]⟩ _ h
   rw [h1,h2,h3,decide_eq_true (by omega)]
   exact ⟨rfl,rfl,rfl⟩
theorem qpp {α : Type} {motive : List α → Prop} (h0 : motive []) (h1 : ∀ l a,motive l → motive (l ++ [a])) (l : List α) : motive l := by
 have : ∀ m : List α,motive m.reverse := by
   intro m
   induction m with
   | nil => exact h0
   | cons a m ih => rw [List.reverse_cons]; exact h1 _ a ih
 have := this l.reverse
 rwa [List.reverse_reverse] at this
inductive Ex where
 | ref (t : ByteArray)
 | num (q : Rat)
 | neg (x : Ex)
 | pow (x : Ex) (e : Int)
 | bin (k : Int) (x y : Ex)
def Ex.n : Ex → Nat
 | .ref _ => 1
 | .num _ => 1
 | .neg x => x.n + 1
 | .pow x _ => x.n + 1
 | .bin _ x y => x.n + y.n + 1
theorem Ex.n_pos (x : Ex) : 0 < x.n := by cases x <;> simp [Ex.n]
def Ex.nd : Ex → Nat → List NodeC
 | .ref t,_ => [refN t]
 | .num q,_ => [numN q]
 | .neg x,b => x.nd b ++ [negN ((b : Int) + x.n - 1)]
 | .pow x e,b => x.nd b ++ [powN ((b : Int) + x.n - 1) e]
 | .bin k x y,b => x.nd b ++ y.nd (b + x.n) ++ [binN k ((b : Int) + x.n - 1) ((b : Int) + x.n + y.n - 1)]
theorem Ex.nd_len (x : Ex) : ∀ b,(x.nd b).length = x.n := by
 induction x with
 | ref t => intro b; rfl
 | num q => intro b; rfl
 | neg x ih => intro b; simp [Ex.nd,Ex.n,ih]
 | pow x e ih => intro b; simp [Ex.nd,Ex.n,ih]
 | bin k x y ih1 ih2 => intro b; simp [Ex.nd,Ex.n,ih1,ih2,Nat.add_assoc]
def Ex.h : Ex → Nat
 | .ref _ => 1
 | .num _ => 1
 | .neg x => x.h + 1
 | .pow x _ => x.h + 1
 | .bin _ x y => max x.h y.h + 1
def Ex.ok : Ex → Prop
 | .ref t => vt t = true
 | .num q => 0 ≤ q.num ∧ (digs q.num.natAbs).length ≤ 40 ∧ (digs q.den).length ≤ 40
 | .neg x => x.ok
 | .pow x e => x.ok ∧ -20 ≤ e ∧ e ≤ 20
 | .bin k x y => 2 ≤ k ∧ k ≤ 5 ∧ x.ok ∧ y.ok
theorem zf (all : List NodeC) (x : Ex) (b : Nat) : vr (all ++ x.nd b) = (all.length : Int) + x.n - 1 := by
 unfold vr; rw [List.length_append,x.nd_len]; omega
def qpq (t : Tok) : Prop := t.kind = 1 → numZ t.text = true
theorem qyt {s : ByteArray} : ∀ (f i : Nat),s.size ≤ i + f → i ≤ s.size → qf qj s i = s.size → ∀ j,i ≤ j → j < s.size → 48 ≤ (s.get! j).toNat ∧ (s.get! j).toNat ≤ 57 := by
 intro f
 induction f with
 | zero => intro i h1 h2 _ j h3 h4; omega
 | succ f ih =>
   intro i h1 h2 h j h3 h4
   by_cases hi : i < s.size
   · cases hd : qj (kAt s i) with
     | false => rw [qao hi hd] at h; omega
     | true =>
       have hk : kAt s i = 2 := by simpa [qj] using hd
       have h2' := qpb hk
       rw [qap hi hd,h2'.1] at h
       by_cases hj : j = i
       · subst hj; exact h2'.2
       · exact ih (i + 1) (by omega) (by omega) h j (by omega) h4
   · omega
theorem ju {s : ByteArray} (h : jm s = true) : (∀ j,j < s.size → 48 ≤ (s.get! j).toNat ∧ (s.get! j).toNat ≤ 57) ∧ 1 ≤ s.size ∧ s.size ≤ 40 ∧ (s.size = 1 ∨ (s.get! 0).toNat ≠ 48) := by
 unfold jm at h
 simp only [Bool.and_eq_true,Bool.or_eq_true,decide_eq_true_eq] at h
 obtain ⟨⟨⟨h1,h2⟩,h3⟩,h4⟩ := h
 exact ⟨fun j hj => qyt s.size 0 (by omega) (by omega) h3 j (by omega) hj,h1,h2,h4⟩
theorem qb0 (s : ByteArray) : s.toList = s.data.toList := by simp [ByteArray.toList_eq]
theorem qel {s : ByteArray} {j : Nat} (hj : j < s.size) : s.toList[j]? = some (s.get! j) := by
 rw [qb0]
 have := qek s j hj
 rw [← List.head?_drop,this]; rfl
theorem qbp (s : ByteArray) : s.toList.length = s.size := by rw [qb0]; rfl
theorem qf1 {s : ByteArray} (h : ∀ j,j < s.size → 48 ≤ (s.get! j).toNat ∧ (s.get! j).toNat ≤ 57) : ∀ b ∈ s.toList,48 ≤ b.toNat ∧ b.toNat ≤ 57 := by
 intro b hb
 obtain ⟨j,hj,rfl⟩ := List.getElem_of_mem hb
 have hj' : j < s.size := by rw [← qbp]; exact hj
 have := qel hj'
 rw [List.getElem?_eq_getElem hj] at this
 rw [Option.some.inj this]
 exact h j hj'
theorem qka (l : List UInt8) (b : UInt8) : decN (l ++ [b]) = 10 * decN l + (b.toNat - 48) := by unfold decN; rw [List.foldl_append]; rfl
theorem qkb {l : List UInt8} (h : ∀ b ∈ l,48 ≤ b.toNat ∧ b.toNat ≤ 57) : decN l < 10 ^ l.length := by
 revert h
 refine qpp (motive := fun l => (∀ b ∈ l,48 ≤ b.toNat ∧ b.toNat ≤ 57) → decN l < 10 ^ l.length) (fun _ => by decide) (fun l b ih h => ?_) l
 have h1 := ih fun x hx => h x (by simp [hx])
 have h2 := h b (by simp)
 rw [qka,List.length_append]
 show _ < 10 ^ (l.length + 1)
 rw [Nat.pow_succ]
 omega
theorem qpr : ∀ (k n : Nat), n < 10 ^ (k + 1) → (digs n).length ≤ k + 1
 | 0,n,h => by unfold digs; rw [dif_pos (by omega)]; simp
 | k + 1, n, h => by
   unfold digs
   split
   · simp
   · have := qpr k (n / 10) (by rw [Nat.pow_succ] at h; omega)
     rw [List.length_cons]; omega
theorem qhq {n : Nat} (h : n < 10 ^ 40) : (digs n).length ≤ 40 := qpr 39 n h
theorem qps (n d : Nat) (hd : d ≠ 0) : 0 ≤ (mkRat (n : Int) d).num ∧ (mkRat (n : Int) d).num.natAbs ≤ n ∧ (mkRat (n : Int) d).den ≤ d := by
 by_cases hn : n = 0
 · subst hn
   have e : mkRat ((0 : Nat) : Int) d = 0 := Rat.zero_mkRat d
   rw [e]
   exact ⟨Int.le_refl _,Nat.le_refl _,Nat.pos_of_ne_zero hd⟩
 · obtain ⟨h1, h2, h3⟩ := qfv (neg := false) hn hd
   have e : lowQ false n d = mkRat (n : Int) d := rfl
   rw [e] at h1 h2 h3
   refine ⟨?_,by rw [h1]; exact Nat.div_le_self _ _,by rw [h2]; exact Nat.div_le_self _ _⟩
   rw [decide_eq_false_iff_not] at h3
   exact Int.not_lt.1 h3
theorem qpt : ∀ (l : List UInt8) (n : Nat), 1 ≤ n → 1 ≤ l.foldl (fun n b => 10 * n + (b.toNat - 48)) n
 | [],n,h => h
 | b :: l,n,h => qpt l (10 * n + (b.toNat - 48)) (by omega)
theorem qpu {s : ByteArray} (h : jm s = true) (h0 : (s.toList == (ByteArray.mk #[48]).toList) = false) : decN s.toList ≠ 0 := by
 obtain ⟨h1,h2,h3,h4⟩ := ju h
 have hg := qel (s := s) (j := 0) (by omega)
 have hl := qbp s
 have hd := h1 0 (by omega)
 cases ht : s.toList with
 | nil => rw [ht] at hl; simp at hl; omega
 | cons b l =>
   rw [ht] at hg
   have e : b = s.get! 0 := by simpa using hg
   by_cases h48 : (s.get! 0).toNat = 48
   · rcases h4 with h4 | h4
     · rw [ht, h4] at hl
       have : l = [] := List.length_eq_zero_iff.1 (by simpa using hl)
       subst this
       exfalso
       rw [ht,beq_eq_false_iff_ne] at h0
       apply h0
       have : b = 48 := by rw [e]; exact UInt8.toNat_inj.1 h48
       rw [this]; simp [ByteArray.toList_eq]
     · exact absurd h48 h4
   · have := qpt l (10 * 0 + (b.toNat - 48)) (by rw [e]; omega)
     show decN (b :: l) ≠ 0
     unfold decN
     rw [List.foldl_cons]
     omega
theorem qhr (s : ByteArray) : s.extract 0 s.size = s := by simp
theorem qyu {s : ByteArray} (h : numZ s = true) : 0 ≤ (numQ s).num ∧ (digs (numQ s).num.natAbs).length ≤ 40 ∧ (digs (numQ s).den).length ≤ 40 := by
 have small : ∀ {u : ByteArray}, jm u = true → decN u.toList < 10 ^ 40 := fun {u} hu => by
   obtain ⟨h1,h2,h3,h4⟩ := ju hu
   have := qkb (qf1 h1)
   rw [qbp] at this
   exact Nat.lt_of_lt_of_le this (Nat.pow_le_pow_right (by decide) h3)
 unfold numZ at h
 unfold numQ
 split at h
 · rename_i hc
   rw [if_pos hc,hc,qhr]
   obtain ⟨a1,a2,a3⟩ := qps (decN s.toList) 1 (by decide)
   have hs := small h
   exact ⟨a1,qhq (by omega),qhq (by omega)⟩
 · rename_i hc
   rw [if_neg hc]
   simp only [Bool.and_eq_true,Bool.not_eq_true'] at h
   obtain ⟨a1,a2,a3⟩ := qps (decN (s.extract 0 (cutZ s)).toList) (decN (s.extract (cutZ s + 1) s.size).toList) (qpu h.1.2 h.2)
   have hs := small h.1.1
   have hs2 := small h.1.2
   exact ⟨a1,qhq (by omega),qhq (by omega)⟩
theorem qkc {s : ByteArray} {n : Nat} (hs : numZ s = true) (h : yl s = some n) : n ≤ 20 := by
 unfold yl at h
 split at h
 · rename_i h1
   cases h
   have hp : jm s = true := by
     unfold numZ at hs
     split at hs
     · exact hs
     · rename_i hc
       simp only [Bool.and_eq_true] at hs
       have hle := qbo s
       obtain ⟨_,h2,_,_⟩ := ju hs.1.1
       rw [ByteArray.size_extract] at h2
       omega
   have := qkb (qf1 (ju hp).1)
   rw [qbp,h1] at this
   omega
 · split at h
   · rename_i h2
     cases h
     exact h2.2.2
   · cases h
def POut.rest : POut → List Tok
 | .bad r => r
 | .ok _ r => r
theorem Expo.suf {r r1 : List Tok} {e : Option Int} (h : Expo r e r1) : r1 <:+ r := by
 cases h with
 | neg _ _ _ => exact ⟨[_,_],rfl⟩
 | neg_end _ => exact ⟨[_],rfl⟩
 | neg_bad _ _ => exact ⟨[_],rfl⟩
 | pos _ _ _ => exact ⟨[_],rfl⟩
 | pos_end => exact ⟨[],rfl⟩
 | pos_bad _ _ => exact ⟨[],rfl⟩
theorem Ps.suf {lv : Lv} {all : List NodeC} {r : List Tok} {o : POut} (h : Ps lv all r o) : o.rest <:+ r := by
 induction h with
 | par_bad _ _ ih => exact ih.trans (List.suffix_cons _ _)
 | par_ok _ _ _ ih => exact (List.suffix_cons _ _).trans (ih.trans (List.suffix_cons _ _))
 | par_no _ _ _ ih => exact ih.trans (List.suffix_cons _ _)
 | leaf _ => exact List.suffix_cons _ _
 | none => exact List.suffix_refl _
 | no _ _ => exact List.suffix_refl _
 | pow_none _ => exact List.suffix_refl _
 | pow_ok _ h => exact h.suf.trans (List.suffix_cons _ _)
 | pow_bad _ h => exact h.suf.trans (List.suffix_cons _ _)
 | power_bad _ ih => exact ih
 | power_ok _ _ ih1 ih2 => exact ih2.trans ih1
 | neg_bad _ _ ih => exact ih.trans (List.suffix_cons _ _)
 | neg_ok _ _ ih => exact ih.trans (List.suffix_cons _ _)
 | fac _ _ ih => exact ih
 | prodL_end _ => exact List.suffix_refl _
 | prodL_bad _ _ ih => exact ih.trans (List.suffix_cons _ _)
 | prodL_ok _ _ _ ih1 ih2 => exact ih2.trans (ih1.trans (List.suffix_cons _ _))
 | product_bad _ ih => exact ih
 | product_ok _ _ ih1 ih2 => exact ih2.trans ih1
 | sumL_end _ => exact List.suffix_refl _
 | sumL_bad _ _ ih => exact ih.trans (List.suffix_cons _ _)
 | sumL_ok _ _ _ ih1 ih2 => exact ih2.trans (ih1.trans (List.suffix_cons _ _))
 | sum_bad _ ih => exact ih
 | sum_ok _ _ ih1 ih2 => exact ih2.trans ih1
def yz (r : List Tok) : Prop := ∀ t ∈ r,qpq t
theorem yz.suf {r r1 : List Tok} (h : yz r) (hs : r1 <:+ r) : yz r1 := fun t ht => h t (hs.subset ht)
theorem qpv {x : Tok} (h : yy x = true) (hx : qpq x) : ∃ y : Ex,y.ok ∧ y.n = 1 ∧ ∀ b,y.nd b = [qar x] := by
 unfold yy at h
 unfold qar
 by_cases h1 : x.kind = 1
 · rw [if_pos h1]
   exact ⟨.num (numQ x.text),qyu (hx h1),rfl,fun _ => rfl⟩
 · rw [if_neg h1]
   simp [h1] at h
   exact ⟨.ref x.text,h.2,rfl,fun _ => rfl⟩
theorem Expo.le {r r1 : List Tok} {e : Int} (h : Expo r (some e) r1) (hr : yz r) : -20 ≤ e ∧ e ≤ 20 := by
 cases h with
 | neg _ h1 h2 => have := qkc (hr _ (by simp) h1) h2; omega
 | pos _ h1 h2 => have := qkc (hr _ (by simp) h1) h2; omega
def Lv.tail : Lv → Bool
 | .powL => true
 | .prodL => true
 | .sumL => true
 | _ => false
def qyv (lv : Lv) (all a1 : List NodeC) : Prop :=
 if lv.tail then ∀ (b : List NodeC) (x : Ex),x.ok → all = b ++ x.nd b.length → ∃ y : Ex,y.ok ∧ a1 = b ++ y.nd b.length
 else ∃ y : Ex,y.ok ∧ a1 = all ++ y.nd all.length
theorem qkd {x : Tok} {k : Int} (h : mulK x = some k) : 2 ≤ k ∧ k ≤ 5 := by have := qj7 h; omega
theorem qke {x : Tok} {k : Int} (h : addK x = some k) : 2 ≤ k ∧ k ≤ 5 := by have := qj8 h; omega
theorem Ps.ex {lv : Lv} {all : List NodeC} {r : List Tok} {o : POut} (h : Ps lv all r o) (hr : yz r) : ∀ a1 r1,o = .ok a1 r1 → qyv lv all a1 := by
 have bin_ex : ∀ {k : Int} {all a1 b : List NodeC} {x y : Ex},2 ≤ k ∧ k ≤ 5 → x.ok → y.ok → all = b ++ x.nd b.length → a1 = all ++ y.nd all.length → (Ex.bin k x y).ok ∧ a1 ++ [binN k (vr all) (vr a1)] = b ++ (Ex.bin k x y).nd b.length := by
   rintro k all a1 b x y hk hx hy rfl rfl;refine ⟨⟨hk.1,hk.2,hx,hy⟩,?_⟩
   rw [zf,zf,List.length_append,x.nd_len,List.append_assoc,List.append_assoc]
   simp only [Ex.nd,List.append_assoc]
   congr 4
 induction h with
 | par_bad _ _ _ => intro _ _ e; cases e
 | par_ok _ _ _ ih =>
   intro _ _ e; cases e
   exact ih (hr.suf (List.suffix_cons _ _)) _ _ rfl
 | par_no _ _ _ _ => intro _ _ e; cases e
 | leaf h =>
   intro _ _ e; cases e
   obtain ⟨y,h1,_,h3⟩ := qpv h (hr _ (by simp))
   exact ⟨y,h1,by rw [h3]⟩
 | none => intro _ _ e; cases e
 | no _ _ => intro _ _ e; cases e
 | pow_none _ =>
   intro _ _ e; cases e
   exact fun b x hx hb => ⟨x,hx,hb⟩
 | pow_ok _ h =>
   intro _ _ e; cases e
   refine fun b x hx hb => ⟨.pow x _,⟨hx,h.le (hr.suf (List.suffix_cons _ _))⟩,?_⟩
   rw [hb,zf,List.append_assoc]; rfl
 | pow_bad _ _ => intro _ _ e; cases e
 | power_bad _ _ => intro _ _ e; cases e
 | power_ok h1 _ ih1 ih2 =>
   intro _ _ e
   obtain ⟨y,hy,e1⟩ := ih1 hr _ _ rfl
   exact ih2 (hr.suf h1.suf) _ _ e _ y hy e1
 | neg_bad _ _ _ => intro _ _ e; cases e
 | neg_ok _ _ ih =>
   intro _ _ e; cases e
   obtain ⟨y,hy,e1⟩ := ih (hr.suf (List.suffix_cons _ _)) _ _ rfl
   refine ⟨.neg y,hy,?_⟩
   rw [e1,zf,List.append_assoc]; rfl
 | fac _ _ ih => exact ih hr
 | prodL_end _ =>
   intro _ _ e; cases e
   exact fun b x hx hb => ⟨x,hx,hb⟩
 | prodL_bad _ _ _ => intro _ _ e; cases e
 | prodL_ok hk h1 _ ih1 ih2 =>
   intro _ _ e b x hx hb
   have hr1 := hr.suf (List.suffix_cons _ _)
   obtain ⟨y,hy,e1⟩ := ih1 hr1 _ _ rfl
   obtain ⟨h2,h3⟩ := bin_ex (qkd hk) hx hy hb e1
   exact ih2 (hr1.suf h1.suf) _ _ e b _ h2 h3
 | product_bad _ _ => intro _ _ e; cases e
 | product_ok h1 _ ih1 ih2 =>
   intro _ _ e
   obtain ⟨y,hy,e1⟩ := ih1 hr _ _ rfl
   exact ih2 (hr.suf h1.suf) _ _ e _ y hy e1
 | sumL_end _ =>
   intro _ _ e; cases e
   exact fun b x hx hb => ⟨x,hx,hb⟩
 | sumL_bad _ _ _ => intro _ _ e; cases e
 | sumL_ok hk h1 _ ih1 ih2 =>
   intro _ _ e b x hx hb
   have hr1 := hr.suf (List.suffix_cons _ _)
   obtain ⟨y,hy,e1⟩ := ih1 hr1 _ _ rfl
   obtain ⟨h2,h3⟩ := bin_ex (qke hk) hx hy hb e1
   exact ih2 (hr1.suf h1.suf) _ _ e b _ h2 h3
 | sum_bad _ _ => intro _ _ e; cases e
 | sum_ok h1 _ ih1 ih2 =>
   intro _ _ e
   obtain ⟨y,hy,e1⟩ := ih1 hr _ _ rfl
   exact ih2 (hr.suf h1.suf) _ _ e _ y hy e1
end Go.Tw
namespace Go.Tw
open Go Go.RowKit
section
variable {P : Program} {Q : Exit → Act → World → Prop} {n : Nat} {D : List Deferred} {E : Env} {S S' : World → Prop} {ops : Array Oper} {rest : List Oper} {d : Nat} {op : Op} {ty : TypeId} {pos : String} {aft : Array Edge} {g : Option (Nat × Bool)} {v : Value} {w0 : World} {X : List Nat} {I I0 : Hp} {B B0 R : List Item}
theorem qyw {qm : Bool} {t : TypeId} {x : Operand} {u r : Value} (hg : qi ops E g) (hd : Nat.blt d n = true) (hx : ev E x = some u) (hr : ∀ w, (Instr.makeInterface t u).run P w = .ok r w)
   (k : TL qm P ops Q rest n D ((d,r) :: E) S) : TL qm P ops Q (⟨some d,.makeInterface t x,ty,pos,aft,g⟩ :: rest) n D E S :=
 o_rd hg hd (v := r) (fun a w ha hw d pos aft g => ⟨w,by simp only [execOp,ha.ev hx,Sem.run_bind,hr,Result.andThen_ok]; rfl,rfl⟩) k
theorem qyx {qm : Bool} {x : Operand} {xT T : TypeId} {u r : Value} (hg : qi ops E g) (hd : Nat.blt d n = true) (hx : ev E x = some u) (hr : ∀ w, (Instr.typeAssert u xT T true).run P w = .ok r w)
   (k : TL qm P ops Q rest n D ((d,r) :: E) S) : TL qm P ops Q (⟨some d,.typeAssert x xT T true,ty,pos,aft,g⟩ :: rest) n D E S :=
 o_rd hg hd (v := r) (fun a w ha hw d pos aft g => ⟨w,by simp only [execOp,ha.ev hx,Sem.run_bind,hr,Result.andThen_ok]; rfl,rfl⟩) k
theorem qkf {qm : Bool} {t : TypeId} {x : Operand} {u : Value} (hg : qi ops E g) (hd : Nat.blt d n = true) (hx : ev E x = some u) (hr : ∀ w, (Instr.makeInterface t u).run P w = .ok (.iface t u) w)
 (k : TL qm P ops Q rest n D ((d,.iface t u) :: E) S) : TL qm P ops Q (⟨some d,.makeInterface t x,ty,pos,aft,g⟩ :: rest) n D E S := qyw hg hd hx hr k
theorem qpw {qm : Bool} {x : Operand} {xT T : TypeId} {u : Value} (hg : qi ops E g) (hd : Nat.blt d n = true) (hx : ev E x = some (.iface T u)) (hr : ∀ w, (Instr.typeAssert (.iface T u) xT T true).run P w = .ok (.tuple #[u, .bool true]) w)
 (k : TL qm P ops Q rest n D ((d,.tuple #[u,.bool true]) :: E) S) : TL qm P ops Q (⟨some d,.typeAssert x xT T true,ty,pos,aft,g⟩ :: rest) n D E S := qyx hg hd hx hr k
theorem qem {j : Nat} {want : Bool} {d : Nat} {b : Bool} (h1 : zq ops j = some d) (h2 : look E d = some (.bool b)) (h3 : (b == !want) = true) : qiq ops E (some (j,want)) := ⟨d,h1,_,h2,fun b' e => by cases e; simpa using h3⟩
theorem qf2 {qm : Bool} {c : Operand} {b : Bool} (hg : qi ops E g) (hd : Nat.blt d n = true) (hc : ev E c = some (.bool b)) (h1 : b = true → TL qm P ops Q rest n D ((d, .bool true) :: E) S) (h0 : b = false → TL qm P ops Q rest n D ((d, .bool false) :: E) S) :
   TL qm P ops Q (⟨some d,.move c,ty,pos,aft,g⟩ :: rest) n D E S := by
 refine o_rd hg hd (zr (v := .bool b) (by simpa [pv] using hc)) ?_
 cases b
 · exact h0 rfl
 · exact h1 rfl
theorem qyy {x hx : Operand} {t e T : TypeId} {sz nn : Nat} {u : Value} {xs : List Value} {kd : IntKind} {h : Int} {B' : List Item} (hg : qi ops E g) (hd : Nat.blt d n = true) (hu : P.underlying t = some (.slice e)) (hsz : ∀ w, (sizeOf e).run P w = .ok sz w) (hxv : ev E x = some u) (hh : ev E hx = some (.int kd h))
   (hB : Put B (.row u T sz nn xs) B' (.row (yt u 0 h.toNat sz) T sz h.toNat (xs.take (h.toNat * sz)))) (hb : 0 ≤ h ∧ h ≤ nn)
   (k : TL false P ops Q rest n D ((d,yt u 0 h.toNat sz) :: E) (St w0 X I B')) : TL false P ops Q (⟨some d,.slice t x none (some hx) none,ty,pos,aft,g⟩ :: rest) n D E (St w0 X I B) := by
 have hel : P.underlying t = some (.slice (P.elem t)) := by rw [hu]; simp [Program.elem,hu]
 have hel2 : P.elem t = e := by simp [Program.elem,hu]
 refine o_op hg hd (v := yt u 0 h.toNat sz) (S' := St w0 X I B') (fun a w ha hS d pos aft g => ?_) k
 have hown : w.ownsRow 0 T sz u nn xs := hS.own _ hB.mem
 have hcap : ∃ A cap,u = .slice A nn cap ∧ nn ≤ cap := by
   rcases hown.2 with ⟨rfl,h0⟩ | ⟨gg,cap,cur,rfl,_,_,hc,_⟩
   · subst h0; exact ⟨none,0,rfl,Nat.le_refl _⟩
   · exact ⟨_,cap,rfl,hc⟩
 obtain ⟨A,cap,hv,hc⟩ := hcap
 have hx' : a.eval x = .slice A nn cap := by rw [ha.ev hxv]; exact hv
 have hr := run_slice_h (P := P) w t A nn cap hel kd h hb.1 (by omega)
 rw [hel2,hsz] at hr
 have hlen : (xs.take (h.toNat * sz)).length = h.toNat * sz := by
   rw [List.length_take,hown.1]
   exact Nat.min_eq_left (Nat.mul_le_mul_right _ (by omega))
 have hnew : w.ownsRow 0 T sz (yt u 0 h.toNat sz) h.toNat (xs.take (h.toNat * sz)) := by
   refine ⟨hlen,?_⟩
   rcases hown.2 with ⟨rfl,h0⟩ | ⟨gg,cap,cur,rfl,q1,q2,q3,q4,q5,q6⟩
   · subst h0
     have e0 : h.toNat = 0 := by omega
     rw [e0]
     exact .inl ⟨rfl,rfl⟩
   · by_cases hcap0 : cap = 0
     · subst hcap0
       have e0 : h.toNat = 0 := by omega
       rw [e0]
       exact .inr ⟨gg,0,cur,rfl,q1,q2,Nat.le_refl _,q4,q5,by simp⟩
     · refine .inr ⟨gg, cap, cur, ?_, q1, q2, by omega, q4, q5, ?_⟩
       · show sliced (some ⟨gg, 0, none⟩) 0 h.toNat cap sz = _
         unfold sliced
         rw [if_neg hcap0,Option.map_some,add_none]
         simp
       · rw [← q6,List.take_take,Nat.min_eq_left (Nat.mul_le_mul_right _ (by omega))]
 refine ⟨w,?_,hS.turn hB (But.refl _ _) hnew (fun b hb' => ?_)⟩
 · simp only [execOp,Sem.run_bind,Sem.run_pure,Option.map_none,Option.map_some,hx',ha.ev hh,run_sliceAt_slice w t _ _ _ _ hel,hr,Result.andThen_ok,hv,yt]
 · left
   rcases hown.2 with ⟨rfl,h0⟩ | ⟨gg,cap,cur,rfl,_⟩
   · subst h0
     have e0 : h.toNat = 0 := by omega
     rw [e0] at hb'
     exact hb'
   · change (yt (.slice (some ⟨gg, 0, none⟩) nn cap) 0 h.toNat sz).ownBlock = some b at hb'
     unfold yt sliced at hb'
     dsimp only at hb'
     split at hb'
     · exact hb'
     · rw [Option.map_some,add_none] at hb'; exact hb'
end
end Go.Tw
namespace Go.Proofs.YtfcmhcaggdakbaaGreatDoor
open Go Go.Tw
def qyz (r : LexR) (v : Value) (I : Hp) : Prop := ∃ u,v = .tuple #[u,plc (r.line,r.col),.int .i64 r.err] ∧ Slc I 4 u (r.toks.map Tok.cells)
end Go.Proofs.YtfcmhcaggdakbaaGreatDoor

/- Contracts of the library on strings at this program, laid. Conditions: none. -/
import Derived.Test.YtkmjcoofkgpanaaGreatDoorB15
import Derived.Shelf.Strings.Builder1
import Derived.Shelf.Small.Bits
import Derived.Shelf.Small.Strs
import Derived.Shelf.Small.Wraps
import Derived.Shelf.Strings.BuilderF
import Derived.Shelf.Strings.BuilderK
import Derived.Shelf.Strconv.Atoi
import Derived.Shelf.Strconv.Itoa0
import Derived.Shelf.Strconv.Itoa1
import Derived.Shelf.LaysM
import Derived.Shelf.Strconv.Itoa2
import Derived.Shelf.Strconv.Itoa3
import Derived.Shelf.Strconv.AtoiErrFast
import Derived.Shelf.Strconv.ParseIntEmpty
import Derived.Shelf.Strconv.AtoiFail
import Derived.Shelf.Strconv.Clone
import Derived.Shelf.Strconv.SyntaxError
import Derived.Shelf.LaysC
import Derived.Shelf.Strconv.ToError
import Derived.Shelf.Strconv.Lower
import Derived.Shelf.Strconv.ParseUint10
import Derived.Shelf.Strconv.ParseUint10Empty
import Derived.Shelf.Strconv.ParseUint10Any
import Derived.Shelf.Strconv.ParseInt10
import Derived.Shelf.Strconv.AtoiLong
import Derived.Shelf.Strconv.AtoiInnerAll
import Derived.Shelf.Strconv.RangeError
import Derived.Shelf.Strconv.ToErrorRange
import Derived.Shelf.Strconv.AtoiAll
import Derived.Shelf.Strings.Search1
import Derived.Shelf.Strings.Search2
import Derived.Shelf.Strings.Search3
import Derived.Shelf.Strings.Cut
import Derived.Shelf.Strings.Count
import Derived.Shelf.Strings.Shaped
import Derived.Shelf.Strings.Prefix
import Derived.Shelf.Strings.Split
import Derived.Shelf.Unicode.DecodeSlow
import Derived.Test.YtkmjcoofkgpanaaGreatDoorProg
import Derived.Test.YtkmjcoofkgpanaaGreatDoorB09
import Derived.Lib.ItoaLen
namespace Go.Proofs.YtkmjcoofkgpanaaGreatDoor
open Go.Shelf
def str_lays170_ren : Go.Shelf.Ren := ⟨fun | 170 => 109 | n => n, fun | 70 => 144 | 3 => 3 | 0 => 0 | 72 => 147 | 37 => 145 | 5 => 5 | n => n, fun | n => n⟩
theorem str_lays170 : Go.Proofs.Lays.n170 Tryz.prog str_lays170_ren := {
  mixed := by kernel_rfl
  f170 := Tryz.func109.trans (congrArg some (by kernel_rfl))
  t0 := Tryz.underlying0
  a0 := Tryz.isAgg0
  z0 := Tryz.sizeOf0
  v0 := Tryz.zeroValue0
  t3 := Tryz.underlying3
  a3 := Tryz.isAgg3
  z3 := Tryz.sizeOf3
  v3 := Tryz.zeroValue3
  t37 := Tryz.underlying145
  a37 := Tryz.isAgg145
  z37 := Tryz.sizeOf145
  v37 := Tryz.zeroValue145
  t70 := Tryz.underlying144
  a70 := Tryz.isAgg144
  z70 := Tryz.sizeOf144
  v70 := Tryz.zeroValue144
  t72 := Tryz.underlying147
  a72 := Tryz.isAgg147
  z72 := Tryz.sizeOf147
  v72 := Tryz.zeroValue147 }
def str_lays169_ren : Go.Shelf.Ren := ⟨fun | 169 => 110 | n => n, fun | 70 => 144 | 9 => 9 | 0 => 0 | 72 => 147 | 37 => 145 | 127 => 177 | 3 => 3 | 5 => 5 | n => n, fun | n => n⟩
theorem str_lays169 : Go.Proofs.Lays.n169 Tryz.prog str_lays169_ren := {
  mixed := by kernel_rfl
  f169 := Tryz.func110.trans (congrArg some (by kernel_rfl))
  t0 := Tryz.underlying0
  a0 := Tryz.isAgg0
  z0 := Tryz.sizeOf0
  v0 := Tryz.zeroValue0
  t3 := Tryz.underlying3
  a3 := Tryz.isAgg3
  z3 := Tryz.sizeOf3
  v3 := Tryz.zeroValue3
  t9 := Tryz.underlying9
  a9 := Tryz.isAgg9
  z9 := Tryz.sizeOf9
  v9 := Tryz.zeroValue9
  t37 := Tryz.underlying145
  a37 := Tryz.isAgg145
  z37 := Tryz.sizeOf145
  v37 := Tryz.zeroValue145
  t70 := Tryz.underlying144
  a70 := Tryz.isAgg144
  z70 := Tryz.sizeOf144
  v70 := Tryz.zeroValue144
  t72 := Tryz.underlying147
  a72 := Tryz.isAgg147
  z72 := Tryz.sizeOf147
  v72 := Tryz.zeroValue147
  t127 := Tryz.underlying177
  a127 := Tryz.isAgg177
  z127 := Tryz.sizeOf177
  v127 := Tryz.zeroValue177 }
theorem str_Builder_Extra_169 : Builder.Extra Tryz.prog str_lays169_ren := {
  sizeBuilder := by kernel_rfl
  liesBuilder := by kernel_rfl
  t5 := Tryz.underlying5
  a5 := Tryz.isAgg5
  z5 := Tryz.sizeOf5
  v5 := Tryz.zeroValue5
  infoByte := by kernel_rfl
  cellsByte := by kernel_rfl
  sizeByte := by kernel_rfl
  neB5 := by decide }
def str_lays137_ren : Go.Shelf.Ren := ⟨fun | 137 => 137 | 217 => 151 | 266 => 179 | n => n, fun | 9 => 9 | 5 => 5 | 3 => 3 | n => n, fun | n => n⟩
theorem str_lays137 : Go.Proofs.Lays.n137 Tryz.prog str_lays137_ren := {
  mixed := by kernel_rfl
  f137 := Tryz.func137.trans (congrArg some (by kernel_rfl))
  f217 := Tryz.func151.trans (congrArg some (by kernel_rfl))
  f266 := Tryz.func179.trans (congrArg some (by kernel_rfl))
  t3 := Tryz.underlying3
  a3 := Tryz.isAgg3
  z3 := Tryz.sizeOf3
  v3 := Tryz.zeroValue3
  t5 := Tryz.underlying5
  a5 := Tryz.isAgg5
  z5 := Tryz.sizeOf5
  v5 := Tryz.zeroValue5
  t9 := Tryz.underlying9
  a9 := Tryz.isAgg9
  z9 := Tryz.sizeOf9
  v9 := Tryz.zeroValue9 }
open Go.RowKit in
/-- strings.IndexByte: "IndexByte returns the index of the first instance of c in s, or -1 if c is not present in s.": IT RETURNS 'Lib.indexByte s c'; the world is as it was. (LAID: no walk: one application.) -/
theorem str_strings_IndexByte (s : ByteArray) (c : Int) (w : World) :
    Calls Tryz.prog 137 #[.string s, .int .u8 c] w fun e w' => e = .returned (.int .i64 (Lib.indexByte s.data.toList c.toNat.toUInt8)) ∧ w' = w := Any.strings_IndexByte str_lays137 s c w
def str_lays104_ren : Go.Shelf.Ren := ⟨fun | 104 => 138 | 211 => 152 | 207 => 156 | n => n, fun | 9 => 9 | 4 => 4 | 24 => 179 | 3 => 3 | n => n, fun | n => n⟩
theorem str_lays104 : Go.Proofs.Lays.n104 Tryz.prog str_lays104_ren := {
  mixed := by kernel_rfl
  f104 := Tryz.func138.trans (congrArg some (by kernel_rfl))
  f207 := Tryz.func156.trans (congrArg some (by kernel_rfl))
  f211 := Tryz.func152.trans (congrArg some (by kernel_rfl))
  t3 := Tryz.underlying3
  a3 := Tryz.isAgg3
  z3 := Tryz.sizeOf3
  v3 := Tryz.zeroValue3
  t4 := Tryz.underlying4
  a4 := Tryz.isAgg4
  z4 := Tryz.sizeOf4
  v4 := Tryz.zeroValue4
  t9 := Tryz.underlying9
  a9 := Tryz.isAgg9
  z9 := Tryz.sizeOf9
  v9 := Tryz.zeroValue9
  t24 := Tryz.underlying179
  a24 := Tryz.isAgg179
  z24 := Tryz.sizeOf179
  v24 := Tryz.zeroValue179 }
open Go.RowKit in
/-- strings.CutSuffix: "CutSuffix returns s without the provided ending suffix string and reports whether it found the suffix. If s doesn't end with suffix, CutSuffix returns s, false. If suffix is the empty string, CutSuffix returns s, true.": IT RETURNS '(Lib.trimSuffix s p, Lib.hasSuffix s p)'; the world is as it was. (LAID: no walk: one application.) -/
theorem str_strings_CutSuffix (s p : ByteArray) (w : World) (hs : s.size ≤ 9223372036854775807) :
    Calls Tryz.prog 138 #[.string s, .string p] w fun e w' => e = .returned (.tuple #[.string ⟨(Lib.trimSuffix s.data.toList p.data.toList).toArray⟩, .bool (Lib.hasSuffix s.data.toList p.data.toList)]) ∧ w' = w := Any.strings_CutSuffix str_lays104 s p w hs
open Go.RowKit in
/-- (*strings.Builder).Len: "Len returns the number of accumulated bytes; b.Len() == len(b.String()).": the world is as it was. (THE FORM '_f': 'Lib.IsBuilderF'.) (LAID: no walk: one application.) -/
theorem str_Builder_Len_f (B b : Nat) (bs : List Value) (w : World) (h : Lib.IsBuilderF 147 5 B b bs w) :
    Calls Tryz.prog 109 #[.pointer (some ⟨b, 0, none⟩)] w fun e w' => e = .returned (.int .i64 bs.length) ∧ w' = w := Any.Builder_Len_f str_lays170 B b bs w h
open Go.RowKit in
/-- (*strings.Builder).String: "String returns the accumulated string.": WHATEVER THE BUILDER HOLDS; THE FORM '_k': OVER 'Lib.IsBuilderF' (a builder that 'String()' may have read), AND WITH THE FRAME THAT REACHES ABOVE THE BUILDER: 'Lib.OthersKept': every block that is not b and is no row of uint8's stands as it stood: the iterator of a range among them. (LAID: no walk: one application.) -/
theorem str_Builder_String_any_k (B b : Nat) (l : List UInt8) (w : World) (h : Lib.IsBuilderF 147 5 B b (Lib.byteCells l) w) (hBw : B ≤ w.heap.size) :
    Calls Tryz.prog 110 #[.pointer (some ⟨b, 0, none⟩)] w fun e w' => e = .returned (.string ⟨l.toArray⟩) ∧ (Lib.IsBuilderF 147 5 B b (Lib.byteCells l) w' ∧ Below B w w' ∧ Lib.OthersKept 5 (some b) w w') := Any.Builder_String_any_k str_lays169 str_Builder_Extra_169 B b l w h hBw
def str_laysM171_ren : Go.Shelf.Ren := ⟨fun | 171 => 106 | 243 => 135 | 246 => 150 | 283 => 175 | 284 => 176 | 285 => 177 | 286 => 178 | 129 => 166 | 317 => 194 | 318 => 195 | 319 => 196 | 320 => 197 | 337 => 211 | 338 => 212 | n => n, fun | 3 => 3 | 9 => 9 | 2 => 2 | 4 => 4 | 171 => 214 | 0 => 0 | 53 => 208 | 37 => 145 | 5 => 5 | 173 => 216 | 212 => 231 | 51 => 206 | 20 => 20 | 213 => 232 | 46 => 192 | 232 => 254 | 233 => 255 | n => n, fun | 17 => 0 | 18 => 4 | 19 => 5 | n => n⟩
theorem str_laysM171 : Go.Proofs.LaysM.n171 Tryz.prog str_laysM171_ren := {
  mixed := by kernel_rfl
  f129 := Tryz.func166.trans (congrArg some (by kernel_rfl))
  f171 := Tryz.func106.trans (congrArg some (by kernel_rfl))
  f243 := Tryz.func135.trans (congrArg some (by kernel_rfl))
  f246 := Tryz.func150.trans (congrArg some (by kernel_rfl))
  f283 := Tryz.func175.trans (congrArg some (by kernel_rfl))
  f284 := Tryz.func176.trans (congrArg some (by kernel_rfl))
  f285 := Tryz.func177.trans (congrArg some (by kernel_rfl))
  f286 := Tryz.func178.trans (congrArg some (by kernel_rfl))
  f317 := Tryz.func194.trans (congrArg some (by kernel_rfl))
  f318 := Tryz.func195.trans (congrArg some (by kernel_rfl))
  f319 := Tryz.func196.trans (congrArg some (by kernel_rfl))
  f320 := Tryz.func197.trans (congrArg some (by kernel_rfl))
  f337 := Tryz.func211.trans (congrArg some (by kernel_rfl))
  f338 := Tryz.func212.trans (congrArg some (by kernel_rfl))
  t0 := Tryz.underlying0
  a0 := Tryz.isAgg0
  z0 := Tryz.sizeOf0
  v0 := Tryz.zeroValue0
  t2 := Tryz.underlying2
  a2 := Tryz.isAgg2
  z2 := Tryz.sizeOf2
  v2 := Tryz.zeroValue2
  t3 := Tryz.underlying3
  a3 := Tryz.isAgg3
  z3 := Tryz.sizeOf3
  v3 := Tryz.zeroValue3
  t4 := Tryz.underlying4
  a4 := Tryz.isAgg4
  z4 := Tryz.sizeOf4
  v4 := Tryz.zeroValue4
  t5 := Tryz.underlying5
  a5 := Tryz.isAgg5
  z5 := Tryz.sizeOf5
  v5 := Tryz.zeroValue5
  t9 := Tryz.underlying9
  a9 := Tryz.isAgg9
  z9 := Tryz.sizeOf9
  v9 := Tryz.zeroValue9
  t20 := Tryz.underlying20
  a20 := Tryz.isAgg20
  z20 := Tryz.sizeOf20
  v20 := Tryz.zeroValue20
  t37 := Tryz.underlying145
  a37 := Tryz.isAgg145
  z37 := Tryz.sizeOf145
  v37 := Tryz.zeroValue145
  t46 := Tryz.underlying192
  a46 := Tryz.isAgg192
  z46 := Tryz.sizeOf192
  v46 := Tryz.zeroValue192
  t51 := Tryz.underlying206
  a51 := Tryz.isAgg206
  z51 := Tryz.sizeOf206
  v51 := Tryz.zeroValue206
  t53 := Tryz.underlying208
  a53 := Tryz.isAgg208
  z53 := Tryz.sizeOf208
  v53 := Tryz.zeroValue208
  t171 := Tryz.underlying214
  a171 := Tryz.isAgg214
  z171 := Tryz.sizeOf214
  v171 := Tryz.zeroValue214
  t173 := Tryz.underlying216
  a173 := Tryz.isAgg216
  z173 := Tryz.sizeOf216
  v173 := Tryz.zeroValue216
  t212 := Tryz.underlying231
  a212 := Tryz.isAgg231
  z212 := Tryz.sizeOf231
  v212 := Tryz.zeroValue231
  t213 := Tryz.underlying232
  a213 := Tryz.isAgg232
  z213 := Tryz.sizeOf232
  t232 := Tryz.underlying254
  a232 := Tryz.isAgg254
  z232 := Tryz.sizeOf254
  v232 := Tryz.zeroValue254
  t233 := Tryz.underlying255
  a233 := Tryz.isAgg255
  z233 := Tryz.sizeOf255
  v233 := Tryz.zeroValue255
  g17 := by kernel_rfl
  g18 := by kernel_rfl
  g19 := by kernel_rfl
  i0 := by kernel_rfl
  i2 := by kernel_rfl
  i3 := by kernel_rfl
  i4 := by kernel_rfl
  i5 := by kernel_rfl
  i9 := by kernel_rfl
  i20 := by kernel_rfl
  i37 := by kernel_rfl
  i46 := by kernel_rfl
  i51 := by kernel_rfl
  i53 := by kernel_rfl
  i171 := by kernel_rfl
  i173 := by kernel_rfl
  i212 := by kernel_rfl
  i232 := by kernel_rfl
  i233 := by kernel_rfl
  m17 := by kernel_rfl
  m18 := by kernel_rfl
  m19 := by kernel_rfl }
open Go.RowKit Go.Sort Go.Lib in
/-- strconv.Itoa: "Itoa is equivalent to FormatInt(int64(i), 10).": i's DECIMAL NUMERAL ('Lib.itoa': a '-' where i is negative, then the digits), FOR EVERY int. The world behind the call: the world before it, new blocks behind the heap (the library's 'var a [24]byte'), draws. (LAID: no walk: one application.) -/
theorem str_strconv_Itoa (n : Int) (h0 : -9223372036854775808 ≤ n) (h1 : n ≤ 9223372036854775807) (w : World) (htab : Lib.TabIs Tryz.prog w "internal/strconv.uint64pow10" .u64 Lib.pow10Tab) :
    Calls Tryz.prog 106 #[.int .i64 n] w fun e w' => e = .returned (.string ⟨(Lib.itoa n).toArray⟩) ∧ ∃ k os, w' = grow (w.drewN k) os := Any.strconv_Itoa str_laysM171 n h0 h1 w htab
def str_laysC172_ren : Go.Shelf.Ren := ⟨fun | 172 => 154 | 244 => 181 | 245 => 182 | 247 => 201 | 279 => 202 | 280 => 203 | 281 => 204 | 282 => 205 | 287 => 214 | 316 => 215 | 171 => 106 | 205 => 216 | 321 => 218 | 322 => 219 | 243 => 135 | 246 => 150 | 283 => 175 | 284 => 176 | 285 => 177 | 286 => 178 | 129 => 166 | 317 => 194 | 318 => 195 | 319 => 196 | 320 => 197 | 337 => 211 | 338 => 212 | n => n, fun | 9 => 9 | 3 => 3 | 75 => 149 | 76 => 150 | 4 => 4 | 5 => 5 | 167 => 233 | 37 => 145 | 0 => 0 | 85 => 234 | 2 => 2 | 168 => 236 | 53 => 208 | 175 => 248 | 46 => 192 | 210 => 252 | 127 => 177 | 145 => 259 | 143 => 257 | 21 => 21 | 171 => 214 | 173 => 216 | 212 => 231 | 51 => 206 | 20 => 20 | 213 => 232 | 232 => 254 | 233 => 255 | 80 => 155 | n => n, fun | 15 => 2 | 16 => 3 | 17 => 0 | 18 => 4 | 19 => 5 | n => n⟩
theorem str_laysC172 : Go.Proofs.LaysC.n172 Tryz.prog str_laysC172_ren := {
  mixed := by kernel_rfl
  f129 := Tryz.func166.trans (congrArg some (by kernel_rfl))
  f171 := Tryz.func106.trans (congrArg some (by kernel_rfl))
  f172 := Tryz.func154.trans (congrArg some (by kernel_rfl))
  f205 := Tryz.func216.trans (congrArg some (by kernel_rfl))
  f243 := Tryz.func135.trans (congrArg some (by kernel_rfl))
  f244 := Tryz.func181.trans (congrArg some (by kernel_rfl))
  f245 := Tryz.func182.trans (congrArg some (by kernel_rfl))
  f246 := Tryz.func150.trans (congrArg some (by kernel_rfl))
  f247 := Tryz.func201.trans (congrArg some (by kernel_rfl))
  f279 := Tryz.func202.trans (congrArg some (by kernel_rfl))
  f280 := Tryz.func203.trans (congrArg some (by kernel_rfl))
  f281 := Tryz.func204.trans (congrArg some (by kernel_rfl))
  f282 := Tryz.func205.trans (congrArg some (by kernel_rfl))
  f283 := Tryz.func175.trans (congrArg some (by kernel_rfl))
  f284 := Tryz.func176.trans (congrArg some (by kernel_rfl))
  f285 := Tryz.func177.trans (congrArg some (by kernel_rfl))
  f286 := Tryz.func178.trans (congrArg some (by kernel_rfl))
  f287 := Tryz.func214.trans (congrArg some (by kernel_rfl))
  f316 := Tryz.func215.trans (congrArg some (by kernel_rfl))
  f317 := Tryz.func194.trans (congrArg some (by kernel_rfl))
  f318 := Tryz.func195.trans (congrArg some (by kernel_rfl))
  f319 := Tryz.func196.trans (congrArg some (by kernel_rfl))
  f320 := Tryz.func197.trans (congrArg some (by kernel_rfl))
  f321 := Tryz.func218.trans (congrArg some (by kernel_rfl))
  f322 := Tryz.func219.trans (congrArg some (by kernel_rfl))
  f337 := Tryz.func211.trans (congrArg some (by kernel_rfl))
  f338 := Tryz.func212.trans (congrArg some (by kernel_rfl))
  t0 := Tryz.underlying0
  a0 := Tryz.isAgg0
  z0 := Tryz.sizeOf0
  v0 := Tryz.zeroValue0
  t2 := Tryz.underlying2
  a2 := Tryz.isAgg2
  z2 := Tryz.sizeOf2
  v2 := Tryz.zeroValue2
  t3 := Tryz.underlying3
  a3 := Tryz.isAgg3
  z3 := Tryz.sizeOf3
  v3 := Tryz.zeroValue3
  t4 := Tryz.underlying4
  a4 := Tryz.isAgg4
  z4 := Tryz.sizeOf4
  v4 := Tryz.zeroValue4
  t5 := Tryz.underlying5
  a5 := Tryz.isAgg5
  z5 := Tryz.sizeOf5
  v5 := Tryz.zeroValue5
  t9 := Tryz.underlying9
  a9 := Tryz.isAgg9
  z9 := Tryz.sizeOf9
  v9 := Tryz.zeroValue9
  t20 := Tryz.underlying20
  a20 := Tryz.isAgg20
  z20 := Tryz.sizeOf20
  v20 := Tryz.zeroValue20
  t21 := Tryz.underlying21
  a21 := Tryz.isAgg21
  z21 := Tryz.sizeOf21
  v21 := Tryz.zeroValue21
  t37 := Tryz.underlying145
  a37 := Tryz.isAgg145
  z37 := Tryz.sizeOf145
  v37 := Tryz.zeroValue145
  t46 := Tryz.underlying192
  a46 := Tryz.isAgg192
  z46 := Tryz.sizeOf192
  v46 := Tryz.zeroValue192
  t51 := Tryz.underlying206
  a51 := Tryz.isAgg206
  z51 := Tryz.sizeOf206
  v51 := Tryz.zeroValue206
  t53 := Tryz.underlying208
  a53 := Tryz.isAgg208
  z53 := Tryz.sizeOf208
  v53 := Tryz.zeroValue208
  t75 := Tryz.underlying149
  a75 := Tryz.isAgg149
  z75 := Tryz.sizeOf149
  v75 := Tryz.zeroValue149
  t76 := Tryz.underlying150
  a76 := Tryz.isAgg150
  z76 := Tryz.sizeOf150
  v76 := Tryz.zeroValue150
  t85 := Tryz.underlying234
  a85 := Tryz.isAgg234
  z85 := Tryz.sizeOf234
  v85 := Tryz.zeroValue234
  t127 := Tryz.underlying177
  a127 := Tryz.isAgg177
  z127 := Tryz.sizeOf177
  v127 := Tryz.zeroValue177
  t143 := Tryz.underlying257
  a143 := Tryz.isAgg257
  z143 := Tryz.sizeOf257
  v143 := Tryz.zeroValue257
  t145 := Tryz.underlying259
  a145 := Tryz.isAgg259
  z145 := Tryz.sizeOf259
  v145 := Tryz.zeroValue259
  t167 := Tryz.underlying233
  a167 := Tryz.isAgg233
  z167 := Tryz.sizeOf233
  v167 := Tryz.zeroValue233
  t168 := Tryz.underlying236
  a168 := Tryz.isAgg236
  z168 := Tryz.sizeOf236
  v168 := Tryz.zeroValue236
  t171 := Tryz.underlying214
  a171 := Tryz.isAgg214
  z171 := Tryz.sizeOf214
  v171 := Tryz.zeroValue214
  t173 := Tryz.underlying216
  a173 := Tryz.isAgg216
  z173 := Tryz.sizeOf216
  v173 := Tryz.zeroValue216
  t175 := Tryz.underlying248
  a175 := Tryz.isAgg248
  z175 := Tryz.sizeOf248
  v175 := Tryz.zeroValue248
  t210 := Tryz.underlying252
  a210 := Tryz.isAgg252
  z210 := Tryz.sizeOf252
  v210 := Tryz.zeroValue252
  t212 := Tryz.underlying231
  a212 := Tryz.isAgg231
  z212 := Tryz.sizeOf231
  v212 := Tryz.zeroValue231
  t213 := Tryz.underlying232
  a213 := Tryz.isAgg232
  z213 := Tryz.sizeOf232
  t232 := Tryz.underlying254
  a232 := Tryz.isAgg254
  z232 := Tryz.sizeOf254
  v232 := Tryz.zeroValue254
  t233 := Tryz.underlying255
  a233 := Tryz.isAgg255
  z233 := Tryz.sizeOf255
  v233 := Tryz.zeroValue255
  g15 := by kernel_rfl
  g16 := by kernel_rfl
  g17 := by kernel_rfl
  g18 := by kernel_rfl
  g19 := by kernel_rfl
  t80 := Tryz.underlying155
  a80 := Tryz.isAgg155
  z80 := Tryz.sizeOf155
  v80 := Tryz.zeroValue155
  i0 := by kernel_rfl
  i2 := by kernel_rfl
  i3 := by kernel_rfl
  i4 := by kernel_rfl
  i5 := by kernel_rfl
  i9 := by kernel_rfl
  i20 := by kernel_rfl
  i21 := by kernel_rfl
  i37 := by kernel_rfl
  i46 := by kernel_rfl
  i51 := by kernel_rfl
  i53 := by kernel_rfl
  i75 := by kernel_rfl
  i76 := by kernel_rfl
  i80 := by kernel_rfl
  i85 := by kernel_rfl
  i127 := by kernel_rfl
  i143 := by kernel_rfl
  i145 := by kernel_rfl
  i167 := by kernel_rfl
  i168 := by kernel_rfl
  i171 := by kernel_rfl
  i173 := by kernel_rfl
  i175 := by kernel_rfl
  i210 := by kernel_rfl
  i212 := by kernel_rfl
  i232 := by kernel_rfl
  i233 := by kernel_rfl
  m15 := by kernel_rfl
  m16 := by kernel_rfl
  m17 := by kernel_rfl
  m18 := by kernel_rfl
  m19 := by kernel_rfl
  c0 := by kernel_rfl
  c2 := by kernel_rfl
  c3 := by kernel_rfl
  c4 := by kernel_rfl
  c5 := by kernel_rfl
  c9 := by kernel_rfl
  c20 := by kernel_rfl
  c21 := by kernel_rfl
  c37 := by kernel_rfl
  c46 := by kernel_rfl
  c51 := by kernel_rfl
  c53 := by kernel_rfl
  c75 := by kernel_rfl
  c76 := by kernel_rfl
  c80 := by kernel_rfl
  c85 := by kernel_rfl
  c127 := by kernel_rfl
  c143 := by kernel_rfl
  c145 := by kernel_rfl
  c167 := by kernel_rfl
  c168 := by kernel_rfl
  c171 := by kernel_rfl
  c173 := by kernel_rfl
  c175 := by kernel_rfl
  c210 := by kernel_rfl
  c212 := by kernel_rfl
  c213 := by kernel_rfl
  c232 := by kernel_rfl
  c233 := by kernel_rfl }
open Go.RowKit in
/-- strconv.Atoi, AT EVERY STRING THAT SPELLS AN int ('Lib.atoiAll .. = .ok v'; of whatever length: leading zeros count): v, AND NO ERROR. The world: as it was, or with the one new row that '[]byte(..)' lays. (LAID: no walk: one application.) -/
theorem str_strconv_Atoi_ok (s : ByteArray) (hmax : s.size ≤ 9223372036854775806) (v : Int) (h : Lib.atoiAll s.data.toList = .ok v) (w : World) :
    Calls Tryz.prog 154 #[.string s] w fun e w' => e = .returned (.tuple #[.int .i64 v, .nilIface]) ∧ (w' = w ∨ ∃ t, w' = Lib.bytesWorld w 5 t) := Any.strconv_Atoi_ok str_laysC172 s hmax v h w
open Go.RowKit in
/-- strconv.Atoi, AT EVERY NUMERAL THAT NO int HOLDS ('.range'): THE GREATEST OR THE LEAST int, BY THE SIGN ('Lib.atoiSat'), AND AN ERROR THAT IS NOT nil: a *NumError in a new block N: {Func: "Atoi", Num: s's bytes, Err: what the variable ErrRange holds}. Of what was there nothing has turned. (LAID: no walk: one application.) -/
theorem str_strconv_Atoi_range (s : ByteArray) (hlim : s.size ≤ 281474976710656) (h : Lib.atoiAll s.data.toList = .range) (ev : Value) (w : World) (hv : w.cell? ⟨3, 0, none⟩ = some ev) (hev : ev = .nilIface ∨ ∃ te pe, ev = .iface te pe) :
    Calls Tryz.prog 154 #[.string s] w fun e w' => ∃ N, e = .returned (.tuple #[.int .i64 (Lib.atoiSat s.data.toList), .iface 236 (.pointer (some ⟨N, 0, none⟩))]) ∧ w.heap.size ≤ N ∧ w'.heap[N]? = some (.cells #[.string ⟨#[65, 116, 111, 105]⟩, .string s, ev] 252 (0, 0)) ∧ Below w.heap.size w w' := Any.strconv_Atoi_range str_laysC172 s hlim h ev w hv hev
def str_lays145_ren : Go.Shelf.Ren := ⟨fun | 145 => 139 | 220 => 153 | 219 => 180 | 217 => 151 | 225 => 198 | 224 => 199 | 267 => 200 | 266 => 179 | 314 => 213 | n => n, fun | 9 => 9 | 4 => 4 | 59 => 181 | 3 => 3 | 5 => 5 | 46 => 192 | 146 => 246 | 51 => 206 | n => n, fun | 1 => 1 | n => n⟩
theorem str_lays145 : Go.Proofs.Lays.n145 Tryz.prog str_lays145_ren := {
  mixed := by kernel_rfl
  f145 := Tryz.func139.trans (congrArg some (by kernel_rfl))
  f217 := Tryz.func151.trans (congrArg some (by kernel_rfl))
  f219 := Tryz.func180.trans (congrArg some (by kernel_rfl))
  f220 := Tryz.func153.trans (congrArg some (by kernel_rfl))
  f224 := Tryz.func199.trans (congrArg some (by kernel_rfl))
  f225 := Tryz.func198.trans (congrArg some (by kernel_rfl))
  f266 := Tryz.func179.trans (congrArg some (by kernel_rfl))
  f267 := Tryz.func200.trans (congrArg some (by kernel_rfl))
  f314 := Tryz.func213.trans (congrArg some (by kernel_rfl))
  t3 := Tryz.underlying3
  a3 := Tryz.isAgg3
  z3 := Tryz.sizeOf3
  v3 := Tryz.zeroValue3
  t4 := Tryz.underlying4
  a4 := Tryz.isAgg4
  z4 := Tryz.sizeOf4
  v4 := Tryz.zeroValue4
  t5 := Tryz.underlying5
  a5 := Tryz.isAgg5
  z5 := Tryz.sizeOf5
  v5 := Tryz.zeroValue5
  t9 := Tryz.underlying9
  a9 := Tryz.isAgg9
  z9 := Tryz.sizeOf9
  v9 := Tryz.zeroValue9
  t46 := Tryz.underlying192
  a46 := Tryz.isAgg192
  z46 := Tryz.sizeOf192
  v46 := Tryz.zeroValue192
  t51 := Tryz.underlying206
  a51 := Tryz.isAgg206
  z51 := Tryz.sizeOf206
  v51 := Tryz.zeroValue206
  t59 := Tryz.underlying181
  a59 := Tryz.isAgg181
  z59 := Tryz.sizeOf181
  v59 := Tryz.zeroValue181
  t146 := Tryz.underlying246
  a146 := Tryz.isAgg246
  z146 := Tryz.sizeOf246
  v146 := Tryz.zeroValue246
  g1 := by kernel_rfl }
open Go.RowKit Go.Lib in
/-- strings.Cut: "Cut slices s around the first instance of sep, returning the text before and after sep. The found result reports whether sep appears in s. If sep does not appear in s, cut returns s, "", false.": IT RETURNS 'Lib.cut s sep'; the world is as it was but for the count of draws. (LAID: no walk: one application.) -/
theorem str_strings_Cut (s sep : ByteArray) (m : Int) (w : World) (hs : s.size < 4294967281) (hm : w.cell? ⟨1, 0, none⟩ = some (.int .i64 m)) :
    Calls Tryz.prog 139 #[.string s, .string sep] w fun e w' => e = .returned (.tuple #[.string ⟨(Lib.cut s.data.toList sep.data.toList).1.toArray⟩, .string ⟨(Lib.cut s.data.toList sep.data.toList).2.1.toArray⟩, .bool (Lib.cut s.data.toList sep.data.toList).2.2]) ∧ ∃ n, w' = w.drewN n := Any.strings_Cut str_lays145 s sep m w hs hm
def str_lays100_ren : Go.Shelf.Ren := ⟨fun | 100 => 142 | 207 => 156 | n => n, fun | 9 => 9 | 4 => 4 | 3 => 3 | n => n, fun | n => n⟩
theorem str_lays100 : Go.Proofs.Lays.n100 Tryz.prog str_lays100_ren := {
  mixed := by kernel_rfl
  f100 := Tryz.func142.trans (congrArg some (by kernel_rfl))
  f207 := Tryz.func156.trans (congrArg some (by kernel_rfl))
  t3 := Tryz.underlying3
  a3 := Tryz.isAgg3
  z3 := Tryz.sizeOf3
  v3 := Tryz.zeroValue3
  t4 := Tryz.underlying4
  a4 := Tryz.isAgg4
  z4 := Tryz.sizeOf4
  v4 := Tryz.zeroValue4
  t9 := Tryz.underlying9
  a9 := Tryz.isAgg9
  z9 := Tryz.sizeOf9
  v9 := Tryz.zeroValue9 }
open Go.RowKit Go.Lib in
/-- strings.HasSuffix: "HasSuffix reports whether the string s ends with suffix.": IT RETURNS 'Lib.hasSuffix s suffix'; the world is as it was. ('hs': no Go string is longer: a caller has it of every string that it was handed.) (LAID: no walk: one application.) -/
theorem str_strings_HasSuffix (s p : ByteArray) (w : World) (hs : s.size ≤ 9223372036854775807) :
    Calls Tryz.prog 142 #[.string s, .string p] w fun e w' => e = .returned (.bool (Lib.hasSuffix s.data.toList p.data.toList)) ∧ w' = w := Any.strings_HasSuffix str_lays100 s p w hs
def str_lays146_ren : Go.Shelf.Ren := ⟨fun | 146 => 141 | 221 => 155 | 268 => 183 | 138 => 184 | 143 => 185 | 195 => 206 | 197 => 207 | 218 => 208 | 219 => 180 | 260 => 217 | 217 => 151 | 225 => 198 | 224 => 199 | 267 => 200 | 266 => 179 | 314 => 213 | n => n, fun | 9 => 9 | 31 => 185 | 3 => 3 | 4 => 4 | 0 => 0 | 105 => 240 | 21 => 21 | 5 => 5 | 46 => 192 | 119 => 260 | 139 => 263 | 138 => 262 | 146 => 246 | 51 => 206 | n => n, fun | 1 => 1 | 3 => 6 | 4 => 7 | n => n⟩
theorem str_lays146 : Go.Proofs.Lays.n146 Tryz.prog str_lays146_ren := {
  mixed := by kernel_rfl
  f138 := Tryz.func184.trans (congrArg some (by kernel_rfl))
  f143 := Tryz.func185.trans (congrArg some (by kernel_rfl))
  f146 := Tryz.func141.trans (congrArg some (by kernel_rfl))
  f195 := Tryz.func206.trans (congrArg some (by kernel_rfl))
  f197 := Tryz.func207.trans (congrArg some (by kernel_rfl))
  f217 := Tryz.func151.trans (congrArg some (by kernel_rfl))
  f218 := Tryz.func208.trans (congrArg some (by kernel_rfl))
  f219 := Tryz.func180.trans (congrArg some (by kernel_rfl))
  f221 := Tryz.func155.trans (congrArg some (by kernel_rfl))
  f224 := Tryz.func199.trans (congrArg some (by kernel_rfl))
  f225 := Tryz.func198.trans (congrArg some (by kernel_rfl))
  f260 := Tryz.func217.trans (congrArg some (by kernel_rfl))
  f266 := Tryz.func179.trans (congrArg some (by kernel_rfl))
  f267 := Tryz.func200.trans (congrArg some (by kernel_rfl))
  f268 := Tryz.func183.trans (congrArg some (by kernel_rfl))
  f314 := Tryz.func213.trans (congrArg some (by kernel_rfl))
  t0 := Tryz.underlying0
  a0 := Tryz.isAgg0
  z0 := Tryz.sizeOf0
  v0 := Tryz.zeroValue0
  t3 := Tryz.underlying3
  a3 := Tryz.isAgg3
  z3 := Tryz.sizeOf3
  v3 := Tryz.zeroValue3
  t4 := Tryz.underlying4
  a4 := Tryz.isAgg4
  z4 := Tryz.sizeOf4
  v4 := Tryz.zeroValue4
  t5 := Tryz.underlying5
  a5 := Tryz.isAgg5
  z5 := Tryz.sizeOf5
  v5 := Tryz.zeroValue5
  t9 := Tryz.underlying9
  a9 := Tryz.isAgg9
  z9 := Tryz.sizeOf9
  v9 := Tryz.zeroValue9
  t21 := Tryz.underlying21
  a21 := Tryz.isAgg21
  z21 := Tryz.sizeOf21
  v21 := Tryz.zeroValue21
  t31 := Tryz.underlying185
  a31 := Tryz.isAgg185
  z31 := Tryz.sizeOf185
  v31 := Tryz.zeroValue185
  t46 := Tryz.underlying192
  a46 := Tryz.isAgg192
  z46 := Tryz.sizeOf192
  v46 := Tryz.zeroValue192
  t51 := Tryz.underlying206
  a51 := Tryz.isAgg206
  z51 := Tryz.sizeOf206
  v51 := Tryz.zeroValue206
  t105 := Tryz.underlying240
  a105 := Tryz.isAgg240
  z105 := Tryz.sizeOf240
  v105 := Tryz.zeroValue240
  t119 := Tryz.underlying260
  a119 := Tryz.isAgg260
  z119 := Tryz.sizeOf260
  t138 := Tryz.underlying262
  a138 := Tryz.isAgg262
  z138 := Tryz.sizeOf262
  v138 := Tryz.zeroValue262
  t139 := Tryz.underlying263
  a139 := Tryz.isAgg263
  z139 := Tryz.sizeOf263
  v139 := Tryz.zeroValue263
  t146 := Tryz.underlying246
  a146 := Tryz.isAgg246
  z146 := Tryz.sizeOf246
  v146 := Tryz.zeroValue246
  g1 := by kernel_rfl
  g3 := by kernel_rfl
  g4 := by kernel_rfl }
open Go.RowKit Go.Lib in
/-- strings.Split. (LAID: no walk: one application.) -/
theorem str_strings_Split (s sep : ByteArray) (m : Int) (w : World) (hs : s.size < 4294967281) (hm : w.cell? ⟨1, 0, none⟩ = some (.int .i64 m)) (h1 : 1 ≤ sep.size) :
    Calls Tryz.prog 141 #[.string s, .string sep] w fun e w' =>
      e = .returned (.slice (some ⟨w.heap.size, 0, none⟩) (Lib.countB s sep + 1) (Lib.countB s sep + 1)) ∧ w' = w.alloc (.cells ((Lib.splitB sep 0 (Lib.countB s sep) s).map Value.string).toArray 9) := Any.strings_Split str_lays146 (by kernel_rfl) s sep m w hs hm h1
end Go.Proofs.YtkmjcoofkgpanaaGreatDoor

/- A builder of strings, of the program, walked. Conditions: the builder is the call's own. -/
namespace Go.Proofs.YtkmjcoofkgpanaaGreatDoor
open Go.RowKit Go.ChangeMaps
set_option maxHeartbeats 4000000
set_option maxRecDepth 100000

/-! ## a builder of strings -/
theorem nBuilder_copyCheck_used (b : Nat) (w : World) (h0 : w.cell? ⟨b, 0, none⟩ = some (.pointer (some ⟨b, 0, none⟩))) :
    Calls Tryz.prog 134 #[.pointer (some ⟨b, 0, none⟩)] w fun e w' => e = .returned (.tuple #[]) ∧ w' = w := by
  obtain ⟨j, hj, _⟩ := Option.map_eq_some_iff.1 (show (Tryz.prog.info? 147).map (·.size) = some 2 by kernel_rfl)
  go_enter Tryz.func134, Tryz.ntmps134
  go_wp2
  rw [Lib.run_neq_ptr_same w _ Tryz.underlying144 hj]
  go_wp2
  go_end0
  exact ⟨rfl, rfl⟩
theorem nBuilder_copyCheck_fresh (b : Nat) (w : World) (h0 : w.cell? ⟨b, 0, none⟩ = some (.pointer none)) (hsh : w.shape? b = some (147, 2)) (hfz : w.frozen? ⟨b, 0, none⟩ = false) :
    Calls Tryz.prog 134 #[.pointer (some ⟨b, 0, none⟩)] w fun e w' => e = .returned (.tuple #[]) ∧ w' = w.setCell ⟨b, 0, none⟩ (.pointer (some ⟨b, 0, none⟩)) := by
  obtain ⟨j, hj, hjs⟩ := Option.map_eq_some_iff.1 (show (Tryz.prog.info? 147).map (·.size) = some 2 by kernel_rfl)
  go_enter Tryz.func134, Tryz.ntmps134
  go_wp2
  rw [Lib.run_to_unsafe w ⟨b, 0, none⟩ Tryz.underlying144 Tryz.underlying194 hj (by rw [hjs]; decide) hsh (Nat.zero_lt_succ 1)]
  simp only [Result.andThen]
  rw [Oper.upon_value]
  go_wp2
  rw [run_callFunc_extern Tryz.func149 (by kernel_rfl) (by kernel_rfl) (by kernel_rfl) (e := Extern.AbiNoEscape.same) (by kernel_rfl)]
  rw [Lib.run_noEscape]
  simp only [Result.andThen]
  rw [Oper.upon_value]
  go_wp2
  rw [Lib.run_from_unsafe w ⟨b, 0, none⟩ Tryz.underlying194 Tryz.underlying144 hj hsh (by kernel_rfl)]
  simp only [Result.andThen]
  rw [Oper.upon_value]
  go_wp2
  go_end0
  exact ⟨rfl, rfl⟩
theorem nBuilder_copyCheck (B b : Nat) (bs : List Value) (w : World) (h : Lib.IsBuilderF 147 5 B b bs w) :
    Calls Tryz.prog 134 #[.pointer (some ⟨b, 0, none⟩)] w fun e w' => e = .returned (.tuple #[]) ∧ (Lib.BuilderAtF 147 5 B b (.pointer (some ⟨b, 0, none⟩)) bs w' ∧ Below B w w' ∧ Lib.OthersKept 5 (some b) w w') := by
  rcases h with h | h
  · refine (nBuilder_copyCheck_fresh b w h.cell0 h.shape h.frozen0).mono ?_
    rintro e w' ⟨rfl, rfl⟩
    exact ⟨rfl, h.used _, (Below.refl B w).setCell (p := ⟨b, 0, none⟩) h.1 _, (Lib.OthersKept.refl _ _ w).setCell ⟨b, 0, none⟩ rfl _⟩
  · refine (nBuilder_copyCheck_used b w h.cell0).mono ?_
    rintro e w' ⟨rfl, rfl⟩
    exact ⟨rfl, h, Below.refl B _, Lib.OthersKept.refl _ _ _⟩
theorem nBuilder_WriteByte (B b : Nat) (bs : List Value) (c : Int) (w : World) (h : Lib.IsBuilderF 147 5 B b bs w) (hlen : bs.length + 1 ≤ 140737488355328) (hBw : B ≤ w.heap.size) :
    Calls Tryz.prog 108 #[.pointer (some ⟨b, 0, none⟩), .int .u8 c] w fun e w' => e = .returned .nilIface ∧ (Lib.BuilderAtF 147 5 B b (.pointer (some ⟨b, 0, none⟩)) (bs ++ [.int .u8 c]) w' ∧ Below B w w' ∧ Lib.OthersKept 5 (some b) w w') := by
  obtain ⟨i0, hi, hz0, hz1, hz2⟩ := info_parts (show (Tryz.prog.info? 5).map (fun i => (i.zero, i.size, i.bytes)) = some (some (.int .u8 0), 1, 1) by kernel_rfl)
  go_enter Tryz.func108, Tryz.ntmps108
  go_wp2_with (go_at_call 134; refine (nBuilder_copyCheck B b bs _ h).mono ?_)
  rintro e w1 ⟨rfl, h1, hb1, hk1⟩
  obtain ⟨hB, v, hbk, hown, hne⟩ := h1
  have c0 : w1.cell? ⟨b, 0, none⟩ = some (.pointer (some ⟨b, 0, none⟩)) := by rw [Lib.cell_of_heap hbk]; rfl
  have c1 : w1.cell? ⟨b, 1, none⟩ = some v := by rw [Lib.cell_of_heap hbk]; rfl
  go_wp2_with (at_builtin; refine wpList_append_ownF _ rfl _ _ 145 rfl B 5 i0 (.int .u8 0) 1 1 Tryz.underlying145 hi hz0 hz1 hz2 rfl (by decide) _ _ _ rfl (hown.alloc _) ⟨w1.heap.size, 0, none⟩ 1 1 [.int .u8 c] rfl rfl ?c1 ?c2 ?c3 ?c4 ?c5 ?_)
  case c1 =>
    intro j u hj
    match j, hj with
    | 0, hj => simp at hj; subst hj; simp [Addr.add]
  case c2 => intro u hu; simp at hu; subst hu; rfl
  case c3 => unfold maxLen; omega
  case c4 => omega
  case c5 => have := hb1.size; simp; omega
  intro v' w2 hown' hgrow _
  have hlt : b < w1.heap.size := by
    rcases Nat.lt_or_ge b w1.heap.size with h' | h'
    · exact h'
    · simp [Array.getElem?_eq_none h'] at hbk
  have hb2 : w2.heap[b]? = some (.cells #[.pointer (some ⟨b, 0, none⟩), v] 147 (0, 0)) := by
    rw [hgrow.block b (by simp; omega) (fun e => hne e.symm), Lib.alloc_old w1 _ b hlt]
    exact hbk
  have d0 : w2.cell? ⟨b, 0, none⟩ = some (.pointer (some ⟨b, 0, none⟩)) := by rw [Lib.cell_of_heap hb2]; rfl
  have d1 : w2.cell? ⟨b, 1, none⟩ = some v := by rw [Lib.cell_of_heap hb2]; rfl
  have f1 : w2.frozen? ⟨b, 1, none⟩ = false := Lib.frozen_of_heap hb2 1
  obtain ⟨g, cap, rfl⟩ : ∃ g cap, v' = .slice (some ⟨g, 0, none⟩) (bs.length + 1) cap := by
    rcases hown'.2 with ⟨_, h0⟩ | ⟨g, cap, cur, fz, hv, _⟩
    · omega
    · exact ⟨g, cap, hv⟩
  go_wp2
  go_ret
  refine ⟨rfl, ?_, ?_, ((hk1.alloc _).grown hgrow (Lib.ownsRowF_kind (hown.alloc _))).setCell ⟨b, 1, none⟩ rfl _⟩
  · exact Lib.BuilderAtF.put (T := 147) (e := 5) hB hb2 (bs' := bs ++ [.int .u8 c]) (by simpa using hown') (by decide)
  · exact ((hb1.alloc (by have := hb1.size; omega) _).grown hgrow (by have := hb1.size; simp; omega) (fun k hk => (hown.lt k hk).1)).setCell (p := ⟨b, 1, none⟩) hB _
theorem nBuilder_WriteString (B b : Nat) (bs : List Value) (s : ByteArray) (w : World) (h : Lib.IsBuilderF 147 5 B b bs w) (hlen : bs.length + s.size ≤ 140737488355328) (hBw : B ≤ w.heap.size) :
    Calls Tryz.prog 105 #[.pointer (some ⟨b, 0, none⟩), .string s] w fun e w' => e = .returned (.tuple #[.int .i64 s.size, .nilIface]) ∧ (Lib.BuilderAtF 147 5 B b (.pointer (some ⟨b, 0, none⟩)) (bs ++ Lib.strCells s) w' ∧ Below B w w' ∧ Lib.OthersKept 5 (some b) w w') := by
  obtain ⟨i0, hi, hz0, hz1, hz2⟩ := info_parts (show (Tryz.prog.info? 5).map (fun i => (i.zero, i.size, i.bytes)) = some (some (.int .u8 0), 1, 1) by kernel_rfl)
  go_enter Tryz.func105, Tryz.ntmps105
  go_wp2_with (go_at_call 134; refine (nBuilder_copyCheck B b bs _ h).mono ?_)
  rintro e w1 ⟨rfl, h1, hb1, hk1⟩
  obtain ⟨hB, v, hbk, hown, hne⟩ := h1
  have c0 : w1.cell? ⟨b, 0, none⟩ = some (.pointer (some ⟨b, 0, none⟩)) := by rw [Lib.cell_of_heap hbk]; rfl
  have c1 : w1.cell? ⟨b, 1, none⟩ = some v := by rw [Lib.cell_of_heap hbk]; rfl
  go_wp2_with (at_builtin; refine Lib.wpList_append_own_stringF _ rfl _ _ 145 9 rfl B 5 i0 Tryz.underlying145 Tryz.underlying9 hi hz0 hz1 hz2 _ _ _ rfl hown s rfl ?c3 ?c4 ?c5 ?_)
  case c3 => unfold maxLen; omega
  case c4 => omega
  case c5 => have := hb1.size; omega
  intro v' w2 hown' hgrow _
  have hlt : b < w1.heap.size := by
    rcases Nat.lt_or_ge b w1.heap.size with h' | h'
    · exact h'
    · simp [Array.getElem?_eq_none h'] at hbk
  have hb2 : w2.heap[b]? = some (.cells #[.pointer (some ⟨b, 0, none⟩), v] 147 (0, 0)) := by
    rw [hgrow.block b hlt (fun e => hne e.symm)]
    exact hbk
  have d0 : w2.cell? ⟨b, 0, none⟩ = some (.pointer (some ⟨b, 0, none⟩)) := by rw [Lib.cell_of_heap hb2]; rfl
  have d1 : w2.cell? ⟨b, 1, none⟩ = some v := by rw [Lib.cell_of_heap hb2]; rfl
  have f1 : w2.frozen? ⟨b, 1, none⟩ = false := Lib.frozen_of_heap hb2 1
  obtain ⟨ao, n', cap, rfl⟩ : ∃ ao n' cap, v' = .slice ao n' cap := by
    rcases hown'.2 with ⟨hv, _⟩ | ⟨g, cap, cur, fz, hv, _⟩
    · exact ⟨_, _, _, hv⟩
    · exact ⟨_, _, _, hv⟩
  go_wp2
  go_ret2
  refine ⟨rfl, ?_, ?_, (hk1.grown hgrow (Lib.ownsRowF_kind hown)).setCell ⟨b, 1, none⟩ rfl _⟩
  · exact Lib.BuilderAtF.put (T := 147) (e := 5) hB hb2 (bs' := bs ++ Lib.strCells s) (by simpa [Lib.strCells_length] using hown') (by decide)
  · exact (hb1.grown hgrow (by have := hb1.size; omega) (fun k hk => (hown.lt k hk).1)).setCell (p := ⟨b, 1, none⟩) hB _
end Go.Proofs.YtkmjcoofkgpanaaGreatDoor

/- What the library's variables hold; numbers as strings. Conditions: the variables are laid. -/
namespace Go.Proofs.YtkmjcoofkgpanaaGreatDoor
open Go.RowKit Go.ChangeMaps
set_option maxHeartbeats 4000000
set_option maxRecDepth 100000

/-- what the package-level variables that strings lean on hold -/
structure Lay (w : World) : Prop where
  tab : Lib.TabIs Tryz.prog w "internal/strconv.uint64pow10" .u64 Lib.pow10Tab
  mx : ∃ m, w.cell? ⟨1, 0, none⟩ = some (.int .i64 m)
  es : ∃ ev, w.cell? ⟨2, 0, none⟩ = some ev ∧ (ev = .nilIface ∨ ∃ te pe, ev = .iface te pe)
  er : ∃ ev, w.cell? ⟨3, 0, none⟩ = some ev ∧ (ev = .nilIface ∨ ∃ te pe, ev = .iface te pe)
theorem cell_lt {w : World} {b i : Nat} {v : Value} (h : w.cell? ⟨b, i, none⟩ = some v) : b < w.heap.size := by
  rcases Nat.lt_or_ge b w.heap.size with h' | h'
  · exact h'
  · simp [World.cell?, Array.getElem?_eq_none h'] at h
theorem tab_below {w w' : World} {n : String} {k : IntKind} {zs : List Int} {P : Program} (h : Lib.TabIs P w n k zs) (hb : Below w.heap.size w w') : Lib.TabIs P w' n k zs := by
  unfold Lib.TabIs World.var? at *
  cases hg : P.globalNamed n with
  | none => rw [hg] at h; simp at h
  | some g =>
    rw [hg] at h
    simp only [Option.bind_some] at h ⊢
    have hlt : g < w.heap.size := by
      rcases Nat.lt_or_ge g w.heap.size with h' | h'
      · exact h'
      · rw [Array.getElem?_eq_none h'] at h; simp at h
    rw [hb.block g hlt]
    exact h
theorem Lay.below {w w' : World} (h : Lay w) (hb : Below w.heap.size w w') : Lay w' := by
  obtain ⟨h1, ⟨m, h2⟩, ⟨e1, h3, h3'⟩, ⟨e2, h4, h4'⟩⟩ := h
  exact ⟨tab_below h1 hb, ⟨m, (hb.cell (p := ⟨1, 0, none⟩) (cell_lt h2)).trans h2⟩, ⟨e1, (hb.cell (p := ⟨2, 0, none⟩) (cell_lt h3)).trans h3, h3'⟩, ⟨e2, (hb.cell (p := ⟨3, 0, none⟩) (cell_lt h4)).trans h4, h4'⟩⟩
theorem below_grow (w : World) (os : Array Obj) : Below w.heap.size w (Sort.grow w os) := by
  unfold Sort.grow
  exact ⟨rfl, rfl, rfl, by simp, fun k hk => by simp [Array.getElem?_append, hk]⟩
theorem itoa_any (n : Int) (h : -1000000000000 ≤ n ∧ n ≤ 1000000000000) (w : World) (hL : Lay w) : Calls Tryz.prog 106 #[.int .i64 n] w (RV w (.string ⟨(Lib.itoa n).toArray⟩)) := by
  refine (str_strconv_Itoa n (by omega) (by omega) w hL.tab).mono ?_
  rintro e w' ⟨rfl, k, os, rfl⟩
  exact ⟨rfl, bl_then (below_grow _ os) (bl_drewN bl_refl k)⟩
end Go.Proofs.YtkmjcoofkgpanaaGreatDoor

/- Contracts of the library on strings at this program, laid. Conditions: none. -/
import Derived.Shelf.Strings.Builder1
import Derived.Shelf.Strings.Builder2
import Derived.Shelf.Strings.OnBuilder
import Derived.Shelf.Small.Strs
import Derived.Shelf.Small.Wraps
import Derived.Shelf.Strings.BuilderF
import Derived.Shelf.Strings.BuilderK
import Derived.Shelf.Strconv.Atoi
import Derived.Shelf.Strconv.Itoa0
import Derived.Shelf.Strconv.Itoa1
import Derived.Shelf.LaysM
import Derived.Shelf.Strconv.Itoa2
import Derived.Shelf.Strconv.Itoa3
import Derived.Shelf.Strconv.AtoiErrFast
import Derived.Shelf.Strconv.ParseIntEmpty
import Derived.Shelf.Strconv.AtoiFail
import Derived.Shelf.Strconv.Clone
import Derived.Shelf.Strconv.SyntaxError
import Derived.Shelf.LaysC
import Derived.Shelf.Strconv.ToError
import Derived.Shelf.Strconv.Lower
import Derived.Shelf.Strconv.ParseUint10
import Derived.Shelf.Strconv.ParseUint10Empty
import Derived.Shelf.Strconv.ParseUint10Any
import Derived.Shelf.Strconv.ParseInt10
import Derived.Shelf.Strconv.AtoiLong
import Derived.Shelf.Strconv.AtoiInnerAll
import Derived.Shelf.Strconv.RangeError
import Derived.Shelf.Strconv.ToErrorRange
import Derived.Shelf.Strconv.AtoiAll
import Derived.Shelf.Strings.Search1
import Derived.Shelf.Strings.Search2
import Derived.Shelf.Strings.Search3
import Derived.Shelf.Strings.Count
import Derived.Shelf.Strings.Shaped
import Derived.Shelf.Strings.Prefix
import Derived.Shelf.Strings.Split
import Derived.Shelf.Unicode.DecodeSlow
import Derived.Shelf.Slices.Turned
import Derived.Test.YthkjgcldolnjaaaGreatDoorProg
namespace Go.Proofs.YthkjgcldolnjaaaGreatDoor
open Go.Shelf
def str_lays170_ren : Go.Shelf.Ren := ⟨fun | 170 => 104 | n => n, fun | 70 => 152 | 3 => 3 | 0 => 0 | 72 => 155 | 37 => 153 | 5 => 5 | n => n, fun | n => n⟩
theorem str_lays170 : Go.Proofs.Lays.n170 Tryz.prog str_lays170_ren := {
  mixed := by kernel_rfl
  f170 := Tryz.func104.trans (congrArg some (by kernel_rfl))
  t0 := Tryz.underlying0
  a0 := Tryz.isAgg0
  z0 := Tryz.sizeOf0
  v0 := Tryz.zeroValue0
  t3 := Tryz.underlying3
  a3 := Tryz.isAgg3
  z3 := Tryz.sizeOf3
  v3 := Tryz.zeroValue3
  t37 := Tryz.underlying153
  a37 := Tryz.isAgg153
  z37 := Tryz.sizeOf153
  v37 := Tryz.zeroValue153
  t70 := Tryz.underlying152
  a70 := Tryz.isAgg152
  z70 := Tryz.sizeOf152
  v70 := Tryz.zeroValue152
  t72 := Tryz.underlying155
  a72 := Tryz.isAgg155
  z72 := Tryz.sizeOf155
  v72 := Tryz.zeroValue155 }
def str_lays169_ren : Go.Shelf.Ren := ⟨fun | 169 => 105 | n => n, fun | 70 => 152 | 9 => 9 | 0 => 0 | 72 => 155 | 37 => 153 | 127 => 209 | 3 => 3 | 5 => 5 | n => n, fun | n => n⟩
theorem str_lays169 : Go.Proofs.Lays.n169 Tryz.prog str_lays169_ren := {
  mixed := by kernel_rfl
  f169 := Tryz.func105.trans (congrArg some (by kernel_rfl))
  t0 := Tryz.underlying0
  a0 := Tryz.isAgg0
  z0 := Tryz.sizeOf0
  v0 := Tryz.zeroValue0
  t3 := Tryz.underlying3
  a3 := Tryz.isAgg3
  z3 := Tryz.sizeOf3
  v3 := Tryz.zeroValue3
  t9 := Tryz.underlying9
  a9 := Tryz.isAgg9
  z9 := Tryz.sizeOf9
  v9 := Tryz.zeroValue9
  t37 := Tryz.underlying153
  a37 := Tryz.isAgg153
  z37 := Tryz.sizeOf153
  v37 := Tryz.zeroValue153
  t70 := Tryz.underlying152
  a70 := Tryz.isAgg152
  z70 := Tryz.sizeOf152
  v70 := Tryz.zeroValue152
  t72 := Tryz.underlying155
  a72 := Tryz.isAgg155
  z72 := Tryz.sizeOf155
  v72 := Tryz.zeroValue155
  t127 := Tryz.underlying209
  a127 := Tryz.isAgg209
  z127 := Tryz.sizeOf209
  v127 := Tryz.zeroValue209 }
theorem str_Builder_Extra_169 : Builder.Extra Tryz.prog str_lays169_ren := {
  sizeBuilder := by kernel_rfl
  liesBuilder := by kernel_rfl
  t5 := Tryz.underlying5
  a5 := Tryz.isAgg5
  z5 := Tryz.sizeOf5
  v5 := Tryz.zeroValue5
  infoByte := by kernel_rfl
  cellsByte := by kernel_rfl
  sizeByte := by kernel_rfl
  neB5 := by decide }
def str_lays156_ren : Go.Shelf.Ren := ⟨fun | 156 => 151 | 165 => 176 | 166 => 101 | 169 => 105 | 240 => 149 | 241 => 189 | 276 => 174 | 277 => 201 | n => n, fun | 31 => 208 | 9 => 9 | 3 => 3 | 4 => 4 | 0 => 0 | 20 => 20 | 72 => 155 | 76 => 158 | 70 => 152 | 37 => 153 | 75 => 157 | 127 => 209 | 164 => 230 | 5 => 5 | 80 => 162 | n => n, fun | n => n⟩
theorem str_lays156 : Go.Proofs.Lays.n156 Tryz.prog str_lays156_ren := {
  mixed := by kernel_rfl
  f156 := Tryz.func151.trans (congrArg some (by kernel_rfl))
  f165 := Tryz.func176.trans (congrArg some (by kernel_rfl))
  f166 := Tryz.func101.trans (congrArg some (by kernel_rfl))
  f169 := Tryz.func105.trans (congrArg some (by kernel_rfl))
  f240 := Tryz.func149.trans (congrArg some (by kernel_rfl))
  f241 := Tryz.func189.trans (congrArg some (by kernel_rfl))
  f276 := Tryz.func174.trans (congrArg some (by kernel_rfl))
  f277 := Tryz.func201.trans (congrArg some (by kernel_rfl))
  t0 := Tryz.underlying0
  a0 := Tryz.isAgg0
  z0 := Tryz.sizeOf0
  v0 := Tryz.zeroValue0
  t3 := Tryz.underlying3
  a3 := Tryz.isAgg3
  z3 := Tryz.sizeOf3
  v3 := Tryz.zeroValue3
  t4 := Tryz.underlying4
  a4 := Tryz.isAgg4
  z4 := Tryz.sizeOf4
  v4 := Tryz.zeroValue4
  t9 := Tryz.underlying9
  a9 := Tryz.isAgg9
  z9 := Tryz.sizeOf9
  v9 := Tryz.zeroValue9
  t20 := Tryz.underlying20
  a20 := Tryz.isAgg20
  z20 := Tryz.sizeOf20
  v20 := Tryz.zeroValue20
  t31 := Tryz.underlying208
  a31 := Tryz.isAgg208
  z31 := Tryz.sizeOf208
  v31 := Tryz.zeroValue208
  t37 := Tryz.underlying153
  a37 := Tryz.isAgg153
  z37 := Tryz.sizeOf153
  v37 := Tryz.zeroValue153
  t70 := Tryz.underlying152
  a70 := Tryz.isAgg152
  z70 := Tryz.sizeOf152
  v70 := Tryz.zeroValue152
  t72 := Tryz.underlying155
  a72 := Tryz.isAgg155
  z72 := Tryz.sizeOf155
  v72 := Tryz.zeroValue155
  t75 := Tryz.underlying157
  a75 := Tryz.isAgg157
  z75 := Tryz.sizeOf157
  v75 := Tryz.zeroValue157
  t76 := Tryz.underlying158
  a76 := Tryz.isAgg158
  z76 := Tryz.sizeOf158
  v76 := Tryz.zeroValue158
  t127 := Tryz.underlying209
  a127 := Tryz.isAgg209
  z127 := Tryz.sizeOf209
  v127 := Tryz.zeroValue209
  t164 := Tryz.underlying230
  a164 := Tryz.isAgg230
  z164 := Tryz.sizeOf230
  v164 := Tryz.zeroValue230 }
theorem str_Builder_Extra_156 : Builder.Extra Tryz.prog str_lays156_ren := {
  sizeBuilder := by kernel_rfl
  liesBuilder := by kernel_rfl
  t5 := Tryz.underlying5
  a5 := Tryz.isAgg5
  z5 := Tryz.sizeOf5
  v5 := Tryz.zeroValue5
  infoByte := by kernel_rfl
  cellsByte := by kernel_rfl
  sizeByte := by kernel_rfl
  neB5 := by decide }
open Go.RowKit in
/-- strings.Join: "Join concatenates the elements of its first argument to create a single string. The separator string sep is placed between elements in the resulting string.": HOWEVER MANY ELEMENTS. Below the heap's end the world is as it was. (LAID: no walk: one application.) -/
theorem str_strings_Join (bk o c : Nat) (xs : List ByteArray) (sep : ByteArray) (w : World) (hcells : ∀ (j : Nat) x, xs[j]? = some x → w.cell? ⟨bk, o + j, none⟩ = some (.string x)) (hbk : bk < w.heap.size) (hN : xs.length ≤ 140737488355328) (hcap : xs.length ≤ c) (hlen : (Lib.join (xs.map (·.data.toList)) sep.data.toList).length ≤ 140737488355328) :
    Calls Tryz.prog 151 #[.slice (some ⟨bk, o, none⟩) xs.length c, .string sep] w fun e w' => e = .returned (.string ⟨(Lib.join (xs.map (·.data.toList)) sep.data.toList).toArray⟩) ∧ Below w.heap.size w w' := Any.strings_Join str_lays156 str_Builder_Extra_156 bk o c xs sep w hcells hbk hN hcap hlen
def str_lays137_ren : Go.Shelf.Ren := ⟨fun | 137 => 159 | 217 => 181 | 266 => 195 | n => n, fun | 9 => 9 | 5 => 5 | 3 => 3 | n => n, fun | n => n⟩
theorem str_lays137 : Go.Proofs.Lays.n137 Tryz.prog str_lays137_ren := {
  mixed := by kernel_rfl
  f137 := Tryz.func159.trans (congrArg some (by kernel_rfl))
  f217 := Tryz.func181.trans (congrArg some (by kernel_rfl))
  f266 := Tryz.func195.trans (congrArg some (by kernel_rfl))
  t3 := Tryz.underlying3
  a3 := Tryz.isAgg3
  z3 := Tryz.sizeOf3
  v3 := Tryz.zeroValue3
  t5 := Tryz.underlying5
  a5 := Tryz.isAgg5
  z5 := Tryz.sizeOf5
  v5 := Tryz.zeroValue5
  t9 := Tryz.underlying9
  a9 := Tryz.isAgg9
  z9 := Tryz.sizeOf9
  v9 := Tryz.zeroValue9 }
open Go.RowKit in
/-- strings.IndexByte: "IndexByte returns the index of the first instance of c in s, or -1 if c is not present in s.": IT RETURNS 'Lib.indexByte s c'; the world is as it was. (LAID: no walk: one application.) -/
theorem str_strings_IndexByte (s : ByteArray) (c : Int) (w : World) :
    Calls Tryz.prog 159 #[.string s, .int .u8 c] w fun e w' => e = .returned (.int .i64 (Lib.indexByte s.data.toList c.toNat.toUInt8)) ∧ w' = w := Any.strings_IndexByte str_lays137 s c w
def str_lays104_ren : Go.Shelf.Ren := ⟨fun | 104 => 152 | 211 => 177 | 207 => 190 | n => n, fun | 9 => 9 | 4 => 4 | 24 => 210 | 3 => 3 | n => n, fun | n => n⟩
theorem str_lays104 : Go.Proofs.Lays.n104 Tryz.prog str_lays104_ren := {
  mixed := by kernel_rfl
  f104 := Tryz.func152.trans (congrArg some (by kernel_rfl))
  f207 := Tryz.func190.trans (congrArg some (by kernel_rfl))
  f211 := Tryz.func177.trans (congrArg some (by kernel_rfl))
  t3 := Tryz.underlying3
  a3 := Tryz.isAgg3
  z3 := Tryz.sizeOf3
  v3 := Tryz.zeroValue3
  t4 := Tryz.underlying4
  a4 := Tryz.isAgg4
  z4 := Tryz.sizeOf4
  v4 := Tryz.zeroValue4
  t9 := Tryz.underlying9
  a9 := Tryz.isAgg9
  z9 := Tryz.sizeOf9
  v9 := Tryz.zeroValue9
  t24 := Tryz.underlying210
  a24 := Tryz.isAgg210
  z24 := Tryz.sizeOf210
  v24 := Tryz.zeroValue210 }
open Go.RowKit in
/-- strings.CutSuffix: "CutSuffix returns s without the provided ending suffix string and reports whether it found the suffix. If s doesn't end with suffix, CutSuffix returns s, false. If suffix is the empty string, CutSuffix returns s, true.": IT RETURNS '(Lib.trimSuffix s p, Lib.hasSuffix s p)'; the world is as it was. (LAID: no walk: one application.) -/
theorem str_strings_CutSuffix (s p : ByteArray) (w : World) (hs : s.size ≤ 9223372036854775807) :
    Calls Tryz.prog 152 #[.string s, .string p] w fun e w' => e = .returned (.tuple #[.string ⟨(Lib.trimSuffix s.data.toList p.data.toList).toArray⟩, .bool (Lib.hasSuffix s.data.toList p.data.toList)]) ∧ w' = w := Any.strings_CutSuffix str_lays104 s p w hs
open Go.RowKit in
/-- (*strings.Builder).Len: "Len returns the number of accumulated bytes; b.Len() == len(b.String()).": the world is as it was. (THE FORM '_f': 'Lib.IsBuilderF'.) (LAID: no walk: one application.) -/
theorem str_Builder_Len_f (B b : Nat) (bs : List Value) (w : World) (h : Lib.IsBuilderF 155 5 B b bs w) :
    Calls Tryz.prog 104 #[.pointer (some ⟨b, 0, none⟩)] w fun e w' => e = .returned (.int .i64 bs.length) ∧ w' = w := Any.Builder_Len_f str_lays170 B b bs w h
open Go.RowKit in
/-- (*strings.Builder).String: "String returns the accumulated string.": WHATEVER THE BUILDER HOLDS; THE FORM '_k': OVER 'Lib.IsBuilderF' (a builder that 'String()' may have read), AND WITH THE FRAME THAT REACHES ABOVE THE BUILDER: 'Lib.OthersKept': every block that is not b and is no row of uint8's stands as it stood: the iterator of a range among them. (LAID: no walk: one application.) -/
theorem str_Builder_String_any_k (B b : Nat) (l : List UInt8) (w : World) (h : Lib.IsBuilderF 155 5 B b (Lib.byteCells l) w) (hBw : B ≤ w.heap.size) :
    Calls Tryz.prog 105 #[.pointer (some ⟨b, 0, none⟩)] w fun e w' => e = .returned (.string ⟨l.toArray⟩) ∧ (Lib.IsBuilderF 155 5 B b (Lib.byteCells l) w' ∧ Below B w w' ∧ Lib.OthersKept 5 (some b) w w') := Any.Builder_String_any_k str_lays169 str_Builder_Extra_169 B b l w h hBw
def str_laysM171_ren : Go.Shelf.Ren := ⟨fun | 171 => 102 | 243 => 150 | 246 => 175 | 283 => 185 | 284 => 186 | 285 => 187 | 286 => 188 | 129 => 197 | 317 => 196 | 318 => 198 | 319 => 199 | 320 => 200 | 337 => 208 | 338 => 209 | n => n, fun | 3 => 3 | 9 => 9 | 2 => 2 | 4 => 4 | 171 => 238 | 0 => 0 | 53 => 239 | 37 => 153 | 5 => 5 | 173 => 242 | 212 => 249 | 51 => 250 | 20 => 20 | 213 => 251 | 46 => 252 | 232 => 266 | 233 => 267 | n => n, fun | 17 => 0 | 18 => 2 | 19 => 3 | n => n⟩
theorem str_laysM171 : Go.Proofs.LaysM.n171 Tryz.prog str_laysM171_ren := {
  mixed := by kernel_rfl
  f129 := Tryz.func197.trans (congrArg some (by kernel_rfl))
  f171 := Tryz.func102.trans (congrArg some (by kernel_rfl))
  f243 := Tryz.func150.trans (congrArg some (by kernel_rfl))
  f246 := Tryz.func175.trans (congrArg some (by kernel_rfl))
  f283 := Tryz.func185.trans (congrArg some (by kernel_rfl))
  f284 := Tryz.func186.trans (congrArg some (by kernel_rfl))
  f285 := Tryz.func187.trans (congrArg some (by kernel_rfl))
  f286 := Tryz.func188.trans (congrArg some (by kernel_rfl))
  f317 := Tryz.func196.trans (congrArg some (by kernel_rfl))
  f318 := Tryz.func198.trans (congrArg some (by kernel_rfl))
  f319 := Tryz.func199.trans (congrArg some (by kernel_rfl))
  f320 := Tryz.func200.trans (congrArg some (by kernel_rfl))
  f337 := Tryz.func208.trans (congrArg some (by kernel_rfl))
  f338 := Tryz.func209.trans (congrArg some (by kernel_rfl))
  t0 := Tryz.underlying0
  a0 := Tryz.isAgg0
  z0 := Tryz.sizeOf0
  v0 := Tryz.zeroValue0
  t2 := Tryz.underlying2
  a2 := Tryz.isAgg2
  z2 := Tryz.sizeOf2
  v2 := Tryz.zeroValue2
  t3 := Tryz.underlying3
  a3 := Tryz.isAgg3
  z3 := Tryz.sizeOf3
  v3 := Tryz.zeroValue3
  t4 := Tryz.underlying4
  a4 := Tryz.isAgg4
  z4 := Tryz.sizeOf4
  v4 := Tryz.zeroValue4
  t5 := Tryz.underlying5
  a5 := Tryz.isAgg5
  z5 := Tryz.sizeOf5
  v5 := Tryz.zeroValue5
  t9 := Tryz.underlying9
  a9 := Tryz.isAgg9
  z9 := Tryz.sizeOf9
  v9 := Tryz.zeroValue9
  t20 := Tryz.underlying20
  a20 := Tryz.isAgg20
  z20 := Tryz.sizeOf20
  v20 := Tryz.zeroValue20
  t37 := Tryz.underlying153
  a37 := Tryz.isAgg153
  z37 := Tryz.sizeOf153
  v37 := Tryz.zeroValue153
  t46 := Tryz.underlying252
  a46 := Tryz.isAgg252
  z46 := Tryz.sizeOf252
  v46 := Tryz.zeroValue252
  t51 := Tryz.underlying250
  a51 := Tryz.isAgg250
  z51 := Tryz.sizeOf250
  v51 := Tryz.zeroValue250
  t53 := Tryz.underlying239
  a53 := Tryz.isAgg239
  z53 := Tryz.sizeOf239
  v53 := Tryz.zeroValue239
  t171 := Tryz.underlying238
  a171 := Tryz.isAgg238
  z171 := Tryz.sizeOf238
  v171 := Tryz.zeroValue238
  t173 := Tryz.underlying242
  a173 := Tryz.isAgg242
  z173 := Tryz.sizeOf242
  v173 := Tryz.zeroValue242
  t212 := Tryz.underlying249
  a212 := Tryz.isAgg249
  z212 := Tryz.sizeOf249
  v212 := Tryz.zeroValue249
  t213 := Tryz.underlying251
  a213 := Tryz.isAgg251
  z213 := Tryz.sizeOf251
  t232 := Tryz.underlying266
  a232 := Tryz.isAgg266
  z232 := Tryz.sizeOf266
  v232 := Tryz.zeroValue266
  t233 := Tryz.underlying267
  a233 := Tryz.isAgg267
  z233 := Tryz.sizeOf267
  v233 := Tryz.zeroValue267
  g17 := by kernel_rfl
  g18 := by kernel_rfl
  g19 := by kernel_rfl
  i0 := by kernel_rfl
  i2 := by kernel_rfl
  i3 := by kernel_rfl
  i4 := by kernel_rfl
  i5 := by kernel_rfl
  i9 := by kernel_rfl
  i20 := by kernel_rfl
  i37 := by kernel_rfl
  i46 := by kernel_rfl
  i51 := by kernel_rfl
  i53 := by kernel_rfl
  i171 := by kernel_rfl
  i173 := by kernel_rfl
  i212 := by kernel_rfl
  i232 := by kernel_rfl
  i233 := by kernel_rfl
  m17 := by kernel_rfl
  m18 := by kernel_rfl
  m19 := by kernel_rfl }
open Go.RowKit Go.Sort Go.Lib in
/-- strconv.Itoa: "Itoa is equivalent to FormatInt(int64(i), 10).": i's DECIMAL NUMERAL ('Lib.itoa': a '-' where i is negative, then the digits), FOR EVERY int. The world behind the call: the world before it, new blocks behind the heap (the library's 'var a [24]byte'), draws. (LAID: no walk: one application.) -/
theorem str_strconv_Itoa (n : Int) (h0 : -9223372036854775808 ≤ n) (h1 : n ≤ 9223372036854775807) (w : World) (htab : Lib.TabIs Tryz.prog w "internal/strconv.uint64pow10" .u64 Lib.pow10Tab) :
    Calls Tryz.prog 102 #[.int .i64 n] w fun e w' => e = .returned (.string ⟨(Lib.itoa n).toArray⟩) ∧ ∃ k os, w' = grow (w.drewN k) os := Any.strconv_Itoa str_laysM171 n h0 h1 w htab
def str_laysC172_ren : Go.Shelf.Ren := ⟨fun | 172 => 194 | 244 => 206 | 245 => 207 | 247 => 214 | 279 => 215 | 280 => 216 | 281 => 217 | 282 => 218 | 287 => 220 | 316 => 221 | 171 => 102 | 205 => 222 | 321 => 223 | 322 => 224 | 243 => 150 | 246 => 175 | 283 => 185 | 284 => 186 | 285 => 187 | 286 => 188 | 129 => 197 | 317 => 196 | 318 => 198 | 319 => 199 | 320 => 200 | 337 => 208 | 338 => 209 | n => n, fun | 9 => 9 | 3 => 3 | 75 => 157 | 76 => 158 | 4 => 4 | 5 => 5 | 167 => 260 | 37 => 153 | 0 => 0 | 85 => 261 | 2 => 2 | 168 => 263 | 53 => 239 | 175 => 274 | 46 => 252 | 210 => 277 | 127 => 209 | 145 => 282 | 143 => 280 | 21 => 21 | 171 => 238 | 173 => 242 | 212 => 249 | 51 => 250 | 20 => 20 | 213 => 251 | 232 => 266 | 233 => 267 | 80 => 162 | n => n, fun | 15 => 6 | 16 => 7 | 17 => 0 | 18 => 2 | 19 => 3 | n => n⟩
theorem str_laysC172 : Go.Proofs.LaysC.n172 Tryz.prog str_laysC172_ren := {
  mixed := by kernel_rfl
  f129 := Tryz.func197.trans (congrArg some (by kernel_rfl))
  f171 := Tryz.func102.trans (congrArg some (by kernel_rfl))
  f172 := Tryz.func194.trans (congrArg some (by kernel_rfl))
  f205 := Tryz.func222.trans (congrArg some (by kernel_rfl))
  f243 := Tryz.func150.trans (congrArg some (by kernel_rfl))
  f244 := Tryz.func206.trans (congrArg some (by kernel_rfl))
  f245 := Tryz.func207.trans (congrArg some (by kernel_rfl))
  f246 := Tryz.func175.trans (congrArg some (by kernel_rfl))
  f247 := Tryz.func214.trans (congrArg some (by kernel_rfl))
  f279 := Tryz.func215.trans (congrArg some (by kernel_rfl))
  f280 := Tryz.func216.trans (congrArg some (by kernel_rfl))
  f281 := Tryz.func217.trans (congrArg some (by kernel_rfl))
  f282 := Tryz.func218.trans (congrArg some (by kernel_rfl))
  f283 := Tryz.func185.trans (congrArg some (by kernel_rfl))
  f284 := Tryz.func186.trans (congrArg some (by kernel_rfl))
  f285 := Tryz.func187.trans (congrArg some (by kernel_rfl))
  f286 := Tryz.func188.trans (congrArg some (by kernel_rfl))
  f287 := Tryz.func220.trans (congrArg some (by kernel_rfl))
  f316 := Tryz.func221.trans (congrArg some (by kernel_rfl))
  f317 := Tryz.func196.trans (congrArg some (by kernel_rfl))
  f318 := Tryz.func198.trans (congrArg some (by kernel_rfl))
  f319 := Tryz.func199.trans (congrArg some (by kernel_rfl))
  f320 := Tryz.func200.trans (congrArg some (by kernel_rfl))
  f321 := Tryz.func223.trans (congrArg some (by kernel_rfl))
  f322 := Tryz.func224.trans (congrArg some (by kernel_rfl))
  f337 := Tryz.func208.trans (congrArg some (by kernel_rfl))
  f338 := Tryz.func209.trans (congrArg some (by kernel_rfl))
  t0 := Tryz.underlying0
  a0 := Tryz.isAgg0
  z0 := Tryz.sizeOf0
  v0 := Tryz.zeroValue0
  t2 := Tryz.underlying2
  a2 := Tryz.isAgg2
  z2 := Tryz.sizeOf2
  v2 := Tryz.zeroValue2
  t3 := Tryz.underlying3
  a3 := Tryz.isAgg3
  z3 := Tryz.sizeOf3
  v3 := Tryz.zeroValue3
  t4 := Tryz.underlying4
  a4 := Tryz.isAgg4
  z4 := Tryz.sizeOf4
  v4 := Tryz.zeroValue4
  t5 := Tryz.underlying5
  a5 := Tryz.isAgg5
  z5 := Tryz.sizeOf5
  v5 := Tryz.zeroValue5
  t9 := Tryz.underlying9
  a9 := Tryz.isAgg9
  z9 := Tryz.sizeOf9
  v9 := Tryz.zeroValue9
  t20 := Tryz.underlying20
  a20 := Tryz.isAgg20
  z20 := Tryz.sizeOf20
  v20 := Tryz.zeroValue20
  t21 := Tryz.underlying21
  a21 := Tryz.isAgg21
  z21 := Tryz.sizeOf21
  v21 := Tryz.zeroValue21
  t37 := Tryz.underlying153
  a37 := Tryz.isAgg153
  z37 := Tryz.sizeOf153
  v37 := Tryz.zeroValue153
  t46 := Tryz.underlying252
  a46 := Tryz.isAgg252
  z46 := Tryz.sizeOf252
  v46 := Tryz.zeroValue252
  t51 := Tryz.underlying250
  a51 := Tryz.isAgg250
  z51 := Tryz.sizeOf250
  v51 := Tryz.zeroValue250
  t53 := Tryz.underlying239
  a53 := Tryz.isAgg239
  z53 := Tryz.sizeOf239
  v53 := Tryz.zeroValue239
  t75 := Tryz.underlying157
  a75 := Tryz.isAgg157
  z75 := Tryz.sizeOf157
  v75 := Tryz.zeroValue157
  t76 := Tryz.underlying158
  a76 := Tryz.isAgg158
  z76 := Tryz.sizeOf158
  v76 := Tryz.zeroValue158
  t85 := Tryz.underlying261
  a85 := Tryz.isAgg261
  z85 := Tryz.sizeOf261
  v85 := Tryz.zeroValue261
  t127 := Tryz.underlying209
  a127 := Tryz.isAgg209
  z127 := Tryz.sizeOf209
  v127 := Tryz.zeroValue209
  t143 := Tryz.underlying280
  a143 := Tryz.isAgg280
  z143 := Tryz.sizeOf280
  v143 := Tryz.zeroValue280
  t145 := Tryz.underlying282
  a145 := Tryz.isAgg282
  z145 := Tryz.sizeOf282
  v145 := Tryz.zeroValue282
  t167 := Tryz.underlying260
  a167 := Tryz.isAgg260
  z167 := Tryz.sizeOf260
  v167 := Tryz.zeroValue260
  t168 := Tryz.underlying263
  a168 := Tryz.isAgg263
  z168 := Tryz.sizeOf263
  v168 := Tryz.zeroValue263
  t171 := Tryz.underlying238
  a171 := Tryz.isAgg238
  z171 := Tryz.sizeOf238
  v171 := Tryz.zeroValue238
  t173 := Tryz.underlying242
  a173 := Tryz.isAgg242
  z173 := Tryz.sizeOf242
  v173 := Tryz.zeroValue242
  t175 := Tryz.underlying274
  a175 := Tryz.isAgg274
  z175 := Tryz.sizeOf274
  v175 := Tryz.zeroValue274
  t210 := Tryz.underlying277
  a210 := Tryz.isAgg277
  z210 := Tryz.sizeOf277
  v210 := Tryz.zeroValue277
  t212 := Tryz.underlying249
  a212 := Tryz.isAgg249
  z212 := Tryz.sizeOf249
  v212 := Tryz.zeroValue249
  t213 := Tryz.underlying251
  a213 := Tryz.isAgg251
  z213 := Tryz.sizeOf251
  t232 := Tryz.underlying266
  a232 := Tryz.isAgg266
  z232 := Tryz.sizeOf266
  v232 := Tryz.zeroValue266
  t233 := Tryz.underlying267
  a233 := Tryz.isAgg267
  z233 := Tryz.sizeOf267
  v233 := Tryz.zeroValue267
  g15 := by kernel_rfl
  g16 := by kernel_rfl
  g17 := by kernel_rfl
  g18 := by kernel_rfl
  g19 := by kernel_rfl
  t80 := Tryz.underlying162
  a80 := Tryz.isAgg162
  z80 := Tryz.sizeOf162
  v80 := Tryz.zeroValue162
  i0 := by kernel_rfl
  i2 := by kernel_rfl
  i3 := by kernel_rfl
  i4 := by kernel_rfl
  i5 := by kernel_rfl
  i9 := by kernel_rfl
  i20 := by kernel_rfl
  i21 := by kernel_rfl
  i37 := by kernel_rfl
  i46 := by kernel_rfl
  i51 := by kernel_rfl
  i53 := by kernel_rfl
  i75 := by kernel_rfl
  i76 := by kernel_rfl
  i80 := by kernel_rfl
  i85 := by kernel_rfl
  i127 := by kernel_rfl
  i143 := by kernel_rfl
  i145 := by kernel_rfl
  i167 := by kernel_rfl
  i168 := by kernel_rfl
  i171 := by kernel_rfl
  i173 := by kernel_rfl
  i175 := by kernel_rfl
  i210 := by kernel_rfl
  i212 := by kernel_rfl
  i232 := by kernel_rfl
  i233 := by kernel_rfl
  m15 := by kernel_rfl
  m16 := by kernel_rfl
  m17 := by kernel_rfl
  m18 := by kernel_rfl
  m19 := by kernel_rfl
  c0 := by kernel_rfl
  c2 := by kernel_rfl
  c3 := by kernel_rfl
  c4 := by kernel_rfl
  c5 := by kernel_rfl
  c9 := by kernel_rfl
  c20 := by kernel_rfl
  c21 := by kernel_rfl
  c37 := by kernel_rfl
  c46 := by kernel_rfl
  c51 := by kernel_rfl
  c53 := by kernel_rfl
  c75 := by kernel_rfl
  c76 := by kernel_rfl
  c80 := by kernel_rfl
  c85 := by kernel_rfl
  c127 := by kernel_rfl
  c143 := by kernel_rfl
  c145 := by kernel_rfl
  c167 := by kernel_rfl
  c168 := by kernel_rfl
  c171 := by kernel_rfl
  c173 := by kernel_rfl
  c175 := by kernel_rfl
  c210 := by kernel_rfl
  c212 := by kernel_rfl
  c213 := by kernel_rfl
  c232 := by kernel_rfl
  c233 := by kernel_rfl }
open Go.RowKit in
/-- strconv.Atoi, AT EVERY STRING THAT SPELLS AN int ('Lib.atoiAll .. = .ok v'; of whatever length: leading zeros count): v, AND NO ERROR. The world: as it was, or with the one new row that '[]byte(..)' lays. (LAID: no walk: one application.) -/
theorem str_strconv_Atoi_ok (s : ByteArray) (hmax : s.size ≤ 9223372036854775806) (v : Int) (h : Lib.atoiAll s.data.toList = .ok v) (w : World) :
    Calls Tryz.prog 194 #[.string s] w fun e w' => e = .returned (.tuple #[.int .i64 v, .nilIface]) ∧ (w' = w ∨ ∃ t, w' = Lib.bytesWorld w 5 t) := Any.strconv_Atoi_ok str_laysC172 s hmax v h w
open Go.RowKit in
/-- strconv.Atoi, AT EVERY NUMERAL THAT NO int HOLDS ('.range'): THE GREATEST OR THE LEAST int, BY THE SIGN ('Lib.atoiSat'), AND AN ERROR THAT IS NOT nil: a *NumError in a new block N: {Func: "Atoi", Num: s's bytes, Err: what the variable ErrRange holds}. Of what was there nothing has turned. (LAID: no walk: one application.) -/
theorem str_strconv_Atoi_range (s : ByteArray) (hlim : s.size ≤ 281474976710656) (h : Lib.atoiAll s.data.toList = .range) (ev : Value) (w : World) (hv : w.cell? ⟨7, 0, none⟩ = some ev) (hev : ev = .nilIface ∨ ∃ te pe, ev = .iface te pe) :
    Calls Tryz.prog 194 #[.string s] w fun e w' => ∃ N, e = .returned (.tuple #[.int .i64 (Lib.atoiSat s.data.toList), .iface 263 (.pointer (some ⟨N, 0, none⟩))]) ∧ w.heap.size ≤ N ∧ w'.heap[N]? = some (.cells #[.string ⟨#[65, 116, 111, 105]⟩, .string s, ev] 277 (0, 0)) ∧ Below w.heap.size w w' := Any.strconv_Atoi_range str_laysC172 s hlim h ev w hv hev
def str_lays146_ren : Go.Shelf.Ren := ⟨fun | 146 => 153 | 221 => 178 | 268 => 191 | 138 => 192 | 143 => 193 | 195 => 202 | 197 => 203 | 218 => 204 | 219 => 205 | 260 => 210 | 217 => 181 | 225 => 211 | 224 => 212 | 267 => 213 | 266 => 195 | 314 => 219 | n => n, fun | 9 => 9 | 31 => 208 | 3 => 3 | 4 => 4 | 0 => 0 | 105 => 256 | 21 => 21 | 5 => 5 | 46 => 252 | 119 => 268 | 139 => 271 | 138 => 270 | 146 => 272 | 51 => 250 | n => n, fun | 1 => 1 | 3 => 4 | 4 => 5 | n => n⟩
theorem str_lays146 : Go.Proofs.Lays.n146 Tryz.prog str_lays146_ren := {
  mixed := by kernel_rfl
  f138 := Tryz.func192.trans (congrArg some (by kernel_rfl))
  f143 := Tryz.func193.trans (congrArg some (by kernel_rfl))
  f146 := Tryz.func153.trans (congrArg some (by kernel_rfl))
  f195 := Tryz.func202.trans (congrArg some (by kernel_rfl))
  f197 := Tryz.func203.trans (congrArg some (by kernel_rfl))
  f217 := Tryz.func181.trans (congrArg some (by kernel_rfl))
  f218 := Tryz.func204.trans (congrArg some (by kernel_rfl))
  f219 := Tryz.func205.trans (congrArg some (by kernel_rfl))
  f221 := Tryz.func178.trans (congrArg some (by kernel_rfl))
  f224 := Tryz.func212.trans (congrArg some (by kernel_rfl))
  f225 := Tryz.func211.trans (congrArg some (by kernel_rfl))
  f260 := Tryz.func210.trans (congrArg some (by kernel_rfl))
  f266 := Tryz.func195.trans (congrArg some (by kernel_rfl))
  f267 := Tryz.func213.trans (congrArg some (by kernel_rfl))
  f268 := Tryz.func191.trans (congrArg some (by kernel_rfl))
  f314 := Tryz.func219.trans (congrArg some (by kernel_rfl))
  t0 := Tryz.underlying0
  a0 := Tryz.isAgg0
  z0 := Tryz.sizeOf0
  v0 := Tryz.zeroValue0
  t3 := Tryz.underlying3
  a3 := Tryz.isAgg3
  z3 := Tryz.sizeOf3
  v3 := Tryz.zeroValue3
  t4 := Tryz.underlying4
  a4 := Tryz.isAgg4
  z4 := Tryz.sizeOf4
  v4 := Tryz.zeroValue4
  t5 := Tryz.underlying5
  a5 := Tryz.isAgg5
  z5 := Tryz.sizeOf5
  v5 := Tryz.zeroValue5
  t9 := Tryz.underlying9
  a9 := Tryz.isAgg9
  z9 := Tryz.sizeOf9
  v9 := Tryz.zeroValue9
  t21 := Tryz.underlying21
  a21 := Tryz.isAgg21
  z21 := Tryz.sizeOf21
  v21 := Tryz.zeroValue21
  t31 := Tryz.underlying208
  a31 := Tryz.isAgg208
  z31 := Tryz.sizeOf208
  v31 := Tryz.zeroValue208
  t46 := Tryz.underlying252
  a46 := Tryz.isAgg252
  z46 := Tryz.sizeOf252
  v46 := Tryz.zeroValue252
  t51 := Tryz.underlying250
  a51 := Tryz.isAgg250
  z51 := Tryz.sizeOf250
  v51 := Tryz.zeroValue250
  t105 := Tryz.underlying256
  a105 := Tryz.isAgg256
  z105 := Tryz.sizeOf256
  v105 := Tryz.zeroValue256
  t119 := Tryz.underlying268
  a119 := Tryz.isAgg268
  z119 := Tryz.sizeOf268
  t138 := Tryz.underlying270
  a138 := Tryz.isAgg270
  z138 := Tryz.sizeOf270
  v138 := Tryz.zeroValue270
  t139 := Tryz.underlying271
  a139 := Tryz.isAgg271
  z139 := Tryz.sizeOf271
  v139 := Tryz.zeroValue271
  t146 := Tryz.underlying272
  a146 := Tryz.isAgg272
  z146 := Tryz.sizeOf272
  v146 := Tryz.zeroValue272
  g1 := by kernel_rfl
  g3 := by kernel_rfl
  g4 := by kernel_rfl }
open Go.RowKit Go.Lib in
/-- strings.Split. (LAID: no walk: one application.) -/
theorem str_strings_Split (s sep : ByteArray) (m : Int) (w : World) (hs : s.size < 4294967281) (hm : w.cell? ⟨1, 0, none⟩ = some (.int .i64 m)) (h1 : 1 ≤ sep.size) :
    Calls Tryz.prog 153 #[.string s, .string sep] w fun e w' =>
      e = .returned (.slice (some ⟨w.heap.size, 0, none⟩) (Lib.countB s sep + 1) (Lib.countB s sep + 1)) ∧ w' = w.alloc (.cells ((Lib.splitB sep 0 (Lib.countB s sep) s).map Value.string).toArray 9) := Any.strings_Split str_lays146 (by kernel_rfl) s sep m w hs hm h1
def str_lays110_ren : Go.Shelf.Ren := ⟨fun | 110 => 154 | 109 => 179 | n => n, fun | 31 => 208 | 9 => 9 | 4 => 4 | 3 => 3 | 0 => 0 | n => n, fun | n => n⟩
theorem str_lays110 : Go.Proofs.Lays.n110 Tryz.prog str_lays110_ren := {
  mixed := by kernel_rfl
  f109 := Tryz.func179.trans (congrArg some (by kernel_rfl))
  f110 := Tryz.func154.trans (congrArg some (by kernel_rfl))
  t0 := Tryz.underlying0
  a0 := Tryz.isAgg0
  z0 := Tryz.sizeOf0
  v0 := Tryz.zeroValue0
  t3 := Tryz.underlying3
  a3 := Tryz.isAgg3
  z3 := Tryz.sizeOf3
  v3 := Tryz.zeroValue3
  t4 := Tryz.underlying4
  a4 := Tryz.isAgg4
  z4 := Tryz.sizeOf4
  v4 := Tryz.zeroValue4
  t9 := Tryz.underlying9
  a9 := Tryz.isAgg9
  z9 := Tryz.sizeOf9
  v9 := Tryz.zeroValue9
  t31 := Tryz.underlying208
  a31 := Tryz.isAgg208
  z31 := Tryz.sizeOf208
  v31 := Tryz.zeroValue208 }
open Go.Lib in
/-- slices.Contains at []string: "Contains reports whether v is present in s.": IT RETURNS 'Lib.containsS (the elements) v', which is true just where v is among them ('Lib.containsS_iff'); the world is as it was. ITS CALLEE slices.Index IS MET BY ITS OWN CONTRACT OFF THE SHELF (lay that first): no loop is walked here. (LAID: no walk: one application.) -/
theorem str_slices_Contains_string (b off n c : Nat) (zs : List ByteArray) (x : ByteArray) (w : World) (hz : n ≤ zs.length) (hbig : n ≤ 9223372036854775807) (hc : ∀ j, j < zs.length → w.cell? ⟨b, off + j, none⟩ = some (.string (zs.getD j ByteArray.empty))) :
    Calls Tryz.prog 154 #[.slice (some ⟨b, off, none⟩) n c, .string x] w fun e w' => e = .returned (.bool (Lib.containsS (zs.take n) x)) ∧ w' = w := Any.slices_Contains_string str_lays110 b off n c zs x w hz hbig hc
end Go.Proofs.YthkjgcldolnjaaaGreatDoor

/- Contracts of the library on strings at this program, laid. Conditions: none. -/
import Derived.Shelf.Strings.Builder1
import Derived.Shelf.Strings.Builder2
import Derived.Shelf.Strings.OnBuilder
import Derived.Shelf.Small.Wraps
import Derived.Shelf.Strings.BuilderF
import Derived.Shelf.Strings.BuilderK
import Derived.Shelf.Strconv.Atoi
import Derived.Shelf.Strconv.Itoa0
import Derived.Shelf.Strconv.Itoa1
import Derived.Shelf.LaysM
import Derived.Shelf.Strconv.Itoa2
import Derived.Shelf.Strconv.Itoa3
import Derived.Shelf.Strconv.AtoiErrFast
import Derived.Shelf.Strconv.ParseIntEmpty
import Derived.Shelf.Strconv.AtoiFail
import Derived.Shelf.Strconv.Clone
import Derived.Shelf.Strconv.SyntaxError
import Derived.Shelf.LaysC
import Derived.Shelf.Strconv.ToError
import Derived.Shelf.Strconv.Lower
import Derived.Shelf.Strconv.ParseUint10
import Derived.Shelf.Strconv.ParseUint10Empty
import Derived.Shelf.Strconv.ParseUint10Any
import Derived.Shelf.Strconv.ParseInt10
import Derived.Shelf.Strconv.AtoiLong
import Derived.Shelf.Strconv.AtoiInnerAll
import Derived.Shelf.Strconv.RangeError
import Derived.Shelf.Strconv.ToErrorRange
import Derived.Shelf.Strconv.AtoiAll
import Derived.Shelf.Strings.Search1
import Derived.Shelf.Strings.Search2
import Derived.Shelf.Strings.Search3
import Derived.Shelf.Strings.Cut
import Derived.Shelf.Strings.Count
import Derived.Shelf.Strings.Shaped
import Derived.Shelf.Strings.Split
import Derived.Shelf.Unicode.DecodeSlow
import Derived.Shelf.Slices.Turned
import Derived.Test.YtpcgeihemkhkjaaGreatDoorProg
import Derived.Test.YtpcgeihemkhkjaaGreatDoorS05
import Derived.Lib.ItoaLen
import Derived.Laws.RangeAny
import Derived.Laws.RangeString
import Derived.Deep.CutRange
namespace Go.Proofs.YtpcgeihemkhkjaaGreatDoor
open Go.Shelf
def Z5x : Go.Shelf.Ren := ⟨fun | 156 => 116 | 165 => 169 | 166 => 170 | 169 => 171 | 240 => 202 | 241 => 203 | 276 => 225 | 277 => 226 | n => n, fun | 31 => 179 | 9 => 9 | 3 => 3 | 4 => 4 | 0 => 0 | 20 => 20 | 72 => 246 | 76 => 250 | 70 => 243 | 37 => 244 | 75 => 249 | 127 => 277 | 164 => 299 | 5 => 5 | 80 => 252 | n => n, fun | n => n⟩
theorem Z5y : Go.Proofs.Lays.n156 Tryz.prog Z5x := {
 mixed := by kernel_rfl
 f156 := Tryz.func116.trans (congrArg some (by kernel_rfl))
 f165 := Tryz.func169.trans (congrArg some (by kernel_rfl))
 f166 := Tryz.func170.trans (congrArg some (by kernel_rfl))
 f169 := Tryz.func171.trans (congrArg some (by kernel_rfl))
 f240 := Tryz.func202.trans (congrArg some (by kernel_rfl))
 f241 := Tryz.func203.trans (congrArg some (by kernel_rfl))
 f276 := Tryz.func225.trans (congrArg some (by kernel_rfl))
 f277 := Tryz.func226.trans (congrArg some (by kernel_rfl))
 t0 := Tryz.underlying0
 a0 := Tryz.isAgg0
 z0 := Tryz.sizeOf0
 v0 := Tryz.zeroValue0
 t3 := Tryz.underlying3
 a3 := Tryz.isAgg3
 z3 := Tryz.sizeOf3
 v3 := Tryz.zeroValue3
 t4 := Tryz.underlying4
 a4 := Tryz.isAgg4
 z4 := Tryz.sizeOf4
 v4 := Tryz.zeroValue4
 t9 := Tryz.underlying9
 a9 := Tryz.isAgg9
 z9 := Tryz.sizeOf9
 v9 := Tryz.zeroValue9
 t20 := Tryz.underlying20
 a20 := Tryz.isAgg20
 z20 := Tryz.sizeOf20
 v20 := Tryz.zeroValue20
 t31 := Tryz.underlying179
 a31 := Tryz.isAgg179
 z31 := Tryz.sizeOf179
 v31 := Tryz.zeroValue179
 t37 := Tryz.underlying244
 a37 := Tryz.isAgg244
 z37 := Tryz.sizeOf244
 v37 := Tryz.zeroValue244
 t70 := Tryz.underlying243
 a70 := Tryz.isAgg243
 z70 := Tryz.sizeOf243
 v70 := Tryz.zeroValue243
 t72 := Tryz.underlying246
 a72 := Tryz.isAgg246
 z72 := Tryz.sizeOf246
 v72 := Tryz.zeroValue246
 t75 := Tryz.underlying249
 a75 := Tryz.isAgg249
 z75 := Tryz.sizeOf249
 v75 := Tryz.zeroValue249
 t76 := Tryz.underlying250
 a76 := Tryz.isAgg250
 z76 := Tryz.sizeOf250
 v76 := Tryz.zeroValue250
 t127 := Tryz.underlying277
 a127 := Tryz.isAgg277
 z127 := Tryz.sizeOf277
 v127 := Tryz.zeroValue277
 t164 := Tryz.underlying299
 a164 := Tryz.isAgg299
 z164 := Tryz.sizeOf299
 v164 := Tryz.zeroValue299 }
theorem Z5z : Builder.Extra Tryz.prog Z5x := {
 sizeBuilder := by kernel_rfl
 liesBuilder := by kernel_rfl
 t5 := Tryz.underlying5
 a5 := Tryz.isAgg5
 z5 := Tryz.sizeOf5
 v5 := Tryz.zeroValue5
 infoByte := by kernel_rfl
 cellsByte := by kernel_rfl
 sizeByte := by kernel_rfl
 neB5 := by decide }
open Go.RowKit in
theorem Z60 (bk o c : Nat) (xs : List ByteArray) (sep : ByteArray) (w : World) (hcells : ∀ (j : Nat) x, xs[j]? = some x → w.cell? ⟨bk, o + j, none⟩ = some (.string x)) (hbk : bk < w.heap.size) (hN : xs.length ≤ 140737488355328) (hcap : xs.length ≤ c) (hlen : (Lib.join (xs.map (·.data.toList)) sep.data.toList).length ≤ 140737488355328) :
  Calls Tryz.prog 116 #[.slice (some ⟨bk, o, none⟩) xs.length c, .string sep] w fun e w' => e = .returned (.string ⟨(Lib.join (xs.map (·.data.toList)) sep.data.toList).toArray⟩) ∧ Below w.heap.size w w' := Any.strings_Join Z5y Z5z bk o c xs sep w hcells hbk hN hcap hlen
def Z61 : Go.Shelf.Ren := ⟨fun | 171 => 115 | 243 => 168 | 246 => 201 | 283 => 221 | 284 => 222 | 285 => 223 | 286 => 224 | 129 => 245 | 317 => 244 | 318 => 246 | 319 => 247 | 320 => 248 | 337 => 255 | 338 => 256 | n => n, fun | 3 => 3 | 9 => 9 | 2 => 2 | 4 => 4 | 171 => 293 | 0 => 0 | 53 => 294 | 37 => 244 | 5 => 5 | 173 => 297 | 212 => 317 | 51 => 318 | 20 => 20 | 213 => 319 | 46 => 303 | 232 => 338 | 233 => 339 | n => n, fun | 17 => 2 | 18 => 7 | 19 => 8 | n => n⟩
theorem Z62 : Go.Proofs.LaysM.n171 Tryz.prog Z61 := {
 mixed := by kernel_rfl
 f129 := Tryz.func245.trans (congrArg some (by kernel_rfl))
 f171 := Tryz.func115.trans (congrArg some (by kernel_rfl))
 f243 := Tryz.func168.trans (congrArg some (by kernel_rfl))
 f246 := Tryz.func201.trans (congrArg some (by kernel_rfl))
 f283 := Tryz.func221.trans (congrArg some (by kernel_rfl))
 f284 := Tryz.func222.trans (congrArg some (by kernel_rfl))
 f285 := Tryz.func223.trans (congrArg some (by kernel_rfl))
 f286 := Tryz.func224.trans (congrArg some (by kernel_rfl))
 f317 := Tryz.func244.trans (congrArg some (by kernel_rfl))
 f318 := Tryz.func246.trans (congrArg some (by kernel_rfl))
 f319 := Tryz.func247.trans (congrArg some (by kernel_rfl))
 f320 := Tryz.func248.trans (congrArg some (by kernel_rfl))
 f337 := Tryz.func255.trans (congrArg some (by kernel_rfl))
 f338 := Tryz.func256.trans (congrArg some (by kernel_rfl))
 t0 := Tryz.underlying0
 a0 := Tryz.isAgg0
 z0 := Tryz.sizeOf0
 v0 := Tryz.zeroValue0
 t2 := Tryz.underlying2
 a2 := Tryz.isAgg2
 z2 := Tryz.sizeOf2
 v2 := Tryz.zeroValue2
 t3 := Tryz.underlying3
 a3 := Tryz.isAgg3
 z3 := Tryz.sizeOf3
 v3 := Tryz.zeroValue3
 t4 := Tryz.underlying4
 a4 := Tryz.isAgg4
 z4 := Tryz.sizeOf4
 v4 := Tryz.zeroValue4
 t5 := Tryz.underlying5
 a5 := Tryz.isAgg5
 z5 := Tryz.sizeOf5
 v5 := Tryz.zeroValue5
 t9 := Tryz.underlying9
 a9 := Tryz.isAgg9
 z9 := Tryz.sizeOf9
 v9 := Tryz.zeroValue9
 t20 := Tryz.underlying20
 a20 := Tryz.isAgg20
 z20 := Tryz.sizeOf20
 v20 := Tryz.zeroValue20
 t37 := Tryz.underlying244
 a37 := Tryz.isAgg244
 z37 := Tryz.sizeOf244
 v37 := Tryz.zeroValue244
 t46 := Tryz.underlying303
 a46 := Tryz.isAgg303
 z46 := Tryz.sizeOf303
 v46 := Tryz.zeroValue303
 t51 := Tryz.underlying318
 a51 := Tryz.isAgg318
 z51 := Tryz.sizeOf318
 v51 := Tryz.zeroValue318
 t53 := Tryz.underlying294
 a53 := Tryz.isAgg294
 z53 := Tryz.sizeOf294
 v53 := Tryz.zeroValue294
 t171 := Tryz.underlying293
 a171 := Tryz.isAgg293
 z171 := Tryz.sizeOf293
 v171 := Tryz.zeroValue293
 t173 := Tryz.underlying297
 a173 := Tryz.isAgg297
 z173 := Tryz.sizeOf297
 v173 := Tryz.zeroValue297
 t212 := Tryz.underlying317
 a212 := Tryz.isAgg317
 z212 := Tryz.sizeOf317
 v212 := Tryz.zeroValue317
 t213 := Tryz.underlying319
 a213 := Tryz.isAgg319
 z213 := Tryz.sizeOf319
 t232 := Tryz.underlying338
 a232 := Tryz.isAgg338
 z232 := Tryz.sizeOf338
 v232 := Tryz.zeroValue338
 t233 := Tryz.underlying339
 a233 := Tryz.isAgg339
 z233 := Tryz.sizeOf339
 v233 := Tryz.zeroValue339
 g17 := by kernel_rfl
 g18 := by kernel_rfl
 g19 := by kernel_rfl
 i0 := by kernel_rfl
 i2 := by kernel_rfl
 i3 := by kernel_rfl
 i4 := by kernel_rfl
 i5 := by kernel_rfl
 i9 := by kernel_rfl
 i20 := by kernel_rfl
 i37 := by kernel_rfl
 i46 := by kernel_rfl
 i51 := by kernel_rfl
 i53 := by kernel_rfl
 i171 := by kernel_rfl
 i173 := by kernel_rfl
 i212 := by kernel_rfl
 i232 := by kernel_rfl
 i233 := by kernel_rfl
 m17 := by kernel_rfl
 m18 := by kernel_rfl
 m19 := by kernel_rfl }
open Go.RowKit Go.Sort Go.Lib in
theorem Z63 (n : Int) (h0 : -9223372036854775808 ≤ n) (h1 : n ≤ 9223372036854775807) (w : World) (htab : Lib.TabIs Tryz.prog w "internal/strconv.uint64pow10" .u64 Lib.pow10Tab) :
  Calls Tryz.prog 115 #[.int .i64 n] w fun e w' => e = .returned (.string ⟨(Lib.itoa n).toArray⟩) ∧ ∃ k os, w' = grow (w.drewN k) os := Any.strconv_Itoa Z62 n h0 h1 w htab
def Z64 : Go.Shelf.Ren := ⟨fun | 172 => 175 | 244 => 208 | 245 => 209 | 247 => 234 | 279 => 235 | 280 => 236 | 281 => 237 | 282 => 238 | 287 => 252 | 316 => 253 | 171 => 115 | 205 => 254 | 321 => 257 | 322 => 258 | 243 => 168 | 246 => 201 | 283 => 221 | 284 => 222 | 285 => 223 | 286 => 224 | 129 => 245 | 317 => 244 | 318 => 246 | 319 => 247 | 320 => 248 | 337 => 255 | 338 => 256 | n => n, fun | 9 => 9 | 3 => 3 | 75 => 249 | 76 => 250 | 4 => 4 | 5 => 5 | 167 => 307 | 37 => 244 | 0 => 0 | 85 => 308 | 2 => 2 | 168 => 310 | 53 => 294 | 175 => 323 | 46 => 303 | 210 => 327 | 127 => 277 | 145 => 337 | 143 => 335 | 21 => 21 | 171 => 293 | 173 => 297 | 212 => 317 | 51 => 318 | 20 => 20 | 213 => 319 | 232 => 338 | 233 => 339 | 80 => 252 | n => n, fun | 15 => 3 | 16 => 4 | 17 => 2 | 18 => 7 | 19 => 8 | n => n⟩
theorem Z65 : Go.Proofs.LaysC.n172 Tryz.prog Z64 := {
 mixed := by kernel_rfl
 f129 := Tryz.func245.trans (congrArg some (by kernel_rfl))
 f171 := Tryz.func115.trans (congrArg some (by kernel_rfl))
 f172 := Tryz.func175.trans (congrArg some (by kernel_rfl))
 f205 := Tryz.func254.trans (congrArg some (by kernel_rfl))
 f243 := Tryz.func168.trans (congrArg some (by kernel_rfl))
 f244 := Tryz.func208.trans (congrArg some (by kernel_rfl))
 f245 := Tryz.func209.trans (congrArg some (by kernel_rfl))
 f246 := Tryz.func201.trans (congrArg some (by kernel_rfl))
 f247 := Tryz.func234.trans (congrArg some (by kernel_rfl))
 f279 := Tryz.func235.trans (congrArg some (by kernel_rfl))
 f280 := Tryz.func236.trans (congrArg some (by kernel_rfl))
 f281 := Tryz.func237.trans (congrArg some (by kernel_rfl))
 f282 := Tryz.func238.trans (congrArg some (by kernel_rfl))
 f283 := Tryz.func221.trans (congrArg some (by kernel_rfl))
 f284 := Tryz.func222.trans (congrArg some (by kernel_rfl))
 f285 := Tryz.func223.trans (congrArg some (by kernel_rfl))
 f286 := Tryz.func224.trans (congrArg some (by kernel_rfl))
 f287 := Tryz.func252.trans (congrArg some (by kernel_rfl))
 f316 := Tryz.func253.trans (congrArg some (by kernel_rfl))
 f317 := Tryz.func244.trans (congrArg some (by kernel_rfl))
 f318 := Tryz.func246.trans (congrArg some (by kernel_rfl))
 f319 := Tryz.func247.trans (congrArg some (by kernel_rfl))
 f320 := Tryz.func248.trans (congrArg some (by kernel_rfl))
 f321 := Tryz.func257.trans (congrArg some (by kernel_rfl))
 f322 := Tryz.func258.trans (congrArg some (by kernel_rfl))
 f337 := Tryz.func255.trans (congrArg some (by kernel_rfl))
 f338 := Tryz.func256.trans (congrArg some (by kernel_rfl))
 t0 := Tryz.underlying0
 a0 := Tryz.isAgg0
 z0 := Tryz.sizeOf0
 v0 := Tryz.zeroValue0
 t2 := Tryz.underlying2
 a2 := Tryz.isAgg2
 z2 := Tryz.sizeOf2
 v2 := Tryz.zeroValue2
 t3 := Tryz.underlying3
 a3 := Tryz.isAgg3
 z3 := Tryz.sizeOf3
 v3 := Tryz.zeroValue3
 t4 := Tryz.underlying4
 a4 := Tryz.isAgg4
 z4 := Tryz.sizeOf4
 v4 := Tryz.zeroValue4
 t5 := Tryz.underlying5
 a5 := Tryz.isAgg5
 z5 := Tryz.sizeOf5
 v5 := Tryz.zeroValue5
 t9 := Tryz.underlying9
 a9 := Tryz.isAgg9
 z9 := Tryz.sizeOf9
 v9 := Tryz.zeroValue9
 t20 := Tryz.underlying20
 a20 := Tryz.isAgg20
 z20 := Tryz.sizeOf20
 v20 := Tryz.zeroValue20
 t21 := Tryz.underlying21
 a21 := Tryz.isAgg21
 z21 := Tryz.sizeOf21
 v21 := Tryz.zeroValue21
 t37 := Tryz.underlying244
 a37 := Tryz.isAgg244
 z37 := Tryz.sizeOf244
 v37 := Tryz.zeroValue244
 t46 := Tryz.underlying303
 a46 := Tryz.isAgg303
 z46 := Tryz.sizeOf303
 v46 := Tryz.zeroValue303
 t51 := Tryz.underlying318
 a51 := Tryz.isAgg318
 z51 := Tryz.sizeOf318
 v51 := Tryz.zeroValue318
 t53 := Tryz.underlying294
 a53 := Tryz.isAgg294
 z53 := Tryz.sizeOf294
 v53 := Tryz.zeroValue294
 t75 := Tryz.underlying249
 a75 := Tryz.isAgg249
 z75 := Tryz.sizeOf249
 v75 := Tryz.zeroValue249
 t76 := Tryz.underlying250
 a76 := Tryz.isAgg250
 z76 := Tryz.sizeOf250
 v76 := Tryz.zeroValue250
 t85 := Tryz.underlying308
 a85 := Tryz.isAgg308
 z85 := Tryz.sizeOf308
 v85 := Tryz.zeroValue308
 t127 := Tryz.underlying277
 a127 := Tryz.isAgg277
 z127 := Tryz.sizeOf277
 v127 := Tryz.zeroValue277
 t143 := Tryz.underlying335
 a143 := Tryz.isAgg335
 z143 := Tryz.sizeOf335
 v143 := Tryz.zeroValue335
 t145 := Tryz.underlying337
 a145 := Tryz.isAgg337
 z145 := Tryz.sizeOf337
 v145 := Tryz.zeroValue337
 t167 := Tryz.underlying307
 a167 := Tryz.isAgg307
 z167 := Tryz.sizeOf307
 v167 := Tryz.zeroValue307
 t168 := Tryz.underlying310
 a168 := Tryz.isAgg310
 z168 := Tryz.sizeOf310
 v168 := Tryz.zeroValue310
 t171 := Tryz.underlying293
 a171 := Tryz.isAgg293
 z171 := Tryz.sizeOf293
 v171 := Tryz.zeroValue293
 t173 := Tryz.underlying297
 a173 := Tryz.isAgg297
 z173 := Tryz.sizeOf297
 v173 := Tryz.zeroValue297
 t175 := Tryz.underlying323
 a175 := Tryz.isAgg323
 z175 := Tryz.sizeOf323
 v175 := Tryz.zeroValue323
 t210 := Tryz.underlying327
 a210 := Tryz.isAgg327
 z210 := Tryz.sizeOf327
 v210 := Tryz.zeroValue327
 t212 := Tryz.underlying317
 a212 := Tryz.isAgg317
 z212 := Tryz.sizeOf317
 v212 := Tryz.zeroValue317
 t213 := Tryz.underlying319
 a213 := Tryz.isAgg319
 z213 := Tryz.sizeOf319
 t232 := Tryz.underlying338
 a232 := Tryz.isAgg338
 z232 := Tryz.sizeOf338
 v232 := Tryz.zeroValue338
 t233 := Tryz.underlying339
 a233 := Tryz.isAgg339
 z233 := Tryz.sizeOf339
 v233 := Tryz.zeroValue339
 g15 := by kernel_rfl
 g16 := by kernel_rfl
 g17 := by kernel_rfl
 g18 := by kernel_rfl
 g19 := by kernel_rfl
 t80 := Tryz.underlying252
 a80 := Tryz.isAgg252
 z80 := Tryz.sizeOf252
 v80 := Tryz.zeroValue252
 i0 := by kernel_rfl
 i2 := by kernel_rfl
 i3 := by kernel_rfl
 i4 := by kernel_rfl
 i5 := by kernel_rfl
 i9 := by kernel_rfl
 i20 := by kernel_rfl
 i21 := by kernel_rfl
 i37 := by kernel_rfl
 i46 := by kernel_rfl
 i51 := by kernel_rfl
 i53 := by kernel_rfl
 i75 := by kernel_rfl
 i76 := by kernel_rfl
 i80 := by kernel_rfl
 i85 := by kernel_rfl
 i127 := by kernel_rfl
 i143 := by kernel_rfl
 i145 := by kernel_rfl
 i167 := by kernel_rfl
 i168 := by kernel_rfl
 i171 := by kernel_rfl
 i173 := by kernel_rfl
 i175 := by kernel_rfl
 i210 := by kernel_rfl
 i212 := by kernel_rfl
 i232 := by kernel_rfl
 i233 := by kernel_rfl
 m15 := by kernel_rfl
 m16 := by kernel_rfl
 m17 := by kernel_rfl
 m18 := by kernel_rfl
 m19 := by kernel_rfl
 c0 := by kernel_rfl
 c2 := by kernel_rfl
 c3 := by kernel_rfl
 c4 := by kernel_rfl
 c5 := by kernel_rfl
 c9 := by kernel_rfl
 c20 := by kernel_rfl
 c21 := by kernel_rfl
 c37 := by kernel_rfl
 c46 := by kernel_rfl
 c51 := by kernel_rfl
 c53 := by kernel_rfl
 c75 := by kernel_rfl
 c76 := by kernel_rfl
 c80 := by kernel_rfl
 c85 := by kernel_rfl
 c127 := by kernel_rfl
 c143 := by kernel_rfl
 c145 := by kernel_rfl
 c167 := by kernel_rfl
 c168 := by kernel_rfl
 c171 := by kernel_rfl
 c173 := by kernel_rfl
 c175 := by kernel_rfl
 c210 := by kernel_rfl
 c212 := by kernel_rfl
 c213 := by kernel_rfl
 c232 := by kernel_rfl
 c233 := by kernel_rfl }
open Go.RowKit in
theorem Z66 (s : ByteArray) (hmax : s.size ≤ 9223372036854775806) (v : Int) (h : Lib.atoiAll s.data.toList = .ok v) (w : World) :
  Calls Tryz.prog 175 #[.string s] w fun e w' => e = .returned (.tuple #[.int .i64 v, .nilIface]) ∧ (w' = w ∨ ∃ t, w' = Lib.bytesWorld w 5 t) := Any.strconv_Atoi_ok Z65 s hmax v h w
def Z67 : Go.Shelf.Ren := ⟨fun | 145 => 117 | 220 => 172 | 219 => 204 | 217 => 227 | 225 => 228 | 224 => 229 | 267 => 230 | 266 => 249 | 314 => 250 | n => n, fun | 9 => 9 | 4 => 4 | 59 => 186 | 3 => 3 | 5 => 5 | 46 => 303 | 146 => 321 | 51 => 318 | n => n, fun | 1 => 1 | n => n⟩
theorem Z68 : Go.Proofs.Lays.n145 Tryz.prog Z67 := {
 mixed := by kernel_rfl
 f145 := Tryz.func117.trans (congrArg some (by kernel_rfl))
 f217 := Tryz.func227.trans (congrArg some (by kernel_rfl))
 f219 := Tryz.func204.trans (congrArg some (by kernel_rfl))
 f220 := Tryz.func172.trans (congrArg some (by kernel_rfl))
 f224 := Tryz.func229.trans (congrArg some (by kernel_rfl))
 f225 := Tryz.func228.trans (congrArg some (by kernel_rfl))
 f266 := Tryz.func249.trans (congrArg some (by kernel_rfl))
 f267 := Tryz.func230.trans (congrArg some (by kernel_rfl))
 f314 := Tryz.func250.trans (congrArg some (by kernel_rfl))
 t3 := Tryz.underlying3
 a3 := Tryz.isAgg3
 z3 := Tryz.sizeOf3
 v3 := Tryz.zeroValue3
 t4 := Tryz.underlying4
 a4 := Tryz.isAgg4
 z4 := Tryz.sizeOf4
 v4 := Tryz.zeroValue4
 t5 := Tryz.underlying5
 a5 := Tryz.isAgg5
 z5 := Tryz.sizeOf5
 v5 := Tryz.zeroValue5
 t9 := Tryz.underlying9
 a9 := Tryz.isAgg9
 z9 := Tryz.sizeOf9
 v9 := Tryz.zeroValue9
 t46 := Tryz.underlying303
 a46 := Tryz.isAgg303
 z46 := Tryz.sizeOf303
 v46 := Tryz.zeroValue303
 t51 := Tryz.underlying318
 a51 := Tryz.isAgg318
 z51 := Tryz.sizeOf318
 v51 := Tryz.zeroValue318
 t59 := Tryz.underlying186
 a59 := Tryz.isAgg186
 z59 := Tryz.sizeOf186
 v59 := Tryz.zeroValue186
 t146 := Tryz.underlying321
 a146 := Tryz.isAgg321
 z146 := Tryz.sizeOf321
 v146 := Tryz.zeroValue321
 g1 := by kernel_rfl }
open Go.RowKit Go.Lib in
theorem Z69 (s sep : ByteArray) (m : Int) (w : World) (hs : s.size < 4294967281) (hm : w.cell? ⟨1, 0, none⟩ = some (.int .i64 m)) :
  Calls Tryz.prog 117 #[.string s, .string sep] w fun e w' => e = .returned (.tuple #[.string ⟨(Lib.cut s.data.toList sep.data.toList).1.toArray⟩, .string ⟨(Lib.cut s.data.toList sep.data.toList).2.1.toArray⟩, .bool (Lib.cut s.data.toList sep.data.toList).2.2]) ∧ ∃ n, w' = w.drewN n := Any.strings_Cut Z68 s sep m w hs hm
def Z6a : Go.Shelf.Ren := ⟨fun | 146 => 118 | 221 => 173 | 268 => 205 | 138 => 206 | 143 => 207 | 195 => 231 | 197 => 232 | 218 => 233 | 219 => 204 | 260 => 251 | 217 => 227 | 225 => 228 | 224 => 229 | 267 => 230 | 266 => 249 | 314 => 250 | n => n, fun | 9 => 9 | 31 => 179 | 3 => 3 | 4 => 4 | 0 => 0 | 105 => 305 | 21 => 21 | 5 => 5 | 46 => 303 | 119 => 330 | 139 => 333 | 138 => 332 | 146 => 321 | 51 => 318 | n => n, fun | 1 => 1 | 3 => 5 | 4 => 6 | n => n⟩
theorem Z6b : Go.Proofs.Lays.n146 Tryz.prog Z6a := {
 mixed := by kernel_rfl
 f138 := Tryz.func206.trans (congrArg some (by kernel_rfl))
 f143 := Tryz.func207.trans (congrArg some (by kernel_rfl))
 f146 := Tryz.func118.trans (congrArg some (by kernel_rfl))
 f195 := Tryz.func231.trans (congrArg some (by kernel_rfl))
 f197 := Tryz.func232.trans (congrArg some (by kernel_rfl))
 f217 := Tryz.func227.trans (congrArg some (by kernel_rfl))
 f218 := Tryz.func233.trans (congrArg some (by kernel_rfl))
 f219 := Tryz.func204.trans (congrArg some (by kernel_rfl))
 f221 := Tryz.func173.trans (congrArg some (by kernel_rfl))
 f224 := Tryz.func229.trans (congrArg some (by kernel_rfl))
 f225 := Tryz.func228.trans (congrArg some (by kernel_rfl))
 f260 := Tryz.func251.trans (congrArg some (by kernel_rfl))
 f266 := Tryz.func249.trans (congrArg some (by kernel_rfl))
 f267 := Tryz.func230.trans (congrArg some (by kernel_rfl))
 f268 := Tryz.func205.trans (congrArg some (by kernel_rfl))
 f314 := Tryz.func250.trans (congrArg some (by kernel_rfl))
 t0 := Tryz.underlying0
 a0 := Tryz.isAgg0
 z0 := Tryz.sizeOf0
 v0 := Tryz.zeroValue0
 t3 := Tryz.underlying3
 a3 := Tryz.isAgg3
 z3 := Tryz.sizeOf3
 v3 := Tryz.zeroValue3
 t4 := Tryz.underlying4
 a4 := Tryz.isAgg4
 z4 := Tryz.sizeOf4
 v4 := Tryz.zeroValue4
 t5 := Tryz.underlying5
 a5 := Tryz.isAgg5
 z5 := Tryz.sizeOf5
 v5 := Tryz.zeroValue5
 t9 := Tryz.underlying9
 a9 := Tryz.isAgg9
 z9 := Tryz.sizeOf9
 v9 := Tryz.zeroValue9
 t21 := Tryz.underlying21
 a21 := Tryz.isAgg21
 z21 := Tryz.sizeOf21
 v21 := Tryz.zeroValue21
 t31 := Tryz.underlying179
 a31 := Tryz.isAgg179
 z31 := Tryz.sizeOf179
 v31 := Tryz.zeroValue179
 t46 := Tryz.underlying303
 a46 := Tryz.isAgg303
 z46 := Tryz.sizeOf303
 v46 := Tryz.zeroValue303
 t51 := Tryz.underlying318
 a51 := Tryz.isAgg318
 z51 := Tryz.sizeOf318
 v51 := Tryz.zeroValue318
 t105 := Tryz.underlying305
 a105 := Tryz.isAgg305
 z105 := Tryz.sizeOf305
 v105 := Tryz.zeroValue305
 t119 := Tryz.underlying330
 a119 := Tryz.isAgg330
 z119 := Tryz.sizeOf330
 t138 := Tryz.underlying332
 a138 := Tryz.isAgg332
 z138 := Tryz.sizeOf332
 v138 := Tryz.zeroValue332
 t139 := Tryz.underlying333
 a139 := Tryz.isAgg333
 z139 := Tryz.sizeOf333
 v139 := Tryz.zeroValue333
 t146 := Tryz.underlying321
 a146 := Tryz.isAgg321
 z146 := Tryz.sizeOf321
 v146 := Tryz.zeroValue321
 g1 := by kernel_rfl
 g3 := by kernel_rfl
 g4 := by kernel_rfl }
open Go.RowKit Go.Lib in
theorem Z6c (s sep : ByteArray) (m : Int) (w : World) (hs : s.size < 4294967281) (hm : w.cell? ⟨1, 0, none⟩ = some (.int .i64 m)) (h1 : 1 ≤ sep.size) :
  Calls Tryz.prog 118 #[.string s, .string sep] w fun e w' =>
   e = .returned (.slice (some ⟨w.heap.size, 0, none⟩) (Lib.countB s sep + 1) (Lib.countB s sep + 1)) ∧ w' = w.alloc (.cells ((Lib.splitB sep 0 (Lib.countB s sep) s).map Value.string).toArray 9) := Any.strings_Split Z6b (by kernel_rfl) s sep m w hs hm h1
def Z6d : Go.Shelf.Ren := ⟨fun | 110 => 119 | 109 => 174 | n => n, fun | 31 => 179 | 9 => 9 | 4 => 4 | 3 => 3 | 0 => 0 | n => n, fun | n => n⟩
theorem Z6e : Go.Proofs.Lays.n110 Tryz.prog Z6d := {
 mixed := by kernel_rfl
 f109 := Tryz.func174.trans (congrArg some (by kernel_rfl))
 f110 := Tryz.func119.trans (congrArg some (by kernel_rfl))
 t0 := Tryz.underlying0
 a0 := Tryz.isAgg0
 z0 := Tryz.sizeOf0
 v0 := Tryz.zeroValue0
 t3 := Tryz.underlying3
 a3 := Tryz.isAgg3
 z3 := Tryz.sizeOf3
 v3 := Tryz.zeroValue3
 t4 := Tryz.underlying4
 a4 := Tryz.isAgg4
 z4 := Tryz.sizeOf4
 v4 := Tryz.zeroValue4
 t9 := Tryz.underlying9
 a9 := Tryz.isAgg9
 z9 := Tryz.sizeOf9
 v9 := Tryz.zeroValue9
 t31 := Tryz.underlying179
 a31 := Tryz.isAgg179
 z31 := Tryz.sizeOf179
 v31 := Tryz.zeroValue179 }
open Go.Lib in
theorem Z6f (b off n c : Nat) (zs : List ByteArray) (x : ByteArray) (w : World) (hz : n ≤ zs.length) (hbig : n ≤ 9223372036854775807) (hc : ∀ j, j < zs.length → w.cell? ⟨b, off + j, none⟩ = some (.string (zs.getD j ByteArray.empty))) :
  Calls Tryz.prog 119 #[.slice (some ⟨b, off, none⟩) n c, .string x] w fun e w' => e = .returned (.bool (Lib.containsS (zs.take n) x)) ∧ w' = w := Any.slices_Contains_string Z6e b off n c zs x w hz hbig hc
end Go.Proofs.YtpcgeihemkhkjaaGreatDoor
namespace Go.Proofs.YtpcgeihemkhkjaaGreatDoor
open Go.RowKit Go.ChangeMaps
set_option maxHeartbeats 4000000
set_option maxRecDepth 100000
structure Lay (w : World) : Prop where
 tab : Lib.TabIs Tryz.prog w "internal/strconv.uint64pow10" .u64 Lib.pow10Tab
 mx : ∃ m, w.cell? ⟨1, 0, none⟩ = some (.int .i64 m)
 es : ∃ ev, w.cell? ⟨3, 0, none⟩ = some ev ∧ (ev = .nilIface ∨ ∃ te pe, ev = .iface te pe)
 er : ∃ ev, w.cell? ⟨4, 0, none⟩ = some ev ∧ (ev = .nilIface ∨ ∃ te pe, ev = .iface te pe)
theorem Z6g {w : World} {b i : Nat} {v : Value} (h : w.cell? ⟨b, i, none⟩ = some v) : b < w.heap.size := by
 rcases Nat.lt_or_ge b w.heap.size with h' | h'
 ·exact h'
 ·simp [World.cell?, Array.getElem?_eq_none h'] at h
theorem Z6h {w w' : World} {n : String} {k : IntKind} {zs : List Int} {P : Program} (h : Lib.TabIs P w n k zs) (hb : Below w.heap.size w w') : Lib.TabIs P w' n k zs := by
 unfold Lib.TabIs World.var? at *
 cases hg : P.globalNamed n with
 | none => rw [hg] at h; simp at h
 | some g =>
  rw [hg] at h; simp only [Option.bind_some] at h ⊢
  have hlt : g < w.heap.size := by
   rcases Nat.lt_or_ge g w.heap.size with h' | h'
   ·exact h'
   ·rw [Array.getElem?_eq_none h'] at h; simp at h
  rw [hb.block g hlt]; exact h
theorem Lay.below {w w' : World} (h : Lay w) (hb : Below w.heap.size w w') : Lay w' := by
 obtain ⟨h1, ⟨m, h2⟩, ⟨e1, h3, h3'⟩, ⟨e2, h4, h4'⟩⟩ := h
 exact ⟨Z6h h1 hb, ⟨m, (hb.cell (p := ⟨1, 0, none⟩) (Z6g h2)).trans h2⟩, ⟨e1, (hb.cell (p := ⟨3, 0, none⟩) (Z6g h3)).trans h3, h3'⟩, ⟨e2, (hb.cell (p := ⟨4, 0, none⟩) (Z6g h4)).trans h4, h4'⟩⟩
theorem Z6i (w : World) (os : Array Obj) : Below w.heap.size w (Sort.grow w os) := by
 unfold Sort.grow
 exact ⟨rfl, rfl, rfl, by simp, fun k hk => by simp [Array.getElem?_append, hk]⟩
theorem Z6j (n : Int) (h : -1000000000000 ≤ n ∧ n ≤ 1000000000000) (w : World) (hL : Lay w) : Calls Tryz.prog 115 #[.int .i64 n] w (RV w (.string ⟨(Lib.itoa n).toArray⟩)) := by
 refine (Z63 n (by omega) (by omega) w hL.tab).mono ?_
 rintro e w' ⟨rfl, k, os, rfl⟩
 exact ⟨rfl, Z08 (Z6i _ os) (Z06 Z03 k)⟩
abbrev Str := List UInt8
def sV (s : Str) : Value := .string ⟨s.toArray⟩
def letC (n : Nat) : Bool := decide (97 ≤ n ∧ n ≤ 122) || decide (65 ≤ n ∧ n ≤ 90)
def okC (i n : Nat) : Bool := letC n || (decide (i ≠ 0) && (decide (n = 95) || decide (48 ≤ n ∧ n ≤ 57)))
def nmF : Nat → Str → Bool
 | _, [] => true
 | i, c :: r => okC i c.toNat && nmF (i + 1) r
def Z6k (s : Str) : Bool := decide (s.length ≠ 0) && (decide (s.length ≤ 24) && nmF 0 s)
theorem Z6l {s : Str} {i k : Nat} (h : k < s.length) : nmF i (s.drop k) = (okC i s[k].toNat && nmF (i + 1) (s.drop (k + 1))) := by
 rw [List.drop_eq_getElem_cons h]; rfl
theorem Z6m (s : Str) (hs : s.length ≤ 1000000) (w : World) : Calls Tryz.prog 79 #[sV s] w (RV w (.bool (Z6k s))) := by
 by_cases h0 : s.length = 0
 ·have HS : Hid (Z6k s = false) := by unfold Hid Z6k; rw [decide_eq_false (by omega)]; rfl
  have e : s = [] := List.eq_nil_of_length_eq_zero h0
  subst e; unfold sV; clear h0 hs; go_enter Tryz.func79, Tryz.ntmps79
  go_wp2; go_ret; exact ⟨by rw [HS.out]; rfl, by (repeat first|exact J0|assumption|(apply J1;assumption)|apply J2|apply J3|apply J4)⟩
 by_cases h24 : 24 < s.length
 ·have HS : Hid (Z6k s = false) := by unfold Hid Z6k; rw [decide_eq_false (show ¬ s.length ≤ 24 by omega)]; simp
  have t1 : ((s.length : Int) == 0) = false := beq_false_of_ne (by omega)
  have t2 : (24 < (s.length : Int)) = True := eq_true (by omega)
  unfold sV; clear h0 h24; go_enter Tryz.func79, Tryz.ntmps79
  go_wp2; go_ret; exact ⟨by rw [HS.out]; rfl, by (repeat first|exact J0|assumption|(apply J1;assumption)|apply J2|apply J3|apply J4)⟩
 have HS : Hid (Z6k s = nmF 0 s) := by unfold Hid Z6k; rw [decide_eq_true h0, decide_eq_true (show s.length ≤ 24 by omega)]; simp
 have t1 : ((s.length : Int) == 0) = false := beq_false_of_ne (by omega)
 have t2 : (24 < (s.length : Int)) = False := eq_false (by omega)
 unfold sV
 clear h0 h24
 go_enter Tryz.func79, Tryz.ntmps79
 go_wp2
 go_loopw [3] (fun i wr => ∃ k : Nat, k ≤ s.length ∧ i = .int .i64 k ∧ Hid (nmF 0 s = nmF k (s.drop k)) ∧ Below w.heap.size w wr) (fun i _ => s.length - (intOf i).toNat)
 case atStart => exact ⟨0, Nat.zero_le _, rfl, by simp [Hid], by (repeat first|exact J0|assumption|(apply J1;assumption)|apply J2|apply J3|apply J4)⟩
 case round =>
  obtain ⟨k, hk, rfl, H, hbw⟩ := hrel; obtain ⟨wo, rfl⟩ : ∃ x, x = wr := ⟨_, rfl⟩
  by_cases hlt : k < s.length
  ·have HD := Lib.hid (Z6l (i := k) hlt)
   obtain ⟨n, hn⟩ : ∃ n : Nat, s[k].toNat = n := ⟨_, rfl⟩
   have hn2 : (({ data := s.toArray } : ByteArray)[k]'hlt).toNat = n := hn
   have hnb : n < 256 := by rw [← hn]; exact UInt8.toNat_lt _
   rw [hn] at HD; clear hn; go_upto_region 7 with fail; clear hn2; go_cut [5] from 23 to 37 (fun s5 wx => s5 = .bool (letC n) ∧ Below wo.heap.size wo wx)
   case first =>
    go_wp2_with fail
    all_goals
     go_meet; case rel => exact ⟨by congr 1; unfold letC; rw [Bool.eq_iff_iff]; simp; omega, by (repeat first|exact J0|assumption|(apply J1;assumption)|apply J2|apply J3|apply J4)⟩
   case rest =>
    obtain ⟨rfl, hbc⟩ := hcut; obtain ⟨wp, rfl⟩ : ∃ x, x = wc := ⟨_, rfl⟩
    have hbw2 := Z08 hbc hbw
    clear hbc; obtain ⟨lt, hl⟩ : ∃ b, letC n = b := ⟨_, rfl⟩
    have HL := Lib.hid hl
    rw [hl]; clear hl; go_upto_region 8 with fail; go_cut [54] from 37 to 54 (fun s54 wx => s54 = .bool (!okC k n) ∧ Below wp.heap.size wp wx)
    case first =>
     cases lt
     all_goals
      rcases hk0 : ((k : Int) == 0) with _ | _
      all_goals
       rcases h95 : ((n : Int) != 95) with _ | _
       all_goals
        have HK0 := Lib.hid hk0
        have H95 := Lib.hid h95
        go_wp2_with fail
        all_goals
         go_meet
         case rel =>
          have e1 := HK0.out
          have e2 := H95.out
          simp at e1 e2
          exact ⟨by congr 1; unfold okC; rw [HL.out]; rw [Bool.eq_iff_iff]; simp; try omega, by (repeat first|exact J0|assumption|(apply J1;assumption)|apply J2|apply J3|apply J4)⟩
    case rest =>
     obtain ⟨rfl, hbc⟩ := hcut; have hbw3 := Z08 hbc hbw2
     obtain ⟨ok, ho⟩ : ∃ b, okC k n = b := ⟨_, rfl⟩
     rw [ho] at HD ⊢; clear ho HL; cases ok
     ·have HF : Hid (nmF 0 s = false) := by unfold Hid; rw [H.out, HD.out]; rfl
      go_wp2; go_ret; exact ⟨by rw [HS.out, HF.out]; rfl, hbw3⟩
     ·have HT : Hid (nmF 0 s = nmF (k + 1) (s.drop (k + 1))) := by unfold Hid; rw [H.out, HD.out]; rfl
      go_wp2; go_roundw; case rel => exact ⟨k + 1, by omega, by go_num, HT, hbw3⟩
      case measure => simp [intOf]; omega
  ·have HE : Hid (nmF 0 s = true) := by unfold Hid; rw [H.out, List.drop_of_length_le (by omega)]; rfl
   go_wp2; go_ret; exact ⟨by rw [HS.out, HE.out]; rfl, hbw⟩
theorem Z6n (s : Str) (hs : s.length ≤ 1000000) (w : World) : Calls Tryz.prog 126 #[sV s] w (RV w (.bool (Z6k s))) := by
 by_cases h0 : s.length = 0
 ·have HS : Hid (Z6k s = false) := by unfold Hid Z6k; rw [decide_eq_false (by omega)]; rfl
  have e : s = [] := List.eq_nil_of_length_eq_zero h0
  subst e; unfold sV; clear h0 hs; go_enter Tryz.func126, Tryz.ntmps126
  go_wp2; go_ret; exact ⟨by rw [HS.out]; rfl, by (repeat first|exact J0|assumption|(apply J1;assumption)|apply J2|apply J3|apply J4)⟩
 by_cases h24 : 24 < s.length
 ·have HS : Hid (Z6k s = false) := by unfold Hid Z6k; rw [decide_eq_false (show ¬ s.length ≤ 24 by omega)]; simp
  have t1 : ((s.length : Int) == 0) = false := beq_false_of_ne (by omega)
  have t2 : (24 < (s.length : Int)) = True := eq_true (by omega)
  unfold sV; clear h0 h24; go_enter Tryz.func126, Tryz.ntmps126
  go_wp2; go_ret; exact ⟨by rw [HS.out]; rfl, by (repeat first|exact J0|assumption|(apply J1;assumption)|apply J2|apply J3|apply J4)⟩
 have HS : Hid (Z6k s = nmF 0 s) := by unfold Hid Z6k; rw [decide_eq_true h0, decide_eq_true (show s.length ≤ 24 by omega)]; simp
 have t1 : ((s.length : Int) == 0) = false := beq_false_of_ne (by omega)
 have t2 : (24 < (s.length : Int)) = False := eq_false (by omega)
 obtain ⟨B, hB⟩ : ∃ B : ByteArray, ({ data := s.toArray } : ByteArray) = B := ⟨_, rfl⟩
 have hsz : B.size = s.length := by rw [← hB]; rfl
 have hget : ∀ k (h : k < s.length), (B[k]'(by rw [hsz]; exact h)) = s[k] := fun k h => by subst hB; rfl
 have HZ := Lib.hid hsz
 have HGt := Lib.hid hget
 unfold sV
 rw [hB]
 clear h0 h24 hB hget
 go_enter Tryz.func126, Tryz.ntmps126
 go_wp2
 go_loopw [3] (fun _ wr => ∃ k : Nat, k ≤ s.length ∧ wr = w.iter B k ∧ Hid (nmF 0 s = nmF k (s.drop k))) (fun _ wr => s.length - wr.iterPos w.heap.size)
 case atStart => exact ⟨0, Nat.zero_le _, rfl, by simp [Hid]⟩
 case round =>
  obtain ⟨k, hk, rfl, H⟩ := hrel; have hbw : Below w.heap.size w (w.iter B k) := Z04 Z03 _
  by_cases hlt : k < s.length
  ·have hp : k < B.size := by have := HZ.out; omega
   have HD := Lib.hid (Z6l (i := k) hlt)
   have hnx : ∀ ty, (Instr.next (.pointer (some ⟨w.heap.size, 0, none⟩)) true ty).run Tryz.prog (w.iter B k) = _ := fun ty => run_next_any w B k ty hp
   obtain ⟨n, hn⟩ : ∃ n : Nat, (Utf8.decode B k).1 = n := ⟨_, rfl⟩
   obtain ⟨d, hd⟩ : ∃ n : Nat, (Utf8.decode B k).2 = n := ⟨_, rfl⟩
   have hg : (B[k]'hp) = s[k] := HGt.out k hlt
   have key : Hid (okC k s[k].toNat = okC k n ∧ (okC k n = true → d = 1)) := by
    by_cases ha : (B[k]'hp).toNat < 128
    ·have := decode_ascii B k hp ha
     rw [this] at hn hd; refine ⟨by rw [← hn, hg], fun _ => hd.symm⟩
    ·have hh := (decode_high B k hp (by omega)).1
     rw [hn] at hh
     have f1 : ∀ m, 128 ≤ m → okC k m = false := fun m hm => by
      unfold okC letC; rw [show decide (97 ≤ m ∧ m ≤ 122) = false from decide_eq_false (by omega), show decide (65 ≤ m ∧ m ≤ 90) = false from decide_eq_false (by omega), show decide (m = 95) = false from decide_eq_false (by omega), show decide (48 ≤ m ∧ m ≤ 57) = false from decide_eq_false (by omega)]
      simp
     rw [hg] at ha; rw [f1 _ (by omega), f1 n hh]
     exact ⟨rfl, fun q => by cases q⟩
   rw [hn, hd] at hnx; have HD2 : Hid (nmF k (s.drop k) = (okC k n && nmF (k + 1) (s.drop (k + 1)))) := by unfold Hid; rw [HD.out, key.out.1]
   have HK : Hid (okC k n = true → d = 1) := key.out.2
   clear HD key hn hd hg; go_upto_region 6 with fail; go_cut [5] from 20 to 34 (fun s5 wx => s5 = .bool (letC n) ∧ wx = w.iter B (k + d))
   case first =>
    go_wp2_with fail
    all_goals
     go_meet; case rel => exact ⟨by congr 1; unfold letC; rw [Bool.eq_iff_iff]; simp; omega, rfl⟩
   case rest =>
    obtain ⟨rfl, hw⟩ := hcut; subst hw; obtain ⟨lt, hl⟩ : ∃ b, letC n = b := ⟨_, rfl⟩
    have HL := Lib.hid hl
    rw [hl]; clear hl; go_upto_region 7 with fail; go_cut [51] from 34 to 51 (fun s51 wx => s51 = .bool (!okC k n) ∧ wx = w.iter B (k + d))
    case first =>
     cases lt
     all_goals
      rcases hk0 : ((k : Int) == 0) with _ | _
      all_goals
       rcases h95 : ((n : Int) != 95) with _ | _
       all_goals
        have HK0 := Lib.hid hk0
        have H95 := Lib.hid h95
        go_wp2_with fail
        all_goals
         go_meet
         case rel =>
          have e1 := HK0.out
          have e2 := H95.out
          simp at e1 e2
          exact ⟨by congr 1; unfold okC; rw [HL.out]; rw [Bool.eq_iff_iff]; simp; try omega, rfl⟩
    case rest =>
     obtain ⟨rfl, hw⟩ := hcut; subst hw; have hbw3 : Below w.heap.size w (w.iter B (k + d)) := Z04 Z03 _
     obtain ⟨ok, ho⟩ : ∃ b, okC k n = b := ⟨_, rfl⟩
     rw [ho] at HD2 HK ⊢; clear ho HL; cases ok
     ·have HF : Hid (nmF 0 s = false) := by unfold Hid; rw [H.out, HD2.out]; rfl
      go_wp2; go_ret; exact ⟨by rw [HS.out, HF.out]; rfl, hbw3⟩
     ·have HT : Hid (nmF 0 s = nmF (k + 1) (s.drop (k + 1))) := by unfold Hid; rw [H.out, HD2.out]; rfl
      obtain rfl : d = 1 := HK.out rfl
      go_wp2; go_roundw; case rel => exact ⟨k + 1, by omega, rfl, HT⟩
      case measure => simp; omega
  ·have hnx : ∀ ty, (Instr.next (.pointer (some ⟨w.heap.size, 0, none⟩)) true ty).run Tryz.prog (w.iter B k) = _ := fun ty => run_next_end w B k ty (by have := HZ.out; omega)
   have HE : Hid (nmF 0 s = true) := by unfold Hid; rw [H.out, List.drop_of_length_le (by omega)]; rfl
   go_wp2; go_ret; exact ⟨by rw [HS.out, HE.out]; rfl, hbw⟩
end Go.Proofs.YtpcgeihemkhkjaaGreatDoor

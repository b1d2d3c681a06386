/- Contracts of the library on strings at this program, laid. Conditions: none. -/
import Derived.Shelf.Strings.Builder1
import Derived.Shelf.Strings.Builder2
import Derived.Shelf.Strings.OnBuilder
import Derived.Shelf.Small.Bits
import Derived.Shelf.Small.Strs
import Derived.Shelf.Small.Wraps
import Derived.Shelf.Strings.BuilderF
import Derived.Shelf.Strings.BuilderK
import Derived.Shelf.Strconv.Atoi
import Derived.Shelf.Strconv.Itoa0
import Derived.Shelf.Strconv.Itoa1
import Derived.Shelf.LaysM
import Derived.Shelf.Strconv.Itoa2
import Derived.Shelf.Strconv.Itoa3
import Derived.Shelf.Strconv.AtoiErrFast
import Derived.Shelf.Strconv.ParseIntEmpty
import Derived.Shelf.Strconv.AtoiFail
import Derived.Shelf.Strconv.Clone
import Derived.Shelf.Strconv.SyntaxError
import Derived.Shelf.LaysC
import Derived.Shelf.Strconv.ToError
import Derived.Shelf.Strconv.Lower
import Derived.Shelf.Strconv.ParseUint10
import Derived.Shelf.Strconv.ParseUint10Empty
import Derived.Shelf.Strconv.ParseUint10Any
import Derived.Shelf.Strconv.ParseInt10
import Derived.Shelf.Strconv.AtoiLong
import Derived.Shelf.Strconv.AtoiInnerAll
import Derived.Shelf.Strconv.RangeError
import Derived.Shelf.Strconv.ToErrorRange
import Derived.Shelf.Strconv.AtoiAll
import Derived.Shelf.Strings.Search1
import Derived.Shelf.Strings.Search2
import Derived.Shelf.Strings.Search3
import Derived.Shelf.Strings.Count
import Derived.Shelf.Strings.Shaped
import Derived.Shelf.Strings.Prefix
import Derived.Shelf.Strings.Split
import Derived.Shelf.Unicode.DecodeSlow
import Derived.Shelf.Slices.Turned
import Derived.Test.YtkkefahobjlagaaGreatDoorProg
namespace Go.Proofs.YtkkefahobjlagaaGreatDoor
open Go.Shelf
def str_lays170_ren : Go.Shelf.Ren := ⟨fun | 170 => 100 | n => n, fun | 70 => 159 | 3 => 3 | 0 => 0 | 72 => 162 | 37 => 160 | 5 => 5 | n => n, fun | n => n⟩
theorem str_lays170 : Go.Proofs.Lays.n170 Tryz.prog str_lays170_ren := {
 mixed := by kernel_rfl
 f170 := Tryz.func100.trans (congrArg some (by kernel_rfl))
 t0 := Tryz.underlying0
 a0 := Tryz.isAgg0
 z0 := Tryz.sizeOf0
 v0 := Tryz.zeroValue0
 t3 := Tryz.underlying3
 a3 := Tryz.isAgg3
 z3 := Tryz.sizeOf3
 v3 := Tryz.zeroValue3
 t37 := Tryz.underlying160
 a37 := Tryz.isAgg160
 z37 := Tryz.sizeOf160
 v37 := Tryz.zeroValue160
 t70 := Tryz.underlying159
 a70 := Tryz.isAgg159
 z70 := Tryz.sizeOf159
 v70 := Tryz.zeroValue159
 t72 := Tryz.underlying162
 a72 := Tryz.isAgg162
 z72 := Tryz.sizeOf162
 v72 := Tryz.zeroValue162 }
def str_lays169_ren : Go.Shelf.Ren := ⟨fun | 169 => 101 | n => n, fun | 70 => 159 | 9 => 9 | 0 => 0 | 72 => 162 | 37 => 160 | 127 => 226 | 3 => 3 | 5 => 5 | n => n, fun | n => n⟩
theorem str_lays169 : Go.Proofs.Lays.n169 Tryz.prog str_lays169_ren := {
 mixed := by kernel_rfl
 f169 := Tryz.func101.trans (congrArg some (by kernel_rfl))
 t0 := Tryz.underlying0
 a0 := Tryz.isAgg0
 z0 := Tryz.sizeOf0
 v0 := Tryz.zeroValue0
 t3 := Tryz.underlying3
 a3 := Tryz.isAgg3
 z3 := Tryz.sizeOf3
 v3 := Tryz.zeroValue3
 t9 := Tryz.underlying9
 a9 := Tryz.isAgg9
 z9 := Tryz.sizeOf9
 v9 := Tryz.zeroValue9
 t37 := Tryz.underlying160
 a37 := Tryz.isAgg160
 z37 := Tryz.sizeOf160
 v37 := Tryz.zeroValue160
 t70 := Tryz.underlying159
 a70 := Tryz.isAgg159
 z70 := Tryz.sizeOf159
 v70 := Tryz.zeroValue159
 t72 := Tryz.underlying162
 a72 := Tryz.isAgg162
 z72 := Tryz.sizeOf162
 v72 := Tryz.zeroValue162
 t127 := Tryz.underlying226
 a127 := Tryz.isAgg226
 z127 := Tryz.sizeOf226
 v127 := Tryz.zeroValue226 }
theorem str_Builder_Extra_169 : Builder.Extra Tryz.prog str_lays169_ren := {
 sizeBuilder := by kernel_rfl
 liesBuilder := by kernel_rfl
 t5 := Tryz.underlying5
 a5 := Tryz.isAgg5
 z5 := Tryz.sizeOf5
 v5 := Tryz.zeroValue5
 infoByte := by kernel_rfl
 cellsByte := by kernel_rfl
 sizeByte := by kernel_rfl
 neB5 := by decide }
def str_lays156_ren : Go.Shelf.Ren := ⟨fun | 156 => 155 | 165 => 185 | 166 => 97 | 169 => 101 | 240 => 153 | 241 => 217 | 276 => 183 | 277 => 236 | n => n, fun | 31 => 178 | 9 => 9 | 3 => 3 | 4 => 4 | 0 => 0 | 20 => 20 | 72 => 162 | 76 => 165 | 70 => 159 | 37 => 160 | 75 => 164 | 127 => 226 | 164 => 253 | 5 => 5 | 80 => 169 | n => n, fun | n => n⟩
theorem str_lays156 : Go.Proofs.Lays.n156 Tryz.prog str_lays156_ren := {
 mixed := by kernel_rfl
 f156 := Tryz.func155.trans (congrArg some (by kernel_rfl))
 f165 := Tryz.func185.trans (congrArg some (by kernel_rfl))
 f166 := Tryz.func97.trans (congrArg some (by kernel_rfl))
 f169 := Tryz.func101.trans (congrArg some (by kernel_rfl))
 f240 := Tryz.func153.trans (congrArg some (by kernel_rfl))
 f241 := Tryz.func217.trans (congrArg some (by kernel_rfl))
 f276 := Tryz.func183.trans (congrArg some (by kernel_rfl))
 f277 := Tryz.func236.trans (congrArg some (by kernel_rfl))
 t0 := Tryz.underlying0
 a0 := Tryz.isAgg0
 z0 := Tryz.sizeOf0
 v0 := Tryz.zeroValue0
 t3 := Tryz.underlying3
 a3 := Tryz.isAgg3
 z3 := Tryz.sizeOf3
 v3 := Tryz.zeroValue3
 t4 := Tryz.underlying4
 a4 := Tryz.isAgg4
 z4 := Tryz.sizeOf4
 v4 := Tryz.zeroValue4
 t9 := Tryz.underlying9
 a9 := Tryz.isAgg9
 z9 := Tryz.sizeOf9
 v9 := Tryz.zeroValue9
 t20 := Tryz.underlying20
 a20 := Tryz.isAgg20
 z20 := Tryz.sizeOf20
 v20 := Tryz.zeroValue20
 t31 := Tryz.underlying178
 a31 := Tryz.isAgg178
 z31 := Tryz.sizeOf178
 v31 := Tryz.zeroValue178
 t37 := Tryz.underlying160
 a37 := Tryz.isAgg160
 z37 := Tryz.sizeOf160
 v37 := Tryz.zeroValue160
 t70 := Tryz.underlying159
 a70 := Tryz.isAgg159
 z70 := Tryz.sizeOf159
 v70 := Tryz.zeroValue159
 t72 := Tryz.underlying162
 a72 := Tryz.isAgg162
 z72 := Tryz.sizeOf162
 v72 := Tryz.zeroValue162
 t75 := Tryz.underlying164
 a75 := Tryz.isAgg164
 z75 := Tryz.sizeOf164
 v75 := Tryz.zeroValue164
 t76 := Tryz.underlying165
 a76 := Tryz.isAgg165
 z76 := Tryz.sizeOf165
 v76 := Tryz.zeroValue165
 t127 := Tryz.underlying226
 a127 := Tryz.isAgg226
 z127 := Tryz.sizeOf226
 v127 := Tryz.zeroValue226
 t164 := Tryz.underlying253
 a164 := Tryz.isAgg253
 z164 := Tryz.sizeOf253
 v164 := Tryz.zeroValue253 }
theorem str_Builder_Extra_156 : Builder.Extra Tryz.prog str_lays156_ren := {
 sizeBuilder := by kernel_rfl
 liesBuilder := by kernel_rfl
 t5 := Tryz.underlying5
 a5 := Tryz.isAgg5
 z5 := Tryz.sizeOf5
 v5 := Tryz.zeroValue5
 infoByte := by kernel_rfl
 cellsByte := by kernel_rfl
 sizeByte := by kernel_rfl
 neB5 := by decide }
open Go.RowKit in
theorem str_strings_Join (bk o c : Nat) (xs : List ByteArray) (sep : ByteArray) (w : World) (hcells : ∀ (j : Nat) x, xs[j]? = some x → w.cell? ⟨bk, o + j, none⟩ = some (.string x)) (hbk : bk < w.heap.size) (hN : xs.length ≤ 140737488355328) (hcap : xs.length ≤ c) (hlen : (Lib.join (xs.map (·.data.toList)) sep.data.toList).length ≤ 140737488355328) :
  Calls Tryz.prog 155 #[.slice (some ⟨bk, o, none⟩) xs.length c, .string sep] w fun e w' => e = .returned (.string ⟨(Lib.join (xs.map (·.data.toList)) sep.data.toList).toArray⟩) ∧ Below w.heap.size w w' := Any.strings_Join str_lays156 str_Builder_Extra_156 bk o c xs sep w hcells hbk hN hcap hlen
def str_lays137_ren : Go.Shelf.Ren := ⟨fun | 137 => 163 | 217 => 190 | 266 => 223 | n => n, fun | 9 => 9 | 5 => 5 | 3 => 3 | n => n, fun | n => n⟩
theorem str_lays137 : Go.Proofs.Lays.n137 Tryz.prog str_lays137_ren := {
 mixed := by kernel_rfl
 f137 := Tryz.func163.trans (congrArg some (by kernel_rfl))
 f217 := Tryz.func190.trans (congrArg some (by kernel_rfl))
 f266 := Tryz.func223.trans (congrArg some (by kernel_rfl))
 t3 := Tryz.underlying3
 a3 := Tryz.isAgg3
 z3 := Tryz.sizeOf3
 v3 := Tryz.zeroValue3
 t5 := Tryz.underlying5
 a5 := Tryz.isAgg5
 z5 := Tryz.sizeOf5
 v5 := Tryz.zeroValue5
 t9 := Tryz.underlying9
 a9 := Tryz.isAgg9
 z9 := Tryz.sizeOf9
 v9 := Tryz.zeroValue9 }
open Go.RowKit in
theorem str_strings_IndexByte (s : ByteArray) (c : Int) (w : World) :
  Calls Tryz.prog 163 #[.string s, .int .u8 c] w fun e w' => e = .returned (.int .i64 (Lib.indexByte s.data.toList c.toNat.toUInt8)) ∧ w' = w := Any.strings_IndexByte str_lays137 s c w
def str_lays104_ren : Go.Shelf.Ren := ⟨fun | 104 => 156 | 211 => 186 | 207 => 218 | n => n, fun | 9 => 9 | 4 => 4 | 24 => 227 | 3 => 3 | n => n, fun | n => n⟩
theorem str_lays104 : Go.Proofs.Lays.n104 Tryz.prog str_lays104_ren := {
 mixed := by kernel_rfl
 f104 := Tryz.func156.trans (congrArg some (by kernel_rfl))
 f207 := Tryz.func218.trans (congrArg some (by kernel_rfl))
 f211 := Tryz.func186.trans (congrArg some (by kernel_rfl))
 t3 := Tryz.underlying3
 a3 := Tryz.isAgg3
 z3 := Tryz.sizeOf3
 v3 := Tryz.zeroValue3
 t4 := Tryz.underlying4
 a4 := Tryz.isAgg4
 z4 := Tryz.sizeOf4
 v4 := Tryz.zeroValue4
 t9 := Tryz.underlying9
 a9 := Tryz.isAgg9
 z9 := Tryz.sizeOf9
 v9 := Tryz.zeroValue9
 t24 := Tryz.underlying227
 a24 := Tryz.isAgg227
 z24 := Tryz.sizeOf227
 v24 := Tryz.zeroValue227 }
open Go.RowKit in
theorem str_strings_CutSuffix (s p : ByteArray) (w : World) (hs : s.size ≤ 9223372036854775807) :
  Calls Tryz.prog 156 #[.string s, .string p] w fun e w' => e = .returned (.tuple #[.string ⟨(Lib.trimSuffix s.data.toList p.data.toList).toArray⟩, .bool (Lib.hasSuffix s.data.toList p.data.toList)]) ∧ w' = w := Any.strings_CutSuffix str_lays104 s p w hs
open Go.RowKit in
theorem str_Builder_Len_f (B b : Nat) (bs : List Value) (w : World) (h : Lib.IsBuilderF 162 5 B b bs w) :
  Calls Tryz.prog 100 #[.pointer (some ⟨b, 0, none⟩)] w fun e w' => e = .returned (.int .i64 bs.length) ∧ w' = w := Any.Builder_Len_f str_lays170 B b bs w h
open Go.RowKit in
theorem str_Builder_String_any_k (B b : Nat) (l : List UInt8) (w : World) (h : Lib.IsBuilderF 162 5 B b (Lib.byteCells l) w) (hBw : B ≤ w.heap.size) :
  Calls Tryz.prog 101 #[.pointer (some ⟨b, 0, none⟩)] w fun e w' => e = .returned (.string ⟨l.toArray⟩) ∧ (Lib.IsBuilderF 162 5 B b (Lib.byteCells l) w' ∧ Below B w w' ∧ Lib.OthersKept 5 (some b) w w') := Any.Builder_String_any_k str_lays169 str_Builder_Extra_169 B b l w h hBw
def str_laysM171_ren : Go.Shelf.Ren := ⟨fun | 171 => 98 | 243 => 154 | 246 => 184 | 283 => 213 | 284 => 214 | 285 => 215 | 286 => 216 | 129 => 203 | 317 => 232 | 318 => 233 | 319 => 234 | 320 => 235 | 337 => 245 | 338 => 246 | n => n, fun | 3 => 3 | 9 => 9 | 2 => 2 | 4 => 4 | 171 => 281 | 0 => 0 | 53 => 274 | 37 => 160 | 5 => 5 | 173 => 283 | 212 => 298 | 51 => 272 | 20 => 20 | 213 => 299 | 46 => 247 | 232 => 314 | 233 => 315 | n => n, fun | 17 => 0 | 18 => 2 | 19 => 3 | n => n⟩
theorem str_laysM171 : Go.Proofs.LaysM.n171 Tryz.prog str_laysM171_ren := {
 mixed := by kernel_rfl
 f129 := Tryz.func203.trans (congrArg some (by kernel_rfl))
 f171 := Tryz.func98.trans (congrArg some (by kernel_rfl))
 f243 := Tryz.func154.trans (congrArg some (by kernel_rfl))
 f246 := Tryz.func184.trans (congrArg some (by kernel_rfl))
 f283 := Tryz.func213.trans (congrArg some (by kernel_rfl))
 f284 := Tryz.func214.trans (congrArg some (by kernel_rfl))
 f285 := Tryz.func215.trans (congrArg some (by kernel_rfl))
 f286 := Tryz.func216.trans (congrArg some (by kernel_rfl))
 f317 := Tryz.func232.trans (congrArg some (by kernel_rfl))
 f318 := Tryz.func233.trans (congrArg some (by kernel_rfl))
 f319 := Tryz.func234.trans (congrArg some (by kernel_rfl))
 f320 := Tryz.func235.trans (congrArg some (by kernel_rfl))
 f337 := Tryz.func245.trans (congrArg some (by kernel_rfl))
 f338 := Tryz.func246.trans (congrArg some (by kernel_rfl))
 t0 := Tryz.underlying0
 a0 := Tryz.isAgg0
 z0 := Tryz.sizeOf0
 v0 := Tryz.zeroValue0
 t2 := Tryz.underlying2
 a2 := Tryz.isAgg2
 z2 := Tryz.sizeOf2
 v2 := Tryz.zeroValue2
 t3 := Tryz.underlying3
 a3 := Tryz.isAgg3
 z3 := Tryz.sizeOf3
 v3 := Tryz.zeroValue3
 t4 := Tryz.underlying4
 a4 := Tryz.isAgg4
 z4 := Tryz.sizeOf4
 v4 := Tryz.zeroValue4
 t5 := Tryz.underlying5
 a5 := Tryz.isAgg5
 z5 := Tryz.sizeOf5
 v5 := Tryz.zeroValue5
 t9 := Tryz.underlying9
 a9 := Tryz.isAgg9
 z9 := Tryz.sizeOf9
 v9 := Tryz.zeroValue9
 t20 := Tryz.underlying20
 a20 := Tryz.isAgg20
 z20 := Tryz.sizeOf20
 v20 := Tryz.zeroValue20
 t37 := Tryz.underlying160
 a37 := Tryz.isAgg160
 z37 := Tryz.sizeOf160
 v37 := Tryz.zeroValue160
 t46 := Tryz.underlying247
 a46 := Tryz.isAgg247
 z46 := Tryz.sizeOf247
 v46 := Tryz.zeroValue247
 t51 := Tryz.underlying272
 a51 := Tryz.isAgg272
 z51 := Tryz.sizeOf272
 v51 := Tryz.zeroValue272
 t53 := Tryz.underlying274
 a53 := Tryz.isAgg274
 z53 := Tryz.sizeOf274
 v53 := Tryz.zeroValue274
 t171 := Tryz.underlying281
 a171 := Tryz.isAgg281
 z171 := Tryz.sizeOf281
 v171 := Tryz.zeroValue281
 t173 := Tryz.underlying283
 a173 := Tryz.isAgg283
 z173 := Tryz.sizeOf283
 v173 := Tryz.zeroValue283
 t212 := Tryz.underlying298
 a212 := Tryz.isAgg298
 z212 := Tryz.sizeOf298
 v212 := Tryz.zeroValue298
 t213 := Tryz.underlying299
 a213 := Tryz.isAgg299
 z213 := Tryz.sizeOf299
 t232 := Tryz.underlying314
 a232 := Tryz.isAgg314
 z232 := Tryz.sizeOf314
 v232 := Tryz.zeroValue314
 t233 := Tryz.underlying315
 a233 := Tryz.isAgg315
 z233 := Tryz.sizeOf315
 v233 := Tryz.zeroValue315
 g17 := by kernel_rfl
 g18 := by kernel_rfl
 g19 := by kernel_rfl
 i0 := by kernel_rfl
 i2 := by kernel_rfl
 i3 := by kernel_rfl
 i4 := by kernel_rfl
 i5 := by kernel_rfl
 i9 := by kernel_rfl
 i20 := by kernel_rfl
 i37 := by kernel_rfl
 i46 := by kernel_rfl
 i51 := by kernel_rfl
 i53 := by kernel_rfl
 i171 := by kernel_rfl
 i173 := by kernel_rfl
 i212 := by kernel_rfl
 i232 := by kernel_rfl
 i233 := by kernel_rfl
 m17 := by kernel_rfl
 m18 := by kernel_rfl
 m19 := by kernel_rfl }
open Go.RowKit Go.Sort Go.Lib in
theorem str_strconv_Itoa (n : Int) (h0 : -9223372036854775808 ≤ n) (h1 : n ≤ 9223372036854775807) (w : World) (htab : Lib.TabIs Tryz.prog w "internal/strconv.uint64pow10" .u64 Lib.pow10Tab) :
  Calls Tryz.prog 98 #[.int .i64 n] w fun e w' => e = .returned (.string ⟨(Lib.itoa n).toArray⟩) ∧ ∃ k os, w' = grow (w.drewN k) os := Any.strconv_Itoa str_laysM171 n h0 h1 w htab
def str_laysC172_ren : Go.Shelf.Ren := ⟨fun | 172 => 222 | 244 => 241 | 245 => 242 | 247 => 251 | 279 => 252 | 280 => 253 | 281 => 254 | 282 => 255 | 287 => 257 | 316 => 258 | 171 => 98 | 205 => 259 | 321 => 260 | 322 => 261 | 243 => 154 | 246 => 184 | 283 => 213 | 284 => 214 | 285 => 215 | 286 => 216 | 129 => 203 | 317 => 232 | 318 => 233 | 319 => 234 | 320 => 235 | 337 => 245 | 338 => 246 | n => n, fun | 9 => 9 | 3 => 3 | 75 => 164 | 76 => 165 | 4 => 4 | 5 => 5 | 167 => 308 | 37 => 160 | 0 => 0 | 85 => 309 | 2 => 2 | 168 => 311 | 53 => 274 | 175 => 322 | 46 => 247 | 210 => 325 | 127 => 226 | 145 => 330 | 143 => 328 | 21 => 21 | 171 => 281 | 173 => 283 | 212 => 298 | 51 => 272 | 20 => 20 | 213 => 299 | 232 => 314 | 233 => 315 | 80 => 169 | n => n, fun | 15 => 6 | 16 => 7 | 17 => 0 | 18 => 2 | 19 => 3 | n => n⟩
theorem str_laysC172 : Go.Proofs.LaysC.n172 Tryz.prog str_laysC172_ren := {
 mixed := by kernel_rfl
 f129 := Tryz.func203.trans (congrArg some (by kernel_rfl))
 f171 := Tryz.func98.trans (congrArg some (by kernel_rfl))
 f172 := Tryz.func222.trans (congrArg some (by kernel_rfl))
 f205 := Tryz.func259.trans (congrArg some (by kernel_rfl))
 f243 := Tryz.func154.trans (congrArg some (by kernel_rfl))
 f244 := Tryz.func241.trans (congrArg some (by kernel_rfl))
 f245 := Tryz.func242.trans (congrArg some (by kernel_rfl))
 f246 := Tryz.func184.trans (congrArg some (by kernel_rfl))
 f247 := Tryz.func251.trans (congrArg some (by kernel_rfl))
 f279 := Tryz.func252.trans (congrArg some (by kernel_rfl))
 f280 := Tryz.func253.trans (congrArg some (by kernel_rfl))
 f281 := Tryz.func254.trans (congrArg some (by kernel_rfl))
 f282 := Tryz.func255.trans (congrArg some (by kernel_rfl))
 f283 := Tryz.func213.trans (congrArg some (by kernel_rfl))
 f284 := Tryz.func214.trans (congrArg some (by kernel_rfl))
 f285 := Tryz.func215.trans (congrArg some (by kernel_rfl))
 f286 := Tryz.func216.trans (congrArg some (by kernel_rfl))
 f287 := Tryz.func257.trans (congrArg some (by kernel_rfl))
 f316 := Tryz.func258.trans (congrArg some (by kernel_rfl))
 f317 := Tryz.func232.trans (congrArg some (by kernel_rfl))
 f318 := Tryz.func233.trans (congrArg some (by kernel_rfl))
 f319 := Tryz.func234.trans (congrArg some (by kernel_rfl))
 f320 := Tryz.func235.trans (congrArg some (by kernel_rfl))
 f321 := Tryz.func260.trans (congrArg some (by kernel_rfl))
 f322 := Tryz.func261.trans (congrArg some (by kernel_rfl))
 f337 := Tryz.func245.trans (congrArg some (by kernel_rfl))
 f338 := Tryz.func246.trans (congrArg some (by kernel_rfl))
 t0 := Tryz.underlying0
 a0 := Tryz.isAgg0
 z0 := Tryz.sizeOf0
 v0 := Tryz.zeroValue0
 t2 := Tryz.underlying2
 a2 := Tryz.isAgg2
 z2 := Tryz.sizeOf2
 v2 := Tryz.zeroValue2
 t3 := Tryz.underlying3
 a3 := Tryz.isAgg3
 z3 := Tryz.sizeOf3
 v3 := Tryz.zeroValue3
 t4 := Tryz.underlying4
 a4 := Tryz.isAgg4
 z4 := Tryz.sizeOf4
 v4 := Tryz.zeroValue4
 t5 := Tryz.underlying5
 a5 := Tryz.isAgg5
 z5 := Tryz.sizeOf5
 v5 := Tryz.zeroValue5
 t9 := Tryz.underlying9
 a9 := Tryz.isAgg9
 z9 := Tryz.sizeOf9
 v9 := Tryz.zeroValue9
 t20 := Tryz.underlying20
 a20 := Tryz.isAgg20
 z20 := Tryz.sizeOf20
 v20 := Tryz.zeroValue20
 t21 := Tryz.underlying21
 a21 := Tryz.isAgg21
 z21 := Tryz.sizeOf21
 v21 := Tryz.zeroValue21
 t37 := Tryz.underlying160
 a37 := Tryz.isAgg160
 z37 := Tryz.sizeOf160
 v37 := Tryz.zeroValue160
 t46 := Tryz.underlying247
 a46 := Tryz.isAgg247
 z46 := Tryz.sizeOf247
 v46 := Tryz.zeroValue247
 t51 := Tryz.underlying272
 a51 := Tryz.isAgg272
 z51 := Tryz.sizeOf272
 v51 := Tryz.zeroValue272
 t53 := Tryz.underlying274
 a53 := Tryz.isAgg274
 z53 := Tryz.sizeOf274
 v53 := Tryz.zeroValue274
 t75 := Tryz.underlying164
 a75 := Tryz.isAgg164
 z75 := Tryz.sizeOf164
 v75 := Tryz.zeroValue164
 t76 := Tryz.underlying165
 a76 := Tryz.isAgg165
 z76 := Tryz.sizeOf165
 v76 := Tryz.zeroValue165
 t85 := Tryz.underlying309
 a85 := Tryz.isAgg309
 z85 := Tryz.sizeOf309
 v85 := Tryz.zeroValue309
 t127 := Tryz.underlying226
 a127 := Tryz.isAgg226
 z127 := Tryz.sizeOf226
 v127 := Tryz.zeroValue226
 t143 := Tryz.underlying328
 a143 := Tryz.isAgg328
 z143 := Tryz.sizeOf328
 v143 := Tryz.zeroValue328
 t145 := Tryz.underlying330
 a145 := Tryz.isAgg330
 z145 := Tryz.sizeOf330
 v145 := Tryz.zeroValue330
 t167 := Tryz.underlying308
 a167 := Tryz.isAgg308
 z167 := Tryz.sizeOf308
 v167 := Tryz.zeroValue308
 t168 := Tryz.underlying311
 a168 := Tryz.isAgg311
 z168 := Tryz.sizeOf311
 v168 := Tryz.zeroValue311
 t171 := Tryz.underlying281
 a171 := Tryz.isAgg281
 z171 := Tryz.sizeOf281
 v171 := Tryz.zeroValue281
 t173 := Tryz.underlying283
 a173 := Tryz.isAgg283
 z173 := Tryz.sizeOf283
 v173 := Tryz.zeroValue283
 t175 := Tryz.underlying322
 a175 := Tryz.isAgg322
 z175 := Tryz.sizeOf322
 v175 := Tryz.zeroValue322
 t210 := Tryz.underlying325
 a210 := Tryz.isAgg325
 z210 := Tryz.sizeOf325
 v210 := Tryz.zeroValue325
 t212 := Tryz.underlying298
 a212 := Tryz.isAgg298
 z212 := Tryz.sizeOf298
 v212 := Tryz.zeroValue298
 t213 := Tryz.underlying299
 a213 := Tryz.isAgg299
 z213 := Tryz.sizeOf299
 t232 := Tryz.underlying314
 a232 := Tryz.isAgg314
 z232 := Tryz.sizeOf314
 v232 := Tryz.zeroValue314
 t233 := Tryz.underlying315
 a233 := Tryz.isAgg315
 z233 := Tryz.sizeOf315
 v233 := Tryz.zeroValue315
 g15 := by kernel_rfl
 g16 := by kernel_rfl
 g17 := by kernel_rfl
 g18 := by kernel_rfl
 g19 := by kernel_rfl
 t80 := Tryz.underlying169
 a80 := Tryz.isAgg169
 z80 := Tryz.sizeOf169
 v80 := Tryz.zeroValue169
 i0 := by kernel_rfl
 i2 := by kernel_rfl
 i3 := by kernel_rfl
 i4 := by kernel_rfl
 i5 := by kernel_rfl
 i9 := by kernel_rfl
 i20 := by kernel_rfl
 i21 := by kernel_rfl
 i37 := by kernel_rfl
 i46 := by kernel_rfl
 i51 := by kernel_rfl
 i53 := by kernel_rfl
 i75 := by kernel_rfl
 i76 := by kernel_rfl
 i80 := by kernel_rfl
 i85 := by kernel_rfl
 i127 := by kernel_rfl
 i143 := by kernel_rfl
 i145 := by kernel_rfl
 i167 := by kernel_rfl
 i168 := by kernel_rfl
 i171 := by kernel_rfl
 i173 := by kernel_rfl
 i175 := by kernel_rfl
 i210 := by kernel_rfl
 i212 := by kernel_rfl
 i232 := by kernel_rfl
 i233 := by kernel_rfl
 m15 := by kernel_rfl
 m16 := by kernel_rfl
 m17 := by kernel_rfl
 m18 := by kernel_rfl
 m19 := by kernel_rfl
 c0 := by kernel_rfl
 c2 := by kernel_rfl
 c3 := by kernel_rfl
 c4 := by kernel_rfl
 c5 := by kernel_rfl
 c9 := by kernel_rfl
 c20 := by kernel_rfl
 c21 := by kernel_rfl
 c37 := by kernel_rfl
 c46 := by kernel_rfl
 c51 := by kernel_rfl
 c53 := by kernel_rfl
 c75 := by kernel_rfl
 c76 := by kernel_rfl
 c80 := by kernel_rfl
 c85 := by kernel_rfl
 c127 := by kernel_rfl
 c143 := by kernel_rfl
 c145 := by kernel_rfl
 c167 := by kernel_rfl
 c168 := by kernel_rfl
 c171 := by kernel_rfl
 c173 := by kernel_rfl
 c175 := by kernel_rfl
 c210 := by kernel_rfl
 c212 := by kernel_rfl
 c213 := by kernel_rfl
 c232 := by kernel_rfl
 c233 := by kernel_rfl }
open Go.RowKit in
theorem str_strconv_Atoi_ok (s : ByteArray) (hmax : s.size ≤ 9223372036854775806) (v : Int) (h : Lib.atoiAll s.data.toList = .ok v) (w : World) :
  Calls Tryz.prog 222 #[.string s] w fun e w' => e = .returned (.tuple #[.int .i64 v, .nilIface]) ∧ (w' = w ∨ ∃ t, w' = Lib.bytesWorld w 5 t) := Any.strconv_Atoi_ok str_laysC172 s hmax v h w
def str_lays146_ren : Go.Shelf.Ren := ⟨fun | 146 => 157 | 221 => 187 | 268 => 219 | 138 => 220 | 143 => 221 | 195 => 237 | 197 => 238 | 218 => 239 | 219 => 240 | 260 => 247 | 217 => 190 | 225 => 248 | 224 => 249 | 267 => 250 | 266 => 223 | 314 => 256 | n => n, fun | 9 => 9 | 31 => 178 | 3 => 3 | 4 => 4 | 0 => 0 | 105 => 301 | 21 => 21 | 5 => 5 | 46 => 247 | 119 => 316 | 139 => 319 | 138 => 318 | 146 => 320 | 51 => 272 | n => n, fun | 1 => 1 | 3 => 4 | 4 => 5 | n => n⟩
theorem str_lays146 : Go.Proofs.Lays.n146 Tryz.prog str_lays146_ren := {
 mixed := by kernel_rfl
 f138 := Tryz.func220.trans (congrArg some (by kernel_rfl))
 f143 := Tryz.func221.trans (congrArg some (by kernel_rfl))
 f146 := Tryz.func157.trans (congrArg some (by kernel_rfl))
 f195 := Tryz.func237.trans (congrArg some (by kernel_rfl))
 f197 := Tryz.func238.trans (congrArg some (by kernel_rfl))
 f217 := Tryz.func190.trans (congrArg some (by kernel_rfl))
 f218 := Tryz.func239.trans (congrArg some (by kernel_rfl))
 f219 := Tryz.func240.trans (congrArg some (by kernel_rfl))
 f221 := Tryz.func187.trans (congrArg some (by kernel_rfl))
 f224 := Tryz.func249.trans (congrArg some (by kernel_rfl))
 f225 := Tryz.func248.trans (congrArg some (by kernel_rfl))
 f260 := Tryz.func247.trans (congrArg some (by kernel_rfl))
 f266 := Tryz.func223.trans (congrArg some (by kernel_rfl))
 f267 := Tryz.func250.trans (congrArg some (by kernel_rfl))
 f268 := Tryz.func219.trans (congrArg some (by kernel_rfl))
 f314 := Tryz.func256.trans (congrArg some (by kernel_rfl))
 t0 := Tryz.underlying0
 a0 := Tryz.isAgg0
 z0 := Tryz.sizeOf0
 v0 := Tryz.zeroValue0
 t3 := Tryz.underlying3
 a3 := Tryz.isAgg3
 z3 := Tryz.sizeOf3
 v3 := Tryz.zeroValue3
 t4 := Tryz.underlying4
 a4 := Tryz.isAgg4
 z4 := Tryz.sizeOf4
 v4 := Tryz.zeroValue4
 t5 := Tryz.underlying5
 a5 := Tryz.isAgg5
 z5 := Tryz.sizeOf5
 v5 := Tryz.zeroValue5
 t9 := Tryz.underlying9
 a9 := Tryz.isAgg9
 z9 := Tryz.sizeOf9
 v9 := Tryz.zeroValue9
 t21 := Tryz.underlying21
 a21 := Tryz.isAgg21
 z21 := Tryz.sizeOf21
 v21 := Tryz.zeroValue21
 t31 := Tryz.underlying178
 a31 := Tryz.isAgg178
 z31 := Tryz.sizeOf178
 v31 := Tryz.zeroValue178
 t46 := Tryz.underlying247
 a46 := Tryz.isAgg247
 z46 := Tryz.sizeOf247
 v46 := Tryz.zeroValue247
 t51 := Tryz.underlying272
 a51 := Tryz.isAgg272
 z51 := Tryz.sizeOf272
 v51 := Tryz.zeroValue272
 t105 := Tryz.underlying301
 a105 := Tryz.isAgg301
 z105 := Tryz.sizeOf301
 v105 := Tryz.zeroValue301
 t119 := Tryz.underlying316
 a119 := Tryz.isAgg316
 z119 := Tryz.sizeOf316
 t138 := Tryz.underlying318
 a138 := Tryz.isAgg318
 z138 := Tryz.sizeOf318
 v138 := Tryz.zeroValue318
 t139 := Tryz.underlying319
 a139 := Tryz.isAgg319
 z139 := Tryz.sizeOf319
 v139 := Tryz.zeroValue319
 t146 := Tryz.underlying320
 a146 := Tryz.isAgg320
 z146 := Tryz.sizeOf320
 v146 := Tryz.zeroValue320
 g1 := by kernel_rfl
 g3 := by kernel_rfl
 g4 := by kernel_rfl }
open Go.RowKit Go.Lib in
theorem str_strings_Split (s sep : ByteArray) (m : Int) (w : World) (hs : s.size < 4294967281) (hm : w.cell? ⟨1, 0, none⟩ = some (.int .i64 m)) (h1 : 1 ≤ sep.size) :
  Calls Tryz.prog 157 #[.string s, .string sep] w fun e w' =>
   e = .returned (.slice (some ⟨w.heap.size, 0, none⟩) (Lib.countB s sep + 1) (Lib.countB s sep + 1)) ∧ w' = w.alloc (.cells ((Lib.splitB sep 0 (Lib.countB s sep) s).map Value.string).toArray 9) := Any.strings_Split str_lays146 (by kernel_rfl) s sep m w hs hm h1
def str_lays110_ren : Go.Shelf.Ren := ⟨fun | 110 => 158 | 109 => 188 | n => n, fun | 31 => 178 | 9 => 9 | 4 => 4 | 3 => 3 | 0 => 0 | n => n, fun | n => n⟩
theorem str_lays110 : Go.Proofs.Lays.n110 Tryz.prog str_lays110_ren := {
 mixed := by kernel_rfl
 f109 := Tryz.func188.trans (congrArg some (by kernel_rfl))
 f110 := Tryz.func158.trans (congrArg some (by kernel_rfl))
 t0 := Tryz.underlying0
 a0 := Tryz.isAgg0
 z0 := Tryz.sizeOf0
 v0 := Tryz.zeroValue0
 t3 := Tryz.underlying3
 a3 := Tryz.isAgg3
 z3 := Tryz.sizeOf3
 v3 := Tryz.zeroValue3
 t4 := Tryz.underlying4
 a4 := Tryz.isAgg4
 z4 := Tryz.sizeOf4
 v4 := Tryz.zeroValue4
 t9 := Tryz.underlying9
 a9 := Tryz.isAgg9
 z9 := Tryz.sizeOf9
 v9 := Tryz.zeroValue9
 t31 := Tryz.underlying178
 a31 := Tryz.isAgg178
 z31 := Tryz.sizeOf178
 v31 := Tryz.zeroValue178 }
open Go.Lib in
theorem str_slices_Contains_string (b off n c : Nat) (zs : List ByteArray) (x : ByteArray) (w : World) (hz : n ≤ zs.length) (hbig : n ≤ 9223372036854775807) (hc : ∀ j, j < zs.length → w.cell? ⟨b, off + j, none⟩ = some (.string (zs.getD j ByteArray.empty))) :
  Calls Tryz.prog 158 #[.slice (some ⟨b, off, none⟩) n c, .string x] w fun e w' => e = .returned (.bool (Lib.containsS (zs.take n) x)) ∧ w' = w := Any.slices_Contains_string str_lays110 b off n c zs x w hz hbig hc
end Go.Proofs.YtkkefahobjlagaaGreatDoor

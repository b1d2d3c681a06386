/- Contracts of the library at this program, laid. Conditions: none. -/
import Derived.Shelf.SlGeneric
import Derived.Shelf.SlLaysF0
import Derived.Shelf.SlLaysH0
import Derived.Shelf.SlLaysE0
import Derived.Shelf.SlLaysE
import Derived.Shelf.SlLaysQ
import Derived.Ground.SlsfProg
import Derived.Ground.SlgfProg
import Derived.Ground.SlgqProg
import Derived.Ground.SlgnProg
import Derived.Test.YthcnngoaijgnoaaGreatProg
import Derived.Test.YthcnngoaijgnoaaGreatK02
import Derived.Test.YthcnngoaijgnoaaGreatK03
import Derived.Maps.RangeRun
import Derived.Test.YthcnngoaijgnoaaGreatK01
import Derived.RangeFuncNested
import Derived.RangeFuncBound
import Derived.RangeFuncCalls
import Derived.RangeFuncLeaves
import Derived.RangeFuncBox
import Derived.OwnWalkIn
import Derived.TacticsInMore
import Derived.LoopNIn
import Derived.LoopIn
namespace Go.Proofs.YthcnngoaijgnoaaGreat
open Go.Shelf
def lay_sortK_ren : Go.Shelf.Ren := ⟨fun | 6 => 140 | 15 => 166 | 14 => 165 | 28 => 180 | 29 => 181 | 20 => 172 | 21 => 173 | 22 => 174 | 23 => 175 | 24 => 176 | 25 => 177 | 26 => 178 | 27 => 179 | 46 => 191 | 47 => 192 | 48 => 193 | 49 => 194 | 50 => 195 | 57 => 199 | n => n, fun | 22 => 34 | 24 => 26 | 25 => 170 | 3 => 3 | 39 => 186 | 0 => 0 | 53 => 198 | 55 => 200 | 4 => 4 | 46 => 191 | 45 => 190 | 50 => 195 | 5 => 5 | 9 => 9 | 66 => 206 | 70 => 210 | 76 => 214 | 77 => 215 | n => n, fun | n => n⟩
theorem lay_sortK : Go.Proofs.SlLaysF0.n6 Tryz.prog lay_sortK_ren := {
  mixed := by kernel_rfl
  f6 := ⟨Tryz.f140.name, by decide, Tryz.func140.trans (congrArg some (by kernel_rfl))⟩
  f14 := ⟨Tryz.f165.name, by decide, Tryz.func165.trans (congrArg some (by kernel_rfl))⟩
  f15 := Tryz.func166.trans (congrArg some (by kernel_rfl))
  f20 := ⟨Tryz.f172.name, by decide, Tryz.func172.trans (congrArg some (by kernel_rfl))⟩
  f21 := ⟨Tryz.f173.name, by decide, Tryz.func173.trans (congrArg some (by kernel_rfl))⟩
  f22 := ⟨Tryz.f174.name, by decide, Tryz.func174.trans (congrArg some (by kernel_rfl))⟩
  f23 := ⟨Tryz.f175.name, by decide, Tryz.func175.trans (congrArg some (by kernel_rfl))⟩
  f24 := ⟨Tryz.f176.name, by decide, Tryz.func176.trans (congrArg some (by kernel_rfl))⟩
  f25 := ⟨Tryz.f177.name, by decide, Tryz.func177.trans (congrArg some (by kernel_rfl))⟩
  f26 := ⟨Tryz.f178.name, by decide, Tryz.func178.trans (congrArg some (by kernel_rfl))⟩
  f27 := ⟨Tryz.f179.name, by decide, Tryz.func179.trans (congrArg some (by kernel_rfl))⟩
  f28 := Tryz.func180.trans (congrArg some (by kernel_rfl))
  f29 := Tryz.func181.trans (congrArg some (by kernel_rfl))
  f46 := ⟨Tryz.f191.name, by decide, Tryz.func191.trans (congrArg some (by kernel_rfl))⟩
  f47 := Tryz.func192.trans (congrArg some (by kernel_rfl))
  f48 := Tryz.func193.trans (congrArg some (by kernel_rfl))
  f49 := ⟨Tryz.f194.name, by decide, Tryz.func194.trans (congrArg some (by kernel_rfl))⟩
  f50 := ⟨Tryz.f195.name, by decide, Tryz.func195.trans (congrArg some (by kernel_rfl))⟩
  f57 := ⟨Tryz.f199.name, by decide, Tryz.func199.trans (congrArg some (by kernel_rfl))⟩
  t0 := Tryz.underlying0
  a0 := Tryz.isAgg0
  z0 := Tryz.sizeOf0
  v0 := Tryz.zeroValue0
  t3 := Tryz.underlying3
  a3 := Tryz.isAgg3
  z3 := Tryz.sizeOf3
  v3 := Tryz.zeroValue3
  t4 := Tryz.underlying4
  a4 := Tryz.isAgg4
  z4 := Tryz.sizeOf4
  v4 := Tryz.zeroValue4
  t5 := Tryz.underlying5
  a5 := Tryz.isAgg5
  z5 := Tryz.sizeOf5
  v5 := Tryz.zeroValue5
  t9 := Tryz.underlying9
  a9 := Tryz.isAgg9
  z9 := Tryz.sizeOf9
  v9 := Tryz.zeroValue9
  t22 := Tryz.underlying34
  a22 := Tryz.isAgg34
  z22 := Tryz.sizeOf34
  v22 := Tryz.zeroValue34
  t25 := Tryz.underlying170
  a25 := Tryz.isAgg170
  z25 := Tryz.sizeOf170
  v25 := Tryz.zeroValue170
  t39 := Tryz.underlying186
  a39 := Tryz.isAgg186
  z39 := Tryz.sizeOf186
  v39 := Tryz.zeroValue186
  t45 := Tryz.underlying190
  a45 := Tryz.isAgg190
  z45 := Tryz.sizeOf190
  v45 := Tryz.zeroValue190
  t46 := Tryz.underlying191
  a46 := Tryz.isAgg191
  z46 := Tryz.sizeOf191
  v46 := Tryz.zeroValue191
  t50 := Tryz.underlying195
  a50 := Tryz.isAgg195
  z50 := Tryz.sizeOf195
  v50 := Tryz.zeroValue195
  t53 := Tryz.underlying198
  a53 := Tryz.isAgg198
  z53 := Tryz.sizeOf198
  v53 := Tryz.zeroValue198
  t55 := Tryz.underlying200
  a55 := Tryz.isAgg200
  z55 := Tryz.sizeOf200
  v55 := Tryz.zeroValue200
  t66 := Tryz.underlying206
  a66 := Tryz.isAgg206
  z66 := Tryz.sizeOf206
  v66 := Tryz.zeroValue206
  t70 := Tryz.underlying210
  a70 := Tryz.isAgg210
  z70 := Tryz.sizeOf210
  v70 := Tryz.zeroValue210
  t76 := Tryz.underlying214
  a76 := Tryz.isAgg214
  z76 := Tryz.sizeOf214
  v76 := Tryz.zeroValue214
  t77 := Tryz.underlying215
  a77 := Tryz.isAgg215
  z77 := Tryz.sizeOf215
  v77 := Tryz.zeroValue215 }
def lay_sortB_ren : Go.Shelf.Ren := ⟨fun | 6 => 151 | 15 => 166 | 14 => 171 | 28 => 180 | 29 => 181 | 20 => 183 | 21 => 184 | 22 => 185 | 23 => 186 | 24 => 187 | 25 => 188 | 26 => 189 | 27 => 190 | 46 => 196 | 47 => 192 | 48 => 193 | 49 => 197 | 50 => 198 | 57 => 200 | n => n, fun | 22 => 22 | 24 => 70 | 25 => 175 | 3 => 3 | 39 => 186 | 0 => 0 | 53 => 198 | 55 => 200 | 4 => 4 | 46 => 191 | 45 => 190 | 50 => 195 | 5 => 5 | 9 => 9 | 66 => 206 | 70 => 210 | 76 => 214 | 77 => 215 | n => n, fun | n => n⟩
theorem lay_sortB : Go.Proofs.SlLaysF0.n6 Tryz.prog lay_sortB_ren := {
  mixed := by kernel_rfl
  f6 := ⟨Tryz.f151.name, by decide, Tryz.func151.trans (congrArg some (by kernel_rfl))⟩
  f14 := ⟨Tryz.f171.name, by decide, Tryz.func171.trans (congrArg some (by kernel_rfl))⟩
  f15 := Tryz.func166.trans (congrArg some (by kernel_rfl))
  f20 := ⟨Tryz.f183.name, by decide, Tryz.func183.trans (congrArg some (by kernel_rfl))⟩
  f21 := ⟨Tryz.f184.name, by decide, Tryz.func184.trans (congrArg some (by kernel_rfl))⟩
  f22 := ⟨Tryz.f185.name, by decide, Tryz.func185.trans (congrArg some (by kernel_rfl))⟩
  f23 := ⟨Tryz.f186.name, by decide, Tryz.func186.trans (congrArg some (by kernel_rfl))⟩
  f24 := ⟨Tryz.f187.name, by decide, Tryz.func187.trans (congrArg some (by kernel_rfl))⟩
  f25 := ⟨Tryz.f188.name, by decide, Tryz.func188.trans (congrArg some (by kernel_rfl))⟩
  f26 := ⟨Tryz.f189.name, by decide, Tryz.func189.trans (congrArg some (by kernel_rfl))⟩
  f27 := ⟨Tryz.f190.name, by decide, Tryz.func190.trans (congrArg some (by kernel_rfl))⟩
  f28 := Tryz.func180.trans (congrArg some (by kernel_rfl))
  f29 := Tryz.func181.trans (congrArg some (by kernel_rfl))
  f46 := ⟨Tryz.f196.name, by decide, Tryz.func196.trans (congrArg some (by kernel_rfl))⟩
  f47 := Tryz.func192.trans (congrArg some (by kernel_rfl))
  f48 := Tryz.func193.trans (congrArg some (by kernel_rfl))
  f49 := ⟨Tryz.f197.name, by decide, Tryz.func197.trans (congrArg some (by kernel_rfl))⟩
  f50 := ⟨Tryz.f198.name, by decide, Tryz.func198.trans (congrArg some (by kernel_rfl))⟩
  f57 := ⟨Tryz.f200.name, by decide, Tryz.func200.trans (congrArg some (by kernel_rfl))⟩
  t0 := Tryz.underlying0
  a0 := Tryz.isAgg0
  z0 := Tryz.sizeOf0
  v0 := Tryz.zeroValue0
  t3 := Tryz.underlying3
  a3 := Tryz.isAgg3
  z3 := Tryz.sizeOf3
  v3 := Tryz.zeroValue3
  t4 := Tryz.underlying4
  a4 := Tryz.isAgg4
  z4 := Tryz.sizeOf4
  v4 := Tryz.zeroValue4
  t5 := Tryz.underlying5
  a5 := Tryz.isAgg5
  z5 := Tryz.sizeOf5
  v5 := Tryz.zeroValue5
  t9 := Tryz.underlying9
  a9 := Tryz.isAgg9
  z9 := Tryz.sizeOf9
  v9 := Tryz.zeroValue9
  t22 := Tryz.underlying22
  a22 := Tryz.isAgg22
  z22 := Tryz.sizeOf22
  v22 := Tryz.zeroValue22
  t25 := Tryz.underlying175
  a25 := Tryz.isAgg175
  z25 := Tryz.sizeOf175
  v25 := Tryz.zeroValue175
  t39 := Tryz.underlying186
  a39 := Tryz.isAgg186
  z39 := Tryz.sizeOf186
  v39 := Tryz.zeroValue186
  t45 := Tryz.underlying190
  a45 := Tryz.isAgg190
  z45 := Tryz.sizeOf190
  v45 := Tryz.zeroValue190
  t46 := Tryz.underlying191
  a46 := Tryz.isAgg191
  z46 := Tryz.sizeOf191
  v46 := Tryz.zeroValue191
  t50 := Tryz.underlying195
  a50 := Tryz.isAgg195
  z50 := Tryz.sizeOf195
  v50 := Tryz.zeroValue195
  t53 := Tryz.underlying198
  a53 := Tryz.isAgg198
  z53 := Tryz.sizeOf198
  v53 := Tryz.zeroValue198
  t55 := Tryz.underlying200
  a55 := Tryz.isAgg200
  z55 := Tryz.sizeOf200
  v55 := Tryz.zeroValue200
  t66 := Tryz.underlying206
  a66 := Tryz.isAgg206
  z66 := Tryz.sizeOf206
  v66 := Tryz.zeroValue206
  t70 := Tryz.underlying210
  a70 := Tryz.isAgg210
  z70 := Tryz.sizeOf210
  v70 := Tryz.zeroValue210
  t76 := Tryz.underlying214
  a76 := Tryz.isAgg214
  z76 := Tryz.sizeOf214
  v76 := Tryz.zeroValue214
  t77 := Tryz.underlying215
  a77 := Tryz.isAgg215
  z77 := Tryz.sizeOf215
  v77 := Tryz.zeroValue215 }
def lay_findKind_ren : Go.Shelf.Ren := ⟨fun | 6 => 94 | n => n, fun | 22 => 124 | 23 => 132 | 25 => 133 | 3 => 3 | 0 => 0 | 4 => 4 | n => n, fun | n => n⟩
theorem lay_findKind : Go.Proofs.SlLaysH0.n6 Tryz.prog lay_findKind_ren := {
  mixed := by kernel_rfl
  f6 := ⟨Tryz.f94.name, by decide, Tryz.func94.trans (congrArg some (by kernel_rfl))⟩
  t0 := Tryz.underlying0
  a0 := Tryz.isAgg0
  z0 := Tryz.sizeOf0
  v0 := Tryz.zeroValue0
  t3 := Tryz.underlying3
  a3 := Tryz.isAgg3
  z3 := Tryz.sizeOf3
  v3 := Tryz.zeroValue3
  t4 := Tryz.underlying4
  a4 := Tryz.isAgg4
  z4 := Tryz.sizeOf4
  v4 := Tryz.zeroValue4
  t22 := Tryz.underlying124
  a22 := Tryz.isAgg124
  z22 := Tryz.sizeOf124
  v22 := Tryz.zeroValue124
  t25 := Tryz.underlying133
  a25 := Tryz.isAgg133
  z25 := Tryz.sizeOf133
  v25 := Tryz.zeroValue133 }
def lay_findBar_ren : Go.Shelf.Ren := ⟨fun | 6 => 159 | n => n, fun | 22 => 22 | 23 => 70 | 25 => 139 | 3 => 3 | 0 => 0 | 4 => 4 | n => n, fun | n => n⟩
theorem lay_findBar : Go.Proofs.SlLaysH0.n6 Tryz.prog lay_findBar_ren := {
  mixed := by kernel_rfl
  f6 := ⟨Tryz.f159.name, by decide, Tryz.func159.trans (congrArg some (by kernel_rfl))⟩
  t0 := Tryz.underlying0
  a0 := Tryz.isAgg0
  z0 := Tryz.sizeOf0
  v0 := Tryz.zeroValue0
  t3 := Tryz.underlying3
  a3 := Tryz.isAgg3
  z3 := Tryz.sizeOf3
  v3 := Tryz.zeroValue3
  t4 := Tryz.underlying4
  a4 := Tryz.isAgg4
  z4 := Tryz.sizeOf4
  v4 := Tryz.zeroValue4
  t22 := Tryz.underlying22
  a22 := Tryz.isAgg22
  z22 := Tryz.sizeOf22
  v22 := Tryz.zeroValue22
  t25 := Tryz.underlying139
  a25 := Tryz.isAgg139
  z25 := Tryz.sizeOf139
  v25 := Tryz.zeroValue139 }
def lay_equalK_ren : Go.Shelf.Ren := ⟨fun | 8 => 149 | n => n, fun | 22 => 34 | 24 => 26 | 4 => 4 | 3 => 3 | 0 => 0 | n => n, fun | n => n⟩
theorem lay_equalK : Go.Proofs.SlLaysQ.n8 Tryz.prog lay_equalK_ren := {
  mixed := by kernel_rfl
  f8 := ⟨Tryz.f149.name, by decide, Tryz.func149.trans (congrArg some (by kernel_rfl))⟩
  t0 := Tryz.underlying0
  a0 := Tryz.isAgg0
  z0 := Tryz.sizeOf0
  v0 := Tryz.zeroValue0
  t3 := Tryz.underlying3
  a3 := Tryz.isAgg3
  z3 := Tryz.sizeOf3
  v3 := Tryz.zeroValue3
  t4 := Tryz.underlying4
  a4 := Tryz.isAgg4
  z4 := Tryz.sizeOf4
  v4 := Tryz.zeroValue4
  t22 := Tryz.underlying34
  a22 := Tryz.isAgg34
  z22 := Tryz.sizeOf34
  v22 := Tryz.zeroValue34 }
def lay_indexBool_ren : Go.Shelf.Ren := ⟨fun | 29 => 125 | n => n, fun | 22 => 155 | 23 => 4 | 3 => 3 | 0 => 0 | 4 => 4 | n => n, fun | n => n⟩
theorem lay_indexBool : Go.Proofs.SlLaysE.n29 Tryz.prog lay_indexBool_ren := {
  mixed := by kernel_rfl
  f29 := ⟨Tryz.f125.name, by decide, Tryz.func125.trans (congrArg some (by kernel_rfl))⟩
  t0 := Tryz.underlying0
  a0 := Tryz.isAgg0
  z0 := Tryz.sizeOf0
  v0 := Tryz.zeroValue0
  t3 := Tryz.underlying3
  a3 := Tryz.isAgg3
  z3 := Tryz.sizeOf3
  v3 := Tryz.zeroValue3
  t4 := Tryz.underlying4
  a4 := Tryz.isAgg4
  z4 := Tryz.sizeOf4
  v4 := Tryz.zeroValue4
  t22 := Tryz.underlying155
  a22 := Tryz.isAgg155
  z22 := Tryz.sizeOf155
  v22 := Tryz.zeroValue155
  a23 := Tryz.isAgg4
  z23 := Tryz.sizeOf4 }
def lay_cloneB_ren : Go.Shelf.Ren := ⟨fun | 41 => 103 | n => n, fun | 22 => 22 | 23 => 70 | 4 => 4 | n => n, fun | n => n⟩
theorem lay_cloneB : Go.Proofs.SlLaysE0.n41 Tryz.prog lay_cloneB_ren := {
  mixed := by kernel_rfl
  f41 := ⟨Tryz.f103.name, by decide, Tryz.func103.trans (congrArg some (by kernel_rfl))⟩
  t4 := Tryz.underlying4
  a4 := Tryz.isAgg4
  z4 := Tryz.sizeOf4
  v4 := Tryz.zeroValue4
  t22 := Tryz.underlying22
  a22 := Tryz.isAgg22
  z22 := Tryz.sizeOf22
  v22 := Tryz.zeroValue22 }
end Go.Proofs.YthcnngoaijgnoaaGreat

/- The walk of the twine along missing bars, plain: it never passes a bar twice, so it ends at an odd knot. Conditions: the list has each bar once. -/
namespace Go.Proofs.YthcnngoaijgnoaaGreat

theorem lget_mem (D : List Bar) (k : Knot) {a : Nat} (ha : a < 4) : lget (legsAt D k) a = true ↔ armB k a ∈ D := by
  obtain rfl | rfl | rfl | rfl : a = 0 ∨ a = 1 ∨ a = 2 ∨ a = 3 := by omega
  all_goals simp [lget, legsAt]
theorem onw_spec (l : Legs) (b : Nat) (hb : b < 4) (he : oddL l = false) (hm : lget l b = true) : onw l b < 4 ∧ onw l b ≠ b ∧ lget l (onw l b) = true ∧ onw l (onw l b) = b := by
  obtain ⟨p, q, r, s⟩ := l
  obtain rfl | rfl | rfl | rfl : b = 0 ∨ b = 1 ∨ b = 2 ∨ b = 3 := by omega
  all_goals (revert p q r s; decide)
theorem armK_rev (k : Knot) {a : Nat} (ha : a < 4) : armK (armK k a) (3 - a) = k := by
  obtain ⟨x, y⟩ := k
  obtain rfl | rfl | rfl | rfl : a = 0 ∨ a = 1 ∨ a = 2 ∨ a = 3 := by omega
  all_goals first | rfl | (simp only [armK]; ext <;> simp <;> omega)
theorem armB_rev (k : Knot) {a : Nat} (ha : a < 4) : armB (armK k a) (3 - a) = armB k a := by
  obtain ⟨x, y⟩ := k
  obtain rfl | rfl | rfl | rfl : a = 0 ∨ a = 1 ∨ a = 2 ∨ a = 3 := by omega
  all_goals first | rfl | (simp only [armK, armB]; ext <;> simp <;> omega)
theorem armK_ne (k : Knot) {a : Nat} (ha : a < 4) : armK k a ≠ k := by
  obtain ⟨x, y⟩ := k
  obtain rfl | rfl | rfl | rfl : a = 0 ∨ a = 1 ∨ a = 2 ∨ a = 3 := by omega
  all_goals (simp only [armK]; intro h; have := congrArg Prod.snd h; simp at this; omega)

/-- a bar that is followed from a knot, by the arm's number -/
abbrev Dart := Knot × Nat
def barD (d : Dart) : Bar := armB d.1 d.2
def revD (d : Dart) : Dart := (armK d.1 d.2, 3 - d.2)
def nxt (D : List Bar) (d : Dart) : Dart := (armK d.1 d.2, onw (legsAt D (armK d.1 d.2)) (3 - d.2))
def dart (D : List Bar) (d : Dart) : Nat → Dart
  | 0 => d
  | i + 1 => nxt D (dart D d i)
def evn (D : List Bar) (k : Knot) : Prop := oddL (legsAt D k) = false

theorem revD_revD {d : Dart} (ha : d.2 < 4) : revD (revD d) = d := by
  obtain ⟨k, a⟩ := d
  simp only [revD]
  rw [armK_rev k ha, show 3 - (3 - a) = a by simp at ha; omega]
theorem barD_rev {d : Dart} (ha : d.2 < 4) : barD (revD d) = barD d := armB_rev d.1 ha
theorem barD_inj {d e : Dart} (hd : d.2 < 4) (he : e.2 < 4) (h : barD d = barD e) : e = d ∨ e = revD d := by
  obtain ⟨⟨x, y⟩, a⟩ := d
  obtain ⟨⟨x', y'⟩, a'⟩ := e
  simp only [barD] at h
  simp only at hd he
  obtain rfl | rfl | rfl | rfl : a = 0 ∨ a = 1 ∨ a = 2 ∨ a = 3 := by omega
  all_goals
    obtain rfl | rfl | rfl | rfl : a' = 0 ∨ a' = 1 ∨ a' = 2 ∨ a' = 3 := by omega
    all_goals
      simp only [armB, Prod.mk.injEq, and_true] at h
      simp only [revD, armK, Prod.mk.injEq, and_true]
      omega

section
variable {D : List Bar} {d : Dart} {n : Nat}
theorem step_ok {e : Dart} (ha : e.2 < 4) (hb : barD e ∈ D) (he : evn D (armK e.1 e.2)) :
    (nxt D e).2 < 4 ∧ barD (nxt D e) ∈ D ∧ (nxt D e).2 ≠ 3 - e.2 ∧ onw (legsAt D (armK e.1 e.2)) (nxt D e).2 = 3 - e.2 := by
  have hm : lget (legsAt D (armK e.1 e.2)) (3 - e.2) = true := (lget_mem D _ (by omega)).2 (by rw [armB_rev _ ha]; exact hb)
  obtain ⟨h1, h2, h3, h4⟩ := onw_spec _ _ (by omega) he hm
  exact ⟨h1, (lget_mem D _ h1).1 h3, h2, h4⟩
theorem nxt_rev_nxt {e : Dart} (ha : e.2 < 4) (hb : barD e ∈ D) (he : evn D (armK e.1 e.2)) : nxt D (revD (nxt D e)) = revD e := by
  obtain ⟨h1, _, _, h4⟩ := step_ok ha hb he
  have e1 : armK (revD (nxt D e)).1 (revD (nxt D e)).2 = armK e.1 e.2 := armK_rev _ h1
  unfold nxt at e1 ⊢
  rw [e1]
  show (armK e.1 e.2, onw (legsAt D (armK e.1 e.2)) (3 - (3 - (nxt D e).2))) = (armK e.1 e.2, 3 - e.2)
  rw [show 3 - (3 - (nxt D e).2) = (nxt D e).2 by omega, h4]
theorem nxt_inj {e f : Dart} (ha : e.2 < 4) (hb : barD e ∈ D) (he : evn D (armK e.1 e.2)) (ha' : f.2 < 4) (hb' : barD f ∈ D) (h : nxt D e = nxt D f) : e = f := by
  have hk : armK e.1 e.2 = armK f.1 f.2 := congrArg Prod.fst h
  have h1 := nxt_rev_nxt ha hb he
  have h2 := nxt_rev_nxt ha' hb' (hk ▸ he)
  rw [h, h2] at h1
  rw [← revD_revD ha, ← revD_revD ha', h1]

theorem dart_ok (ha : d.2 < 4) (h0 : barD d ∈ D) (hev : ∀ t, 0 < t → t ≤ n → evn D (dart D d t).1) : ∀ t, t ≤ n → (dart D d t).2 < 4 ∧ barD (dart D d t) ∈ D
  | 0, _ => ⟨ha, h0⟩
  | t + 1, ht => by
    obtain ⟨h1, h2⟩ := dart_ok ha h0 hev t (by omega)
    obtain ⟨h3, h4, _⟩ := step_ok h1 h2 (hev (t + 1) (by omega) ht)
    exact ⟨h3, h4⟩
theorem dart_ne (ha : d.2 < 4) (h0 : barD d ∈ D) (ho : ¬ evn D d.1) (hev : ∀ t, 0 < t → t ≤ n → evn D (dart D d t).1) : ∀ i j, i < j → j ≤ n → dart D d i ≠ dart D d j
  | 0, j, hij, hj, e => ho (by have := hev j hij hj; rw [← e] at this; exact this)
  | i + 1, 0, hij, _, _ => by omega
  | i + 1, j + 1, hij, hj, e => by
    obtain ⟨a1, b1⟩ := dart_ok ha h0 hev i (by omega)
    obtain ⟨a2, b2⟩ := dart_ok ha h0 hev j (by omega)
    exact dart_ne ha h0 ho hev i j (by omega) (by omega) (nxt_inj a1 b1 (hev (i + 1) (by omega) (by omega)) a2 b2 e)
theorem dart_rev_ne (ha : d.2 < 4) (h0 : barD d ∈ D) (hev : ∀ t, 0 < t → t ≤ n → evn D (dart D d t).1) : ∀ m i, i + 1 + m ≤ n → dart D d (i + 1 + m) ≠ revD (dart D d i)
  | 0, i, hj, e => by
    obtain ⟨a1, b1⟩ := dart_ok ha h0 hev i (by omega)
    obtain ⟨_, _, h, _⟩ := step_ok a1 b1 (hev (i + 1) (by omega) (by omega))
    exact h (congrArg Prod.snd e)
  | 1, i, hj, e => by
    obtain ⟨a1, b1⟩ := dart_ok ha h0 hev i (by omega)
    obtain ⟨a2, b2⟩ := dart_ok ha h0 hev (i + 1) (by omega)
    have h1 := nxt_rev_nxt a1 b1 (hev (i + 1) (by omega) (by omega))
    have h2 : nxt D (revD (dart D d (i + 1))) = nxt D (dart D d (i + 1)) := h1.trans e.symm
    have h3 := nxt_inj (e := revD (dart D d (i + 1))) (by simp only [revD]; omega) (by rw [barD_rev a2]; exact b2) (by
      show evn D (armK (armK _ _) (3 - _)); rw [armK_rev _ a2]; exact hev (i + 1) (by omega) (by omega)) a2 b2 h2
    exact armK_ne _ a2 (congrArg Prod.fst h3)
  | m + 2, i, hj, e => by
    obtain ⟨a1, b1⟩ := dart_ok ha h0 hev i (by omega)
    obtain ⟨a2, b2⟩ := dart_ok ha h0 hev (i + 1) (by omega)
    obtain ⟨a3, b3⟩ := dart_ok ha h0 hev (i + 1 + 1 + m) (by omega)
    have h1 := nxt_rev_nxt a1 b1 (hev (i + 1) (by omega) (by omega))
    have h2 : nxt D (revD (dart D d (i + 1))) = nxt D (dart D d (i + 1 + 1 + m)) := h1.trans (e.symm.trans (by
      rw [show i + 1 + (m + 2) = (i + 1 + 1 + m) + 1 by omega]; rfl))
    have h3 := nxt_inj (e := revD (dart D d (i + 1))) (by simp only [revD]; omega) (by rw [barD_rev a2]; exact b2) (by
      show evn D (armK (armK _ _) (3 - _)); rw [armK_rev _ a2]; exact hev (i + 1) (by omega) (by omega)) a3 b3 h2
    exact dart_rev_ne ha h0 hev m (i + 1) (by omega) h3.symm
theorem bars_ne (ha : d.2 < 4) (h0 : barD d ∈ D) (ho : ¬ evn D d.1) (hev : ∀ t, 0 < t → t ≤ n → evn D (dart D d t).1) {i j : Nat} (hij : i < j) (hj : j ≤ n) : barD (dart D d i) ≠ barD (dart D d j) := by
  intro h
  obtain ⟨a1, b1⟩ := dart_ok ha h0 hev i (by omega)
  obtain ⟨a2, b2⟩ := dart_ok ha h0 hev j hj
  rcases barD_inj a1 a2 h with e | e
  · exact dart_ne ha h0 ho hev i j hij hj e.symm
  · have := dart_rev_ne ha h0 hev (j - (i + 1)) i (by omega)
    rw [show i + 1 + (j - (i + 1)) = j by omega] at this
    exact this e
end

theorem length_le_of_sub {α : Type} [DecidableEq α] : ∀ {l D : List α}, l.Nodup → (∀ x ∈ l, x ∈ D) → l.length ≤ D.length
  | [], _, _, _ => Nat.zero_le _
  | x :: r, D, hn, hs => by
    obtain ⟨h1, h2⟩ := List.nodup_cons.1 hn
    have hx : x ∈ D := hs x (by simp)
    have h3 := length_le_of_sub (l := r) (D := D.erase x) h2 (fun y hy => (List.mem_erase_of_ne (by rintro rfl; exact h1 hy)).2 (hs y (by simp [hy])))
    rw [List.length_erase_of_mem hx] at h3
    have := List.length_pos_of_mem hx
    simp only [List.length_cons]
    omega
section
variable {D : List Bar} {d : Dart} {n : Nat}
/-- the bars that the first n darts follow -/
def pathB (D : List Bar) (d : Dart) (n : Nat) : List Bar := (List.range n).map fun t => barD (dart D d t)
def pathK (D : List Bar) (d : Dart) (n : Nat) : List Knot := (List.range n).map fun t => (dart D d t).1
theorem pathB_nodup (ha : d.2 < 4) (h0 : barD d ∈ D) (ho : ¬ evn D d.1) (hev : ∀ t, 0 < t → t < n → evn D (dart D d t).1) : (pathB D d n).Nodup := by
  unfold pathB
  rw [List.nodup_iff_pairwise_ne, List.pairwise_map]
  refine List.Pairwise.imp_of_mem ?_ (List.pairwise_lt_range (n := n))
  intro i j hi hj hij
  have hj' := List.mem_range.1 hj
  exact bars_ne (n := n - 1) ha h0 ho (fun t h1 h2 => hev t h1 (by omega)) hij (by omega)
theorem pathB_sub (ha : d.2 < 4) (h0 : barD d ∈ D) (hev : ∀ t, 0 < t → t < n → evn D (dart D d t).1) : ∀ x ∈ pathB D d n, x ∈ D := by
  intro x hx
  obtain ⟨t, ht, rfl⟩ := List.mem_map.1 hx
  have ht' := List.mem_range.1 ht
  exact (dart_ok (n := n - 1) ha h0 (fun t h1 h2 => hev t h1 (by omega)) t (by omega)).2
theorem path_le (ha : d.2 < 4) (h0 : barD d ∈ D) (ho : ¬ evn D d.1) (hev : ∀ t, 0 < t → t < n → evn D (dart D d t).1) : n ≤ D.length := by
  have := length_le_of_sub (pathB_nodup ha h0 ho hev) (pathB_sub ha h0 hev)
  simpa [pathB] using this
/-- L is where the walk ends -/
structure WEnd (D : List Bar) (d : Dart) (L : Nat) : Prop where
  pos : 0 < L
  odd : ¬ evn D (dart D d L).1
  even : ∀ t, 0 < t → t < L → evn D (dart D d t).1
theorem WEnd.le {L : Nat} (h : WEnd D d L) (ha : d.2 < 4) (h0 : barD d ∈ D) (ho : ¬ evn D d.1) : L ≤ D.length := path_le ha h0 ho h.even
theorem WEnd.unique {L L' : Nat} (h : WEnd D d L) (h' : WEnd D d L') : L = L' := by
  rcases Nat.lt_trichotomy L L' with hl | hl | hl
  · exact absurd (h'.even L h.pos hl) h.odd
  · exact hl
  · exact absurd (h.even L' h'.pos hl) h'.odd
theorem evn_or (D : List Bar) (k : Knot) : evn D k ∨ ¬ evn D k := by unfold evn; cases oddL (legsAt D k) <;> simp
theorem ends_or (D : List Bar) (d : Dart) : ∀ m, (∀ t, 0 < t → t ≤ m → evn D (dart D d t).1) ∨ ∃ L, L ≤ m ∧ WEnd D d L
  | 0 => .inl fun t h1 h2 => by omega
  | m + 1 => by
    rcases ends_or D d m with h | ⟨L, h1, h2⟩
    · rcases evn_or D (dart D d (m + 1)).1 with he | he
      · exact .inl fun t h1 h2 => by
          by_cases e : t = m + 1
          · rw [e]; exact he
          · exact h t h1 (by omega)
      · exact .inr ⟨m + 1, Nat.le_refl _, ⟨by omega, he, fun t h1 h2 => h t h1 (by omega)⟩⟩
    · exact .inr ⟨L, by omega, h2⟩
theorem walk_ends (ha : d.2 < 4) (h0 : barD d ∈ D) (ho : ¬ evn D d.1) : ∃ L, WEnd D d L := by
  rcases ends_or D d D.length with h | ⟨L, _, h⟩
  · have := path_le (n := D.length + 1) ha h0 ho (fun t h1 h2 => h t h1 (by omega))
    omega
  · exact ⟨L, h⟩
end

/-! ## as lists, to be computed -/
/-- the knots behind a dart, n of them at most, up to the first odd one -/
def wk (D : List Bar) : Nat → Dart → List Knot
  | 0, _ => []
  | n + 1, d => armK d.1 d.2 :: if oddL (legsAt D (armK d.1 d.2)) then [] else wk D n (nxt D d)
theorem dart_nxt (D : List Bar) (d : Dart) : ∀ t, dart D (nxt D d) t = dart D d (t + 1)
  | 0 => rfl
  | t + 1 => by show nxt D (dart D (nxt D d) t) = nxt D (dart D d (t + 1)); rw [dart_nxt D d t]
theorem wk_eq {D : List Bar} : ∀ (n L : Nat) (d : Dart), L ≤ n → WEnd D d L → d.1 :: wk D n d = pathK D d (L + 1)
  | 0, L, d, hL, h => by have := h.pos; omega
  | n + 1, L, d, hL, h => by
    unfold wk
    by_cases h1 : L = 1
    · subst h1
      have ho : oddL (legsAt D (armK d.1 d.2)) = true := by
        have := h.odd
        unfold evn at this
        simpa [dart, nxt] using this
      rw [if_pos ho]
      rfl
    · have hL1 := h.pos
      have he : oddL (legsAt D (armK d.1 d.2)) = false := h.even 1 (by omega) (by omega)
      rw [he, if_neg (by simp)]
      have ih := wk_eq n (L - 1) (nxt D d) (by omega) ⟨by omega, by
        rw [dart_nxt, show L - 1 + 1 = L by omega]; exact h.odd, fun t h1 h2 => by rw [dart_nxt]; exact h.even (t + 1) (by omega) (by omega)⟩
      have e1 : armK d.1 d.2 :: wk D n (nxt D d) = pathK D (nxt D d) L := by
        have := ih
        rw [show L - 1 + 1 = L by omega] at this
        exact this
      rw [e1]
      unfold pathK
      rw [List.range_succ_eq_map, List.map_cons, List.map_map]
      congr 1
      refine List.map_congr_left fun t _ => ?_
      rw [dart_nxt]; rfl
/-- the first missing arm of a knot -/
def arm0 (D : List Bar) (k : Knot) : Nat := if armB k 0 ∈ D then 0 else if armB k 1 ∈ D then 1 else if armB k 2 ∈ D then 2 else 3
def walkL (D : List Bar) (k : Knot) : List Knot := k :: wk D D.length (k, arm0 D k)
theorem arm0_ok {D : List Bar} {k : Knot} (h : legsAt D k ≠ noLegs) : arm0 D k < 4 ∧ barD (k, arm0 D k) ∈ D := by
  unfold arm0 barD
  by_cases h0 : armB k 0 ∈ D
  · simp [h0]
  · by_cases h1 : armB k 1 ∈ D
    · simp [h0, h1]
    · by_cases h2 : armB k 2 ∈ D
      · simp [h0, h1, h2]
      · by_cases h3 : armB k 3 ∈ D
        · simp [h0, h1, h2, h3]
        · exfalso; apply h; simp [legsAt, h0, h1, h2, h3, noLegs]
theorem odd_ne {D : List Bar} {k : Knot} (h : ¬ evn D k) : legsAt D k ≠ noLegs := fun e => h (by unfold evn; rw [e]; decide)
theorem walkL_eq {D : List Bar} {k : Knot} (ho : ¬ evn D k) : ∃ L, WEnd D (k, arm0 D k) L ∧ L ≤ D.length ∧ walkL D k = pathK D (k, arm0 D k) (L + 1) := by
  obtain ⟨ha, hb⟩ := arm0_ok (odd_ne ho)
  obtain ⟨L, hL⟩ := walk_ends ha hb ho
  exact ⟨L, hL, hL.le ha hb ho, wk_eq _ _ _ (hL.le ha hb ho) hL⟩
end Go.Proofs.YthcnngoaijgnoaaGreat

/- The knots of a hole in their order, whether a walk is a run, and the run of a hole: plain, to be computed. Conditions: sides are 1 or -1. -/
namespace Go.Proofs.YthcnngoaijgnoaaGreat

theorem sorted_unique {α : Type} {R : α → α → Prop} (irr : ∀ a, ¬ R a a) (tr : ∀ a b c, R a b → R b c → R a c) : ∀ {l r : List α}, l.Pairwise R → r.Pairwise R → (∀ x, x ∈ l ↔ x ∈ r) → l = r
  | [], [], _, _, _ => rfl
  | [], y :: r, _, _, h => by have := (h y).2 (by simp); simp at this
  | x :: l, [], _, _, h => by have := (h x).1 (by simp); simp at this
  | x :: l, y :: r, h1, h2, h => by
    obtain ⟨p1, p2⟩ := List.pairwise_cons.1 h1
    obtain ⟨q1, q2⟩ := List.pairwise_cons.1 h2
    have hxy : x = y := by
      rcases List.mem_cons.1 ((h x).1 (by simp)) with e | e
      · exact e
      · rcases List.mem_cons.1 ((h y).2 (by simp)) with e' | e'
        · exact e'.symm
        · exact absurd (tr _ _ _ (q1 _ e) (p1 _ e')) (irr _)
    subst hxy
    have ht : ∀ z, z ∈ l ↔ z ∈ r := fun z => by
      constructor
      · intro hz
        rcases List.mem_cons.1 ((h z).1 (by simp [hz])) with e | e
        · subst e; exact absurd (p1 _ hz) (irr _)
        · exact e
      · intro hz
        rcases List.mem_cons.1 ((h z).2 (by simp [hz])) with e | e
        · subst e; exact absurd (q1 _ hz) (irr _)
        · exact e
    rw [sorted_unique irr tr p2 q2 ht]

/-! ## the knots of a hole -/
def kltP (a b : Knot) : Prop := a.2 < b.2 ∨ a.2 = b.2 ∧ a.1 < b.1
instance (a b : Knot) : Decidable (kltP a b) := inferInstanceAs (Decidable (a.2 < b.2 ∨ a.2 = b.2 ∧ a.1 < b.1))
theorem kltP_irr (a : Knot) : ¬ kltP a a := by unfold kltP; omega
theorem kltP_tr (a b c : Knot) : kltP a b → kltP b c → kltP a c := by unfold kltP; omega
theorem kltP_tri {a b : Knot} (h : ¬ kltP a b) (hne : a ≠ b) : kltP b a := by
  unfold kltP at h ⊢
  have : ¬ (a.1 = b.1 ∧ a.2 = b.2) := fun ⟨h1, h2⟩ => hne (Prod.ext h1 h2)
  omega
/-- a knot put into a list in its place -/
def insK : List Knot → Knot → List Knot
  | [], k => [k]
  | x :: r, k => if kltP x k then x :: insK r k else if x = k then x :: r else k :: x :: r
theorem insK_mem (k y : Knot) : ∀ l, y ∈ insK l k ↔ y = k ∨ y ∈ l
  | [] => by simp [insK]
  | x :: r => by
    unfold insK
    split
    · rw [List.mem_cons, insK_mem k y r, List.mem_cons]
      constructor
      · rintro (h | h | h) <;> simp [h]
      · rintro (h | h | h) <;> simp [h]
    · split
      · rename_i h
        subst h
        simp
      · simp
theorem insK_sorted (k : Knot) : ∀ {l : List Knot}, l.Pairwise kltP → (insK l k).Pairwise kltP
  | [], _ => by simp [insK]
  | x :: r, h => by
    obtain ⟨h1, h2⟩ := List.pairwise_cons.1 h
    unfold insK
    split
    · rename_i hx
      refine List.pairwise_cons.2 ⟨fun y hy => ?_, insK_sorted k h2⟩
      rcases (insK_mem k y r).1 hy with rfl | hy
      · exact hx
      · exact h1 y hy
    · rename_i hx
      split
      · exact h
      · rename_i hne
        refine List.pairwise_cons.2 ⟨fun y hy => ?_, h⟩
        have := kltP_tri hx hne
        rcases List.mem_cons.1 hy with rfl | hy
        · exact this
        · exact kltP_tr _ _ _ this (h1 y hy)
def holeIn (o : List Knot) (D : List Bar) : List Knot := D.foldl (fun o b => insK (insK o (lowK b)) (uppK b)) o
def holeK (D : List Bar) : List Knot := holeIn [] D
theorem holeIn_mem (k : Knot) : ∀ (D : List Bar) (o : List Knot), k ∈ holeIn o D ↔ k ∈ o ∨ ∃ b ∈ D, k = lowK b ∨ k = uppK b
  | [], o => by simp [holeIn]
  | b :: D, o => by
    show k ∈ holeIn (insK (insK o (lowK b)) (uppK b)) D ↔ _
    rw [holeIn_mem k D, insK_mem, insK_mem]
    simp only [List.mem_cons, exists_eq_or_imp]
    constructor
    · rintro ((h | h | h) | h)
      · exact .inr (.inl (.inr h))
      · exact .inr (.inl (.inl h))
      · exact .inl h
      · exact .inr (.inr h)
    · rintro (h | (h | h) | h)
      · exact .inl (.inr (.inr h))
      · exact .inl (.inr (.inl h))
      · exact .inl (.inl h)
      · exact .inr h
theorem holeIn_sorted : ∀ (D : List Bar) (o : List Knot), o.Pairwise kltP → (holeIn o D).Pairwise kltP
  | [], _, h => h
  | _ :: D, _, h => holeIn_sorted D _ (insK_sorted _ (insK_sorted _ h))
theorem holeK_sorted (D : List Bar) : (holeK D).Pairwise kltP := holeIn_sorted D [] List.Pairwise.nil
theorem end_arm {b : Bar} (hb : Sided b) {k : Knot} (h : k = lowK b ∨ k = uppK b) : ∃ a, a < 4 ∧ armB k a = b := by
  obtain ⟨x, y, s⟩ := b
  rcases h with rfl | rfl <;> rcases hb with h | h <;> simp only at h <;> subst h
  · exact ⟨1, by omega, rfl⟩
  · exact ⟨0, by omega, rfl⟩
  · exact ⟨2, by omega, by simp [armB, uppK]⟩
  · exact ⟨3, by omega, by simp only [armB, uppK]; ext <;> simp; omega⟩
theorem legs_arm {D : List Bar} {k : Knot} : legsAt D k ≠ noLegs ↔ ∃ a, a < 4 ∧ armB k a ∈ D := by
  constructor
  · intro h
    exact ⟨_, arm0_ok h⟩
  · rintro ⟨a, ha, hm⟩ e
    have := (lget_mem D k ha).2 hm
    rw [e] at this
    obtain rfl | rfl | rfl | rfl : a = 0 ∨ a = 1 ∨ a = 2 ∨ a = 3 := by omega
    all_goals exact absurd this (by decide)
theorem holeK_mem {D : List Bar} (hs : ∀ b ∈ D, Sided b) (k : Knot) : k ∈ holeK D ↔ legsAt D k ≠ noLegs := by
  unfold holeK
  rw [holeIn_mem, legs_arm]
  constructor
  · rintro (h | ⟨b, hb, h⟩)
    · simp at h
    · obtain ⟨a, ha, e⟩ := end_arm (hs b hb) h
      exact ⟨a, ha, e ▸ hb⟩
  · rintro ⟨a, ha, hm⟩
    exact .inr ⟨_, hm, armB_end rfl⟩
theorem legsAt_congr {D D' : List Bar} (h : ∀ b, b ∈ D ↔ b ∈ D') : legsAt D = legsAt D' := by
  funext k
  simp only [legsAt, h]
theorem holeK_congr {D D' : List Bar} (h : ∀ b, b ∈ D ↔ b ∈ D') : holeK D = holeK D' :=
  sorted_unique kltP_irr kltP_tr (holeK_sorted D) (holeK_sorted D') fun k => by
    unfold holeK
    rw [holeIn_mem, holeIn_mem]
    simp [h]
/-- the knots that lack one bar or three -/
def oddK (D : List Bar) : List Knot := (holeK D).filter fun k => oddL (legsAt D k)

/-! ## whether a walk is a run -/
/-- the bar between two knots -/
def btwB (a b : Knot) : Bar := if b.2 < a.2 then (b.1, b.2, a.1 - b.1) else (a.1, a.2, b.1 - a.1)
def passP : List Knot → List Bar
  | a :: b :: r => btwB a b :: passP (b :: r)
  | _ => []
def placeP (b : Bar) : List Bar → Int → Int
  | [], _ => -1
  | x :: r, i => if x = b then i else placeP b r (i + 1)
def isRunP (D : List Bar) (W : List Knot) : Bool :=
  (passP W).length == D.length && cnt (legsAt D (W.getLastD (0, 0))) == 1 && W.all fun k => !(cnt (legsAt D k) == 4 && decide (placeP (armB k 2) (passP W) 0 < placeP (armB k 0) (passP W) 0))
def tryRun (D : List Bar) (k : Knot) : Option (List Knot) := bif cnt (legsAt D k) == 1 && isRunP D (walkL D k) then some (walkL D k) else none
/-- the run, where there is one -/
def runO (D : List Bar) : Option (List Knot) :=
  match oddK D with
  | [a, b] => match tryRun D b with
    | some w => some w
    | none => tryRun D a
  | _ => none
theorem nxt_congr {D D' : List Bar} (h : ∀ b, b ∈ D ↔ b ∈ D') : nxt D = nxt D' := by
  funext d
  simp only [nxt, legsAt_congr h]
theorem wk_congr {D D' : List Bar} (h : ∀ b, b ∈ D ↔ b ∈ D') : ∀ n d, wk D n d = wk D' n d
  | 0, _ => rfl
  | n + 1, d => by simp only [wk, legsAt_congr h, nxt_congr h, wk_congr h n]
theorem walkL_congr {D D' : List Bar} (h : ∀ b, b ∈ D ↔ b ∈ D') (hl : D.length = D'.length) (k : Knot) : walkL D k = walkL D' k := by
  simp only [walkL, arm0, hl, wk_congr h, h]
theorem runO_congr {D D' : List Bar} (h : ∀ b, b ∈ D ↔ b ∈ D') (hl : D.length = D'.length) : runO D = runO D' := by
  have e1 : oddK D = oddK D' := by simp only [oddK, holeK_congr h, legsAt_congr h]
  have e2 : ∀ k, tryRun D k = tryRun D' k := fun k => by simp only [tryRun, isRunP, legsAt_congr h, walkL_congr h hl, hl]
  simp only [runO, e1, e2]

theorem btwB_arm (k : Knot) {a : Nat} (ha : a < 4) : btwB k (armK k a) = armB k a := by
  obtain ⟨x, y⟩ := k
  obtain rfl | rfl | rfl | rfl : a = 0 ∨ a = 1 ∨ a = 2 ∨ a = 3 := by omega
  all_goals
    simp only [btwB, armK, armB]
    split
    · ext <;> simp <;> omega
    · ext <;> simp <;> omega
section
variable {D : List Bar} {d : Dart} {n L : Nat}
theorem pathK_succ (D : List Bar) (d : Dart) (n : Nat) : pathK D d (n + 1) = d.1 :: pathK D (nxt D d) n := by
  unfold pathK
  rw [List.range_succ_eq_map, List.map_cons, List.map_map]
  congr 1
  refine List.map_congr_left fun t _ => ?_
  rw [dart_nxt]; rfl
theorem pathB_succ (D : List Bar) (d : Dart) (n : Nat) : pathB D d (n + 1) = barD d :: pathB D (nxt D d) n := by
  unfold pathB
  rw [List.range_succ_eq_map, List.map_cons, List.map_map]
  congr 1
  refine List.map_congr_left fun t _ => ?_
  rw [dart_nxt]; rfl
theorem pass_path : ∀ (n : Nat) (d : Dart), (∀ t, t < n → (dart D d t).2 < 4) → passP (pathK D d (n + 1)) = pathB D d n
  | 0, d, _ => rfl
  | n + 1, d, h => by
    rw [pathK_succ, pathK_succ, passP, ← pathK_succ, pass_path n (nxt D d) (fun t ht => by rw [dart_nxt]; exact h (t + 1) (by omega)), pathB_succ]
    congr 1
    exact btwB_arm d.1 (h 0 (by omega))
theorem pathK_last (D : List Bar) (d : Dart) (n : Nat) (z : Knot) : (pathK D d (n + 1)).getLastD z = (dart D d n).1 := by
  unfold pathK
  rw [List.range_succ, List.map_append, List.map_cons, List.map_nil, List.getLastD_concat]
theorem placeP_at : ∀ {l : List Bar} (_ : l.Nodup) {i : Nat} (_ : i < l.length) (j : Int) (b : Bar), l[i]? = some b → placeP b l j = j + i
  | [], _, i, hi, _, _, _ => by simp at hi
  | x :: r, hn, 0, _, j, b, e => by
    obtain rfl : x = b := by simpa using e
    simp [placeP]
  | x :: r, hn, i + 1, hi, j, b, e => by
    obtain ⟨h1, h2⟩ := List.nodup_cons.1 hn
    have e' : r[i]? = some b := by simpa using e
    have hm : b ∈ r := List.mem_of_getElem? e'
    unfold placeP
    rw [if_neg (by rintro rfl; exact h1 hm), placeP_at h2 (by simpa using hi) (j + 1) b e']
    omega
/-- what the program asks of its walk's knots with four missing bars: that it came from above first -/
def fineW (D : List Bar) (d : Dart) (L : Nat) : Prop :=
  ∀ s, 0 < s → s < L → cnt (legsAt D (dart D d s).1) = 4 → ∃ r, 0 < r ∧ r ≤ s ∧ (dart D d r).1 = (dart D d s).1 ∧ 3 - (dart D d (r - 1)).2 < 2
theorem onw_four {l : Legs} (h : cnt l = 4) (b : Nat) : onw l b = b ^^^ 1 := by unfold onw; rw [if_pos h]
theorem four_even {l : Legs} (h : cnt l = 4) : oddL l = false := by unfold oddL; rw [h]; rfl
theorem four_get_true {l : Legs} (h : cnt l = 4) {a : Nat} (ha : a < 4) : lget l a = true := by
  obtain ⟨p, q, r, s⟩ := l
  obtain rfl | rfl | rfl | rfl : a = 0 ∨ a = 1 ∨ a = 2 ∨ a = 3 := by omega
  all_goals (revert p q r s; decide)
theorem pathB_get {i : Nat} (hi : i < n) : (pathB D d n)[i]? = some (barD (dart D d i)) := by
  unfold pathB
  rw [List.getElem?_map, List.getElem?_range hi]; rfl
theorem pathB_len (D : List Bar) (d : Dart) (n : Nat) : (pathB D d n).length = n := by simp [pathB]

/-- a bar of a knot with four missing bars, followed at index j: the knot is passed there, next to it -/
theorem pass_four (ha : d.2 < 4) (h0 : barD d ∈ D) (hd : cnt (legsAt D d.1) ≠ 4) (hL : WEnd D d L) {k : Knot} (h4 : cnt (legsAt D k) = 4) {j a : Nat} (hj : j < L) (hc : a < 4) (e : barD (dart D d j) = armB k a) :
    ∃ s, 0 < s ∧ s < L ∧ (dart D d s).1 = k ∧ (s = j ∨ s = j + 1) ∧ ((3 - (dart D d (s - 1)).2 = a ∧ s = j + 1) ∨ (3 - (dart D d (s - 1)).2 = a ^^^ 1 ∧ s = j)) := by
  have hok := dart_ok (n := L - 1) ha h0 (fun t h1 h2 => hL.even t h1 (by omega))
  obtain ⟨aj, bj⟩ := hok j (by omega)
  rcases barD_inj (d := (k, a)) (e := dart D d j) hc aj (by exact e.symm) with h | h
  · -- it leaves k
    have hj0 : 0 < j := by
      rcases Nat.eq_zero_or_pos j with h0' | h0'
      · subst h0'
        have hk : d.1 = k := congrArg Prod.fst h
        rw [hk] at hd
        exact absurd h4 hd
      · exact h0'
    refine ⟨j, hj0, hj, congrArg Prod.fst h, .inl rfl, .inr ⟨?_, rfl⟩⟩
    obtain ⟨a1, b1⟩ := hok (j - 1) (by omega)
    have hjj : dart D d j = nxt D (dart D d (j - 1)) := by
      have : j = (j - 1) + 1 := by omega
      rw [this]; rfl
    have hk : armK (dart D d (j - 1)).1 (dart D d (j - 1)).2 = k := by
      have := congrArg Prod.fst (hjj.symm.trans h)
      exact this
    have ho : onw (legsAt D k) (3 - (dart D d (j - 1)).2) = a := by
      have := congrArg Prod.snd (hjj.symm.trans h)
      simp only [nxt, hk] at this
      exact this
    rw [onw_four h4] at ho
    rw [← ho, Nat.xor_assoc, Nat.xor_self, Nat.xor_zero]
  · -- it comes to k
    have hk : (dart D d (j + 1)).1 = k := by
      show armK (dart D d j).1 (dart D d j).2 = k
      rw [h]
      exact armK_rev k hc
    have hlt : j + 1 < L := by
      rcases Nat.lt_or_ge (j + 1) L with h' | h'
      · exact h'
      · have : j + 1 = L := by omega
        exfalso
        apply hL.odd
        rw [← this, hk]
        exact four_even h4
    refine ⟨j + 1, by omega, hlt, hk, .inr rfl, .inl ⟨?_, rfl⟩⟩
    show 3 - (dart D d j).2 = a
    rw [h]
    simp only [revD]
    omega
theorem fine_place (ha : d.2 < 4) (h0 : barD d ∈ D) (ho : ¬ evn D d.1) (hL : WEnd D d L) (hfull : L = D.length) :
    fineW D d L ↔ ∀ k ∈ pathK D d (L + 1), cnt (legsAt D k) = 4 → ¬ placeP (armB k 2) (pathB D d L) 0 < placeP (armB k 0) (pathB D d L) 0 := by
  have hok := dart_ok (n := L - 1) ha h0 (fun t h1 h2 => hL.even t h1 (by omega))
  have hnd := pathB_nodup ha h0 ho hL.even
  have hsub := pathB_sub ha h0 hL.even
  have hd4 : cnt (legsAt D d.1) ≠ 4 := fun h => ho (four_even h)
  have hall : ∀ b ∈ D, ∃ i, i < L ∧ barD (dart D d i) = b := by
    intro b hb
    by_cases hm : b ∈ pathB D d L
    · obtain ⟨i, hi, e⟩ := List.mem_map.1 hm
      exact ⟨i, List.mem_range.1 hi, e⟩
    · exfalso
      have := length_le_of_sub (l := b :: pathB D d L) (D := D) (List.nodup_cons.2 ⟨hm, hnd⟩) (fun x hx => by
        rcases List.mem_cons.1 hx with rfl | hx
        · exact hb
        · exact hsub x hx)
      simp [pathB_len] at this
      omega
  have hplace : ∀ {i : Nat} {b : Bar}, i < L → barD (dart D d i) = b → placeP b (pathB D d L) 0 = i := by
    intro i b hi e
    have := placeP_at hnd (i := i) (by rw [pathB_len]; exact hi) 0 b (by rw [pathB_get hi, e])
    omega
  have harm : ∀ {k : Knot}, cnt (legsAt D k) = 4 → ∀ a, a < 4 → armB k a ∈ D := fun h4 a hc => (lget_mem D _ hc).1 (four_get_true h4 hc)
  constructor
  · intro hf k hk h4 hlt
    obtain ⟨j, hj, ej⟩ := hall _ (harm h4 2 (by omega))
    obtain ⟨i, hi, ei⟩ := hall _ (harm h4 0 (by omega))
    rw [hplace hj ej, hplace hi ei] at hlt
    obtain ⟨s, s1, s2, s3, s4, s5⟩ := pass_four ha h0 hd4 hL h4 hj (by omega) ej
    obtain ⟨r, r1, r2, r3, r4⟩ := hf s s1 s2 (by rw [s3]; exact h4)
    have hby : 3 - (dart D d (s - 1)).2 = 2 ∨ 3 - (dart D d (s - 1)).2 = 3 := by
      rcases s5 with ⟨h, _⟩ | ⟨h, _⟩
      · exact .inl h
      · exact .inr h
    have hrs : r ≠ s := fun e => by rw [e] at r4; omega
    -- the visit r is by the upper bars
    obtain ⟨a1, b1⟩ := hok (r - 1) (by omega)
    have hk' : armK (dart D d (r - 1)).1 (dart D d (r - 1)).2 = k := by
      have : dart D d r = nxt D (dart D d (r - 1)) := by
        have e : r = (r - 1) + 1 := by omega
        rw [e]; rfl
      rw [r3.symm.trans rfl, this] at s3
      exact s3
    rcases (by omega : 3 - (dart D d (r - 1)).2 = 0 ∨ 3 - (dart D d (r - 1)).2 = 1) with hy | hy
    · have : barD (dart D d (r - 1)) = armB k 0 := by
        have := armB_rev (dart D d (r - 1)).1 a1
        rw [hk', hy] at this
        exact this.symm
      have e := hplace (i := r - 1) (by omega) this
      rw [hplace hi ei] at e
      omega
    · have hd : dart D d r = (k, 0) := by
        have e : dart D d r = nxt D (dart D d (r - 1)) := by
          have e : r = (r - 1) + 1 := by omega
          rw [e]; rfl
        rw [e]
        unfold nxt
        rw [hk', hy, onw_four h4]
        rfl
      have : barD (dart D d r) = armB k 0 := by rw [hd]; rfl
      have e := hplace (i := r) (by omega) this
      rw [hplace hi ei] at e
      omega
  · intro hp s s1 s2 h4
    obtain ⟨k, hk⟩ : ∃ k, (dart D d s).1 = k := ⟨_, rfl⟩
    rw [hk] at h4 ⊢
    have hpk := hp k (by
      rw [← hk]
      exact List.mem_map.2 ⟨s, List.mem_range.2 (by omega), rfl⟩) h4
    by_cases hby : 3 - (dart D d (s - 1)).2 < 2
    · exact ⟨s, s1, Nat.le_refl _, hk, hby⟩
    · obtain ⟨i, hi, ei⟩ := hall _ (harm h4 0 (by omega))
      obtain ⟨j, hj, ej⟩ := hall _ (harm h4 2 (by omega))
      rw [hplace hj ej, hplace hi ei] at hpk
      obtain ⟨r, r1, r2, r3, r4, r5⟩ := pass_four ha h0 hd4 hL h4 hi (by omega) ei
      -- the visit s is by the lower bars, so j is s or s - 1
      obtain ⟨a1, b1⟩ := hok (s - 1) (by omega)
      have e1 : dart D d s = nxt D (dart D d (s - 1)) := by
        have e : s = (s - 1) + 1 := by omega
        rw [e]; rfl
      have hk' : armK (dart D d (s - 1)).1 (dart D d (s - 1)).2 = k := by
        rw [e1] at hk
        exact hk
      have hjs : j = s ∨ j = s - 1 := by
        rcases (by omega : 3 - (dart D d (s - 1)).2 = 2 ∨ 3 - (dart D d (s - 1)).2 = 3) with hy | hy
        · have : barD (dart D d (s - 1)) = armB k 2 := by
            have := armB_rev (dart D d (s - 1)).1 a1
            rw [hk', hy] at this
            exact this.symm
          have e := hplace (i := s - 1) (by omega) this
          rw [hplace hj ej] at e
          omega
        · have hd : dart D d s = (k, 2) := by
            rw [e1]
            unfold nxt
            rw [hk', hy, onw_four h4]
            rfl
          have : barD (dart D d s) = armB k 2 := by rw [hd]; rfl
          have e := hplace (i := s) (by omega) this
          rw [hplace hj ej] at e
          omega
      have hij : i ≠ j := fun e => by
        rw [e, ej] at ei
        simp only [armB, Prod.mk.injEq] at ei
        omega
      refine ⟨r, r1, by omega, r3, ?_⟩
      rcases r5 with ⟨h, _⟩ | ⟨h, _⟩
      · rw [h]; omega
      · rw [h]; decide
end
/-- whether the program takes its walk for a run: as the reference does -/
theorem isRun_walk {D : List Bar} {k : Knot} (ho : ¬ evn D k) {L : Nat} (hL : WEnd D (k, arm0 D k) L) :
    isRunP D (walkL D k) = true ↔ fineW D (k, arm0 D k) L ∧ cnt (legsAt D (dart D (k, arm0 D k) L).1) = 1 ∧ L = D.length := by
  obtain ⟨ha, hb⟩ := arm0_ok (odd_ne ho)
  have hle := hL.le ha hb ho
  have hw : walkL D k = pathK D (k, arm0 D k) (L + 1) := wk_eq _ _ _ hle hL
  have hp : passP (walkL D k) = pathB D (k, arm0 D k) L := by
    rw [hw]
    exact pass_path _ _ fun t ht => (dart_ok (n := L - 1) ha hb (fun t h1 h2 => hL.even t h1 (by omega)) t (by omega)).1
  unfold isRunP
  rw [hp, pathB_len, hw, pathK_last, Bool.and_eq_true, Bool.and_eq_true, beq_iff_eq, beq_iff_eq, List.all_eq_true]
  have hq : (∀ x ∈ pathK D (k, arm0 D k) (L + 1), (!(cnt (legsAt D x) == 4 && decide (placeP (armB x 2) (pathB D (k, arm0 D k) L) 0 < placeP (armB x 0) (pathB D (k, arm0 D k) L) 0))) = true) ↔
      ∀ x ∈ pathK D (k, arm0 D k) (L + 1), cnt (legsAt D x) = 4 → ¬ placeP (armB x 2) (pathB D (k, arm0 D k) L) 0 < placeP (armB x 0) (pathB D (k, arm0 D k) L) 0 := by
    constructor
    · intro h x hx h4
      have := h x hx
      simp [h4] at this
      omega
    · intro h x hx
      by_cases h4 : cnt (legsAt D x) = 4
      · have := h x hx h4
        simp [h4]
        omega
      · simp [h4]
  rw [hq]
  constructor
  · rintro ⟨⟨h1, h2⟩, h3⟩
    exact ⟨(fine_place ha hb ho hL h1).2 h3, h2, h1⟩
  · rintro ⟨h1, h2, h3⟩
    exact ⟨⟨h3, h2⟩, (fine_place ha hb ho hL h3).1 h1⟩
end Go.Proofs.YthcnngoaijgnoaaGreat

/- Sorting knots and bars: the library's sort by its contract, at a row of the call's own. Conditions: a row of at most a million elements. -/
namespace Go.Proofs.YthcnngoaijgnoaaGreat
open Go.RowKit Go.Sort Go.Shelf
set_option maxHeartbeats 2000000
set_option maxRecDepth 100000

/-! ## a row that the sort has turned -/
theorem flat_len {α : Type} {enc : α → List Value} {sz : Nat} (hk : ∀ x, (enc x).length = sz) : ∀ l : List α, (l.flatMap enc).length = l.length * sz
  | [] => by simp
  | x :: r => by rw [List.flatMap_cons, List.length_append, hk, flat_len hk r, List.length_cons, Nat.succ_mul]; omega
section
variable {α : Type} [Inhabited α] {enc : α → List Value} {sz : Nat} {e : TypeId} {w : World}
theorem flatK_get (hk : ∀ x, (enc x).length = sz) {l : List α} {t : Nat} (ht : t < l.length * sz) : (flatK enc sz l.toArray)[t]! = (l.flatMap enc)[t]! := by
  have hpos : 0 < sz := by
    rcases Nat.eq_zero_or_pos sz with h | h
    · rw [h] at ht; simp at ht
    · exact h
  have hd : t / sz < l.length := Nat.div_lt_of_lt_mul (by rw [Nat.mul_comm]; exact ht)
  have hm : t % sz < (enc l[t / sz]).length := by rw [hk]; exact Nat.mod_lt _ hpos
  have h := flat_get hk l (t / sz) l[t / sz] (t % sz) _ (List.getElem?_eq_getElem hd) (List.getElem?_eq_getElem hm)
  have hdm : t / sz * sz + t % sz = t := by rw [Nat.mul_comm]; exact Nat.div_add_mod t sz
  rw [hdm] at h
  rw [get_flatK _ _ _ _ (by simpa using ht), getElem!_pos l.toArray (t / sz) (by simpa using hd)]
  simp only [List.getElem_toArray]
  simp only [List.getElem!_eq_getElem?_getD, h, List.getElem?_eq_getElem hm]
theorem own_holds (hk : ∀ x, (enc x).length = sz) {base g cap : Nat} {l : List α} (h : Own enc sz base e w (.slice (some ⟨g, 0, none⟩) l.length cap) l) : HoldsK enc sz w g 0 l.toArray ∧ g < w.heap.size := by
  obtain ⟨hl, hc⟩ := h
  rcases hc with ⟨hv, _⟩ | ⟨g', cap', cur, hv, hg, hh, hnc, hcm, hcs, htk⟩
  · cases hv
  · obtain ⟨rfl, rfl⟩ : g = g' ∧ cap = cap' := by simpa using hv
    have hlt := (Array.getElem?_eq_some_iff.1 hh).1
    refine ⟨fun j hj => ?_, hlt⟩
    have hj' : j < l.length * sz := by simpa using hj
    refine ⟨?_, by simp [World.frozen?, hh]⟩
    rw [Nat.zero_add, cell_of_row w g j cur e (0, 0) hh, flatK_get hk hj', ← htk]
    have hj2 : j < cur.size := by rw [hcs]; exact Nat.lt_of_lt_of_le hj' (Nat.mul_le_mul_right _ hnc)
    simp [List.getElem!_eq_getElem?_getD, hj', hj2]
theorem own_sorted (hk : ∀ x, (enc x).length = sz) {base g cap : Nat} {l l' : List α} (h : Own enc sz base e w (.slice (some ⟨g, 0, none⟩) l.length cap) l) (hll : l'.length = l.length) (n : Nat) (os : Array Obj) :
    Own enc sz base e (sortWorldK enc sz w g 0 n l'.toArray os) (.slice (some ⟨g, 0, none⟩) l.length cap) l' ∧ w.grownBy (sortWorldK enc sz w g 0 n l'.toArray os) (some g) := by
  obtain ⟨hl, hc⟩ := h
  rcases hc with ⟨hv, _⟩ | ⟨g', cap', cur, hv, hg, hh, hnc, hcm, hcs, htk⟩
  · cases hv
  · obtain ⟨rfl, rfl⟩ : g = g' ∧ cap = cap' := by simpa using hv
    have hlt := (Array.getElem?_eq_some_iff.1 hh).1
    have hheap : ∀ k, k < w.heap.size → (sortWorldK enc sz w g 0 n l'.toArray os).heap[k]? = if g = k then some (.cells (putCells id 0 (flatK enc sz l'.toArray) cur) e (0, 0)) else w.heap[k]? := by
      intro k hk'
      have e1 : (sortWorldK enc sz w g 0 n l'.toArray os).heap[k]? = (mapBlock w g (putCells id 0 (flatK enc sz l'.toArray))).heap[k]? := by
        show (_ ++ os)[k]? = _
        rw [Array.getElem?_append_left (by simpa [putRowK, putRow, mapBlock, Sort.ahead] using hk')]
        rfl
      rw [e1]
      simp only [mapBlock, Array.getElem?_modify]
      by_cases hgk : g = k
      · subst hgk
        simp [hh, onCells]
      · simp [hgk]
    refine ⟨⟨by rw [flat_len hk, hll], .inr ⟨g, cap, putCells id 0 (flatK enc sz l'.toArray) cur, by rw [hll], hg, by rw [hheap g hlt, if_pos rfl], by omega, hcm, by simpa [putCells] using hcs, ?_⟩⟩, ?_⟩
    · apply List.ext_getElem?
      intro t
      rw [List.getElem?_take]
      by_cases ht : t < l'.length * sz
      · have ht2 : t < cur.size := by rw [hcs]; exact Nat.lt_of_lt_of_le ht (Nat.mul_le_mul_right _ (by omega))
        have h3 : t < (l'.flatMap enc).length := by rw [flat_len hk]; exact ht
        have h4 := flatK_get hk ht
        rw [List.getElem!_eq_getElem?_getD, List.getElem?_eq_getElem h3] at h4
        simp only [Option.getD_some] at h4
        rw [if_pos ht, List.getElem?_eq_getElem h3]
        simp only [putCells, Array.toList_mapIdx, List.getElem?_mapIdx, Array.getElem?_toList, Array.getElem?_eq_getElem ht2, Option.map_some, Nat.zero_le, true_and, Nat.zero_add, size_flatK, List.size_toArray, ht, if_true, Nat.sub_zero, id_eq]
        rw [h4]
      · rw [if_neg ht, List.getElem?_eq_none (by rw [flat_len hk]; omega)]
    · refine ⟨rfl, rfl, rfl, ?_, fun k hk' hne => ?_⟩
      · show w.heap.size ≤ (_ ++ os).size
        rw [Array.size_append]
        simp [putRowK, putRow, mapBlock, Sort.ahead]
      · rw [hheap k hk', if_neg (fun e => hne (by rw [e]))]
end

/-! ## the two orders -/
def cfK (a b : Knot) : Int := knotCmp a.1 a.2 b.1 b.2
def cfB (a b : Bar) : Int := barCmpM a.1 a.2.1 a.2.2 b.1 b.2.1 b.2.2
theorem ltK_iff (a b : Knot) : ltOf cfK a b = true ↔ kltP a b := by
  unfold ltOf cfK knotCmp kltP cmpI firstI firstI firstI
  simp only [decide_eq_true_eq]
  repeat' split
  all_goals omega
theorem ltB_iff (a b : Bar) : ltOf cfB a b = true ↔ bltP a b := by
  rw [bltP_iff]
  unfold ltOf cfB barCmpM cmpI firstI firstI firstI firstI
  simp only [decide_eq_true_eq]
  repeat' split
  all_goals omega
theorem bltP_tri {a b : Bar} (h : ¬ bltP a b) (hne : a ≠ b) : bltP b a := by
  rw [bltP_iff] at h ⊢
  have : ¬ (a.1 = b.1 ∧ a.2.1 = b.2.1 ∧ a.2.2 = b.2.2) := fun ⟨h1, h2, h3⟩ => hne (Prod.ext h1 (Prod.ext h2 h3))
  omega
theorem swo_of {α : Type} {lt : α → α → Bool} {R : α → α → Prop} (hi : ∀ a b, lt a b = true ↔ R a b) (irr : ∀ a, ¬ R a a) (tr : ∀ a b c, R a b → R b c → R a c) (tri : ∀ a b, ¬ R a b → a ≠ b → R b a) : SWO lt where
  irrefl x := by
    have := irr x
    rw [← hi] at this
    simpa using this
  trans x y z h1 h2 := (hi _ _).2 (tr _ _ _ ((hi _ _).1 h1) ((hi _ _).1 h2))
  ntrans x y z h1 h2 := by
    have g1 : ¬ R x y := fun h => by rw [(hi _ _).2 h] at h1; cases h1
    have g2 : ¬ R y z := fun h => by rw [(hi _ _).2 h] at h2; cases h2
    have : ¬ R x z := fun h => by
      by_cases e : x = y
      · subst e; exact g2 h
      · by_cases e' : y = z
        · subst e'; exact g1 h
        · have r1 := tri _ _ g1 e
          have r2 := tri _ _ g2 e'
          exact irr x (tr _ _ _ h (tr _ _ _ r2 r1))
    cases hh : lt x z
    · rfl
    · exact absurd ((hi _ _).1 hh) this
theorem swoK : SWO (ltOf cfK) := swo_of ltK_iff kltP_irr kltP_tr fun _ _ => kltP_tri
theorem swoB : SWO (ltOf cfB) := swo_of ltB_iff bltP_irrefl (fun _ _ _ => bltP_trans) fun _ _ => bltP_tri
theorem total_of {α : Type} [DecidableEq α] {lt : α → α → Bool} {R : α → α → Prop} (hi : ∀ a b, lt a b = true ↔ R a b) (tri : ∀ a b, ¬ R a b → a ≠ b → R b a) (x y : α) (h1 : lt x y = false) (h2 : lt y x = false) : x = y := by
  by_cases e : x = y
  · exact e
  · have g1 : ¬ R x y := fun h => by rw [(hi _ _).2 h] at h1; cases h1
    have := (hi _ _).2 (tri _ _ g1 e)
    rw [this] at h2
    cases h2
def srtK (l : List Knot) : List Knot := l.mergeSort fun x y => !(ltOf cfK) y x
def srtB (l : List Bar) : List Bar := l.mergeSort fun x y => !(ltOf cfB) y x
theorem srtK_mem (l : List Knot) (x : Knot) : x ∈ srtK l ↔ x ∈ l := List.mem_mergeSort
theorem srtB_mem (l : List Bar) (x : Bar) : x ∈ srtB l ↔ x ∈ l := List.mem_mergeSort
theorem srtK_length (l : List Knot) : (srtK l).length = l.length := List.length_mergeSort l
theorem srtB_length (l : List Bar) : (srtB l).length = l.length := List.length_mergeSort l
theorem sorted_of {α : Type} {lt : α → α → Bool} {R : α → α → Prop} (hi : ∀ a b, lt a b = true ↔ R a b) (hS : SWO lt) (tri : ∀ a b, ¬ R a b → a ≠ b → R b a) (l : List α) :
    (l.mergeSort fun x y => !lt y x).Pairwise fun a b => a = b ∨ R a b := by
  have h := List.pairwise_mergeSort (le := fun x y => !lt y x) (fun a b c h1 h2 => by
    simp only [Bool.not_eq_eq_eq_not, Bool.not_true] at h1 h2 ⊢
    exact hS.ntrans _ _ _ h2 h1) (fun a b => by
    cases h1 : lt b a
    · simp
    · cases h2 : lt a b
      · simp
      · exact absurd (hS.trans _ _ _ h1 h2) (by rw [hS.irrefl]; simp)) l
  refine h.imp fun {a b} hab => ?_
  have g : ¬ R b a := fun hr => by rw [(hi _ _).2 hr] at hab; simp at hab
  by_cases e : a = b
  · exact .inl e
  · exact .inr (tri _ _ g (Ne.symm e))
theorem srtK_sorted {l : List Knot} (hn : l.Nodup) : (srtK l).Pairwise kltP := by
  have h1 := sorted_of ltK_iff swoK (fun _ _ => kltP_tri) l
  have h2 : (srtK l).Nodup := (List.mergeSort_perm l _).nodup_iff.2 hn
  exact (h1.and h2).imp fun ⟨h, hne⟩ => h.resolve_left hne
theorem srtB_sorted {l : List Bar} (hn : l.Nodup) : (srtB l).Pairwise bltP := by
  have h1 := sorted_of ltB_iff swoB (fun _ _ => bltP_tri) l
  have h2 : (srtB l).Nodup := (List.mergeSort_perm l _).nodup_iff.2 hn
  exact (h1.and h2).imp fun ⟨h, hne⟩ => h.resolve_left hne
theorem srtB_weak (l : List Bar) : (srtB l).Pairwise fun a b => a = b ∨ bltP a b := sorted_of ltB_iff swoB (fun _ _ => bltP_tri) l

theorem kcmpLays (blk off size : Nat) (w : World) : CmpLays Tryz.prog 141 #[] kc 2 cfK blk off size w := fun m os dk _ x y =>
  (kcmp_ex x.1 x.2 y.1 y.2 (sortWorldK kc 2 w blk off m dk os)).mono fun _ _ ⟨he, q, os', hw⟩ => ⟨he, q, os', hw⟩
theorem bcmpLays (blk off size : Nat) (w : World) : CmpLays Tryz.prog 152 #[] bc 3 cfB blk off size w := fun m os dk _ x y =>
  (bcmp_ex x.1 x.2.1 x.2.2 y.1 y.2.1 y.2.2 (sortWorldK bc 3 w blk off m dk os)).mono fun _ _ ⟨he, q, os', hw⟩ => ⟨he, q, os', hw⟩

theorem sortK_any {v : Value} {base : Nat} (l : List Knot) (w : World) (h : OwK base w v l) (hlen : l.length ≤ 1000000) :
    Calls Tryz.prog 140 #[v, .func (.func 141) #[] #[]] w fun e w' => e = .returned (.tuple #[]) ∧ OwK base w' v (srtK l) ∧ w.grownBy w' v.ownBlock := by
  rcases h.2 with ⟨rfl, hn⟩ | ⟨g, cap, cur, rfl, _⟩
  · obtain rfl : l = [] := List.eq_nil_of_length_eq_zero hn
    exact (AnyF.slices_SortFunc_none lay_sortK none 0 _ w).mono fun e w' ⟨he, hw⟩ => ⟨he, by subst hw; simpa [srtK] using h, by subst hw; exact World.grownBy.refl _ _⟩
  · obtain ⟨hH, hg⟩ := own_holds kc_len h
    have hcon := AnyQ.slices_SortFunc_total lay_sortK 2 Tryz.isAgg26 Tryz.sizeOf26 kc kc_len (fun x u hu => kc_one x u hu) cfK swoK 141 #[] g 0 cap l.toArray w
      (enters_of Tryz.func141 (by kernel_rfl) rfl) (kcmpLays g 0 _ w) hH hg (by simp; omega) (total_of ltK_iff fun _ _ => kltP_tri)
    refine Calls.mono (R := fun e w' => e = .returned (.tuple #[]) ∧ ∃ n os, w' = sortWorldK kc 2 w g 0 n (srtK l).toArray os) ?_ ?_
    · exact hcon
    · rintro e w' ⟨he, n, os, rfl⟩
      obtain ⟨h1, h2⟩ := own_sorted kc_len h (srtK_length l) n os
      exact ⟨he, h1, h2⟩
theorem sortB_any {v : Value} {base : Nat} (l : List Bar) (w : World) (h : OwB base w v l) (hlen : l.length ≤ 1000000) :
    Calls Tryz.prog 151 #[v, .func (.func 152) #[] #[]] w fun e w' => e = .returned (.tuple #[]) ∧ OwB base w' v (srtB l) ∧ w.grownBy w' v.ownBlock := by
  rcases h.2 with ⟨rfl, hn⟩ | ⟨g, cap, cur, rfl, _⟩
  · obtain rfl : l = [] := List.eq_nil_of_length_eq_zero hn
    exact (AnyF.slices_SortFunc_none lay_sortB none 0 _ w).mono fun e w' ⟨he, hw⟩ => ⟨he, by subst hw; simpa [srtB] using h, by subst hw; exact World.grownBy.refl _ _⟩
  · obtain ⟨hH, hg⟩ := own_holds bc_len h
    have hcon := AnyQ.slices_SortFunc_total lay_sortB 3 Tryz.isAgg70 Tryz.sizeOf70 bc bc_len (fun x u hu => bc_one x u hu) cfB swoB 152 #[] g 0 cap l.toArray w
      (enters_of Tryz.func152 (by kernel_rfl) rfl) (bcmpLays g 0 _ w) hH hg (by simp; omega) (total_of ltB_iff fun _ _ => bltP_tri)
    refine Calls.mono (R := fun e w' => e = .returned (.tuple #[]) ∧ ∃ n os, w' = sortWorldK bc 3 w g 0 n (srtB l).toArray os) ?_ ?_
    · exact hcon
    · rintro e w' ⟨he, n, os, rfl⟩
      obtain ⟨h1, h2⟩ := own_sorted bc_len h (srtB_length l) n os
      exact ⟨he, h1, h2⟩
end Go.Proofs.YthcnngoaijgnoaaGreat

/- A range over a map, its entries told as a list; the knots of a hole in their order, walked. Conditions: the hole's bars have sides 1 or -1. -/
namespace Go.Proofs.YthcnngoaijgnoaaGreat
open Go.RowKit Go.ChangeMaps
set_option maxHeartbeats 2000000
set_option maxRecDepth 100000

/-! ## a range over a map -/
/-- block r is an iterator over the map in block rk; the keys 'done' have come -/
structure RngAt {κ ν : Type} (w : World) (r rk : Nat) (m : List (κ × ν × Nat)) (c : Nat) (done : List κ) : Prop where
  it : ∃ since seen c0, w.heap[r]? = some (.mapIter (some rk) since seen c0) ∧ (∀ x ∈ m, x.2.2 < since) ∧ (since ≤ c0 ∧ since ≤ c) ∧ seen.size = done.length ∧ ∀ x ∈ m, (x.1 ∈ done ↔ x.2.2 ∈ seen.toList)
  nodup : done.Nodup
  sub : ∀ k ∈ done, k ∈ mkeys m
/-- how many have come, read off the world -/
def seenN (w : World) (r : Nat) : Nat := match w.heap[r]? with
  | some (.mapIter _ _ seen _) => seen.size
  | _ => 0
section
variable {κ ν : Type} {w w' : World} {r rk : Nat} {m : List (κ × ν × Nat)} {done : List κ} {c : Nat} {ek : κ → Value} {ev : ν → Value} {P : Program}
theorem RngAt.seenN (h : RngAt w r rk m c done) : seenN w r = done.length := by
  obtain ⟨since, seen, c0, h1, _, _, h4, _⟩ := h.it
  unfold Go.Proofs.YthcnngoaijgnoaaGreat.seenN
  rw [h1]
  exact h4
theorem RngAt.lt (h : RngAt w r rk m c done) : r < w.heap.size := by
  obtain ⟨_, _, _, h1, _⟩ := h.it
  exact (Array.getElem?_eq_some_iff.1 h1).1
theorem RngAt.of_block (h : RngAt w r rk m c done) (hb : w'.heap[r]? = w.heap[r]?) : RngAt w' r rk m c done := by
  obtain ⟨since, seen, c0, h1, hr⟩ := h.it
  exact ⟨⟨since, seen, c0, hb.trans h1, hr⟩, h.nodup, h.sub⟩
theorem RngAt.below (h : RngAt w r rk m c done) (hb : Below w.heap.size w w') : RngAt w' r rk m c done := h.of_block (hb.block r h.lt)
theorem RngAt.ne_blk (h : RngAt w r rk m c done) {g : Nat} {t : TypeId} {cs : Array Value} (hB : Blk w g t cs) : g ≠ r := by
  obtain ⟨_, _, _, h1, _⟩ := h.it
  rintro rfl
  unfold Blk at hB
  rw [h1] at hB
  cases hB
theorem RngAt.ne_own (h : RngAt w r rk m c done) {α : Type} {enc : α → List Value} {sz base : Nat} {e : TypeId} {v : Value} {l : List α} (ho : Own enc sz base e w v l) : v.ownBlock ≠ some r := by
  obtain ⟨_, _, _, h1, _⟩ := h.it
  rcases ho.2 with ⟨rfl, _⟩ | ⟨g, cap, cur, rfl, _, hh, _⟩
  · simp [Value.ownBlock]
  · intro he
    have : g = r := by simpa [Value.ownBlock] using he
    subst this
    rw [h1] at hh
    cases hh
theorem Own.ne_blk {α : Type} {enc : α → List Value} {sz base : Nat} {e : TypeId} {v : Value} {l : List α} (ho : Own enc sz base e w v l) {g : Nat} {t : TypeId} {cs : Array Value} (hB : Blk w g t cs) (ht : t ≠ e) : some g ≠ v.ownBlock := by
  rcases ho.2 with ⟨rfl, _⟩ | ⟨g', cap, cur, rfl, _, hh, _⟩
  · simp [Value.ownBlock]
  · intro he
    have : g = g' := by simpa [Value.ownBlock] using he
    subst this
    unfold Blk at hB
    rw [hh] at hB
    cases hB
    exact ht rfl
theorem Own.chg1 {α : Type} {enc : α → List Value} {sz base : Nat} {e : TypeId} {v : Value} {l : List α} (ho : Own enc sz base e w v l) (hc : Chg [r] w w') (hr : v.ownBlock ≠ some r) : Own enc sz base e w' v l :=
  ho.kept (row := some r) ⟨hc.os, hc.tape, hc.output, hc.size, fun k hk hne => hc.block k hk (by simpa using hne)⟩ (.inr hr)
theorem Own.set {α : Type} {enc : α → List Value} {sz base : Nat} {e : TypeId} {v : Value} {l : List α} (ho : Own enc sz base e w v l) {p : Addr} (hp : v.ownBlock ≠ some p.block) (u : Value) : Own enc sz base e (w.setCell p u) v l :=
  ho.kept (row := some p.block) ⟨rfl, rfl, rfl, by simp [World.setCell], fun k _ hne => Below.heap_setCell w p u k (fun e => hne (by rw [e]))⟩ (.inr hp)
theorem run_range_map {k e t : TypeId} (h : MapAt ek ev w rk m c) (ht : P.underlying t = some (.map k e)) :
    (Instr.range t (.map (some rk))).run P w = .ok (.pointer (some ⟨w.heap.size, 0, none⟩)) (w.alloc (.mapIter (some rk) c #[] c)) := by
  simp only [Instr.range, Sem.run_bind, run_underlying ht, Result.andThen_ok, MapKept.run_getObj_map h]
  rfl
theorem RngAt.start (hok : MOk m c) : RngAt (w.alloc (.mapIter (some rk) c #[] c)) w.heap.size rk m c ([] : List κ) :=
  ⟨⟨c, #[], c, heap_alloc_new w _, hok.below, ⟨Nat.le_refl _, Nat.le_refl _⟩, rfl, fun x _ => by simp⟩, List.nodup_nil, fun k hk => by simp at hk⟩
theorem rng_next (hR : RngAt w r rk m c done) (h : MapAt ek ev w rk m c) (hok : MOk m c) (hne : r ≠ rk) :
    ((∀ k ∈ mkeys m, k ∈ done) ∧ ∀ ty, (Instr.next (.pointer (some ⟨r, 0, none⟩)) false ty).run P w = .ok (.tuple #[.bool false]) w) ∨
    ∃ x ∈ m, x.1 ∉ done ∧ ∃ w', (∀ ty, (Instr.next (.pointer (some ⟨r, 0, none⟩)) false ty).run P w = .ok (.tuple #[.bool true, ek x.1, ev x.2.1]) w') ∧
      (Instr.entry (.pointer (some ⟨r, 0, none⟩))).run P w' = .ok (.tuple #[ek x.1, ev x.2.1]) w' ∧ Chg [r] w w' ∧ RngAt w' r rk m c (done ++ [x.1]) := by
  obtain ⟨since, seen, c0, h1, h2, h3, h4, h5⟩ := hR.it
  have hold : ∀ y ∈ (m.map (ment ek ev)).toArray.toList, y.born < since := fun y hy => by
    obtain ⟨x, hx, rfl⟩ := List.mem_map.1 hy
    exact h2 x hx
  have key := fun ty => run_next_at (P := P) w ty r rk since c0 seen _ c h1 h hold h3.1
  by_cases hz : (leftOf (m.map (ment ek ev)).toArray seen).size = 0
  · left
    refine ⟨fun k hk => ?_, fun ty => ?_⟩
    · obtain ⟨x, hx, rfl⟩ := List.mem_map.1 hk
      by_cases hd : x.1 ∈ done
      · exact hd
      · exfalso
        have hns : x.2.2 ∉ seen.toList := fun hs => hd ((h5 x hx).2 hs)
        have : ment ek ev x ∈ leftOf (m.map (ment ek ev)).toArray seen := by
          unfold leftOf
          rw [Array.mem_filter]
          refine ⟨by simpa using ⟨_, _, _, hx, rfl⟩, ?_⟩
          have : seen.contains x.2.2 = false := by
            rw [Bool.eq_false_iff]
            intro hc
            exact hns (by simpa using hc)
          show (!seen.contains (ment ek ev x).born) = true
          rw [show (ment ek ev x).born = x.2.2 from rfl, this]; rfl
        have hp : 0 < (leftOf (m.map (ment ek ev)).toArray seen).size := Array.size_pos_of_mem this
        omega
    · rcases key ty with ⟨_, hr⟩ | ⟨e, he, _⟩
      · exact hr
      · exfalso
        have : 0 < (leftOf (m.map (ment ek ev)).toArray seen).size := Array.size_pos_of_mem (by simpa using he)
        omega
  · right
    rcases key 0 with ⟨h0, _⟩ | ⟨e, he, w1, hw1, hr⟩
    · exact absurd h0 hz
    · have he' : e ∈ leftOf (m.map (ment ek ev)).toArray seen := by simpa using he
      unfold leftOf at he'
      rw [Array.mem_filter] at he'
      obtain ⟨hm, hns⟩ := he'
      obtain ⟨x, hx, rfl⟩ : ∃ x ∈ m, ment ek ev x = e := by simpa using hm
      have hns' : x.2.2 ∉ seen.toList := fun hs => by
        have : seen.contains x.2.2 = true := by simpa using hs
        rw [show (ment ek ev x).born = x.2.2 from rfl, this] at hns
        cases hns
      have hnd : x.1 ∉ done := fun hd => hns' ((h5 x hx).1 hd)
      have hr1 : w1.heap[r]? = some (.mapIter (some rk) since seen c0) := by rcases hw1 with rfl | rfl <;> exact h1
      have hm1 : MapAt ek ev w1 rk m c := by rcases hw1 with rfl | rfl <;> exact h
      have hch : Chg [r] w w1 := by
        rcases hw1 with rfl | rfl
        · exact Chg.refl
        · exact Chg.refl.drew
      have hch2 : Chg [r] w (setBlock w1 r (.mapIter (some rk) since (seen.push x.2.2) c)) := hch.setBlock (by simp) _
      have hrlt : r < w1.heap.size := (Array.getElem?_eq_some_iff.1 hr1).1
      have hit : (setBlock w1 r (.mapIter (some rk) since (seen.push x.2.2) c)).heap[r]? = some (.mapIter (some rk) since (seen.push x.2.2) c) := by
        simp [setBlock, hrlt]
      have hm2 : MapAt ek ev (setBlock w1 r (.mapIter (some rk) since (seen.push x.2.2) c)) rk m c := h.chg hch2 (by simp [Ne.symm hne])
      refine ⟨x, hx, hnd, _, fun ty => hr, ?_, hch2, ⟨⟨since, seen.push x.2.2, c, hit, h2, ⟨h3.2, h3.2⟩, by simp [h4], fun y hy => ?_⟩, ?_, ?_⟩⟩
      · exact run_entry_at _ r rk since seen _ c (ment ek ev x) hit hm2 (by simpa using ⟨_, _, _, hx, rfl⟩) (by
          have := hok.stamps
          simpa [List.map_map, Function.comp_def, ment] using this)
      · have hyx : y.2.2 = x.2.2 → y = x := fun e => by
          have hs := hok.stamps
          obtain ⟨i, hi, rfl⟩ := List.getElem_of_mem hy
          obtain ⟨j, hj, rfl⟩ := List.getElem_of_mem hx
          have := (List.getElem_inj (xs := m.map (·.2.2)) (h₀ := by simpa using hi) (h₁ := by simpa using hj) hs).1 (by simpa using e)
          subst this; rfl
        have hky : y.1 = x.1 → y = x := fun e => by
          have hs := hok.keys
          obtain ⟨i, hi, rfl⟩ := List.getElem_of_mem hy
          obtain ⟨j, hj, rfl⟩ := List.getElem_of_mem hx
          have := (List.getElem_inj (xs := mkeys m) (h₀ := by simpa [mkeys] using hi) (h₁ := by simpa [mkeys] using hj) hs).1 (by simpa [mkeys] using e)
          subst this; rfl
        rw [List.mem_append, List.mem_singleton, h5 y hy]
        simp only [Array.toList_push, List.mem_append, List.mem_singleton]
        constructor
        · rintro (h | h)
          · exact .inl h
          · exact .inr (by rw [hky h])
        · rintro (h | h)
          · exact .inl h
          · exact .inr (by rw [hyx h])
      · rw [List.nodup_append]
        exact ⟨hR.nodup, by simp, fun a ha b hb => by
          obtain rfl : b = x.1 := by simpa using hb
          rintro rfl; exact hnd ha⟩
      · intro k hk
        rcases List.mem_append.1 hk with hk | hk
        · exact hR.sub k hk
        · obtain rfl : k = x.1 := by simpa using hk
          exact List.mem_map_of_mem hx
end

section
variable {ops : Array Oper} {rest : List Oper} {o : Oper} {a : Act} {Q : Exit → Act → World → Prop} {base : Nat} {W : World} {v : Value} {X Y S : Int}
/-- the appends of one element, the place of its block told otherwise -/
theorem wpList_appB1 {l : List Bar} (hown : OwB base W v l) {g : Nat} (hgd : o.guard = none) (s x : Operand) (ho : o.op = .call { callee := .builtin .append, args := #[s, x], argTypes := #[22, 22] })
    (hs : a.eval s = v) (hx : a.eval x = .slice (some ⟨g, 0, none⟩) 1 1) (hg : W.heap.size = g) (hlen : l.length ≤ 1000000) (hbase : base ≤ W.heap.size)
    (h : ∀ v' w', OwB base w' v' (l ++ [(X, Y, S)]) → (W.alloc (.cells #[.int .i64 X, .int .i64 Y, .int .i64 S] 70)).grownBy w' v.ownBlock → wpList Tryz.prog ops Q rest (a.put o.dst v') w') :
    wpList Tryz.prog ops Q (o :: rest) a (W.alloc (.cells #[.int .i64 X, .int .i64 Y, .int .i64 S] 70)) := by
  subst hg
  exact wpList_appB hown hgd s x ho hs hx hlen hbase h
theorem wpList_appK1 {l : List Knot} (hown : OwK base W v l) {g : Nat} (hgd : o.guard = none) (s x : Operand) (ho : o.op = .call { callee := .builtin .append, args := #[s, x], argTypes := #[34, 34] })
    (hs : a.eval s = v) (hx : a.eval x = .slice (some ⟨g, 0, none⟩) 1 1) (hg : W.heap.size = g) (hlen : l.length ≤ 1000000) (hbase : base ≤ W.heap.size)
    (h : ∀ v' w', OwK base w' v' (l ++ [(X, Y)]) → (W.alloc (.cells #[.int .i64 X, .int .i64 Y] 26)).grownBy w' v.ownBlock → wpList Tryz.prog ops Q rest (a.put o.dst v') w') :
    wpList Tryz.prog ops Q (o :: rest) a (W.alloc (.cells #[.int .i64 X, .int .i64 Y] 26)) := by
  subst hg
  exact wpList_appK hown hgd s x ho hs hx hlen hbase h
end
/-! ## the knots of a hole, in their order -/
theorem insK_len (k : Knot) : ∀ l : List Knot, (insK l k).length ≤ l.length + 1
  | [] => by simp [insK]
  | x :: r => by
    unfold insK
    have := insK_len k r
    split
    · simp only [List.length_cons]; omega
    · split <;> simp
theorem holeIn_len : ∀ (D : List Bar) (o : List Knot), (holeIn o D).length ≤ o.length + 2 * D.length
  | [], o => by simp [holeIn]
  | b :: D, o => by
    have h := holeIn_len D (insK (insK o (lowK b)) (uppK b))
    have h1 := insK_len (lowK b) o
    have h2 := insK_len (uppK b) (insK o (lowK b))
    show (holeIn (insK (insK o (lowK b)) (uppK b)) D).length ≤ _
    simp only [List.length_cons]
    omega
theorem holeK_len (D : List Bar) : (holeK D).length ≤ 2 * D.length := by
  have : (holeK D).length ≤ 0 + 2 * D.length := holeIn_len D []
  omega
theorem keys_hole {D : List Bar} (hs : ∀ b ∈ D, Sided b) {mk : List (Knot × Legs × Nat)} (g : ∀ k, mget k mk = legsO D k) (k : Knot) : k ∈ mkeys mk ↔ k ∈ holeK D := by
  have h1 := @mget_none _ _ _ k mk
  rw [holeK_mem hs]
  rw [g k] at h1
  unfold legsO at h1
  by_cases h : legsAt D k = noLegs
  · rw [if_pos h] at h1
    simp at h1
    simp [h, h1]
  · rw [if_neg h] at h1
    simp at h1
    simp [h, h1]
theorem all_any (h rb rk : Nat) (D : List Bar) (w : World) (H : HoleAt w h rb rk D) (hs : ∀ b ∈ D, Sided b) (hlen : D.length ≤ 100000) :
    Calls Tryz.prog 93 #[.pointer (some ⟨h, 0, none⟩)] w fun e w' => ∃ bh bl v, e = .returned (.func (.func 142) #[] #[.pointer (some ⟨bl, 0, none⟩), .pointer (some ⟨bh, 0, none⟩)]) ∧
      w.heap.size ≤ bh ∧ w.heap.size ≤ bl ∧ Blk w' bh 102 #[.pointer (some ⟨h, 0, none⟩)] ∧ Blk w' bl 34 #[v] ∧ OwK w.heap.size w' v (holeK D) ∧ Below w.heap.size w w' := by
  obtain ⟨mk, ck, hm, hok, gk⟩ := H.knots
  have hkeys := Lib.hid (keys_hole hs gk)
  have hHB := H.blk
  have hKN : Hid ((mkeys mk).Nodup) := hok.keys
  have OK := Lib.hid hok
  clear gk hok
  have hkl : Hid (∀ l : List Knot, l.Nodup → (∀ k ∈ l, k ∈ mkeys mk) → l.length ≤ 200000) := fun l hn hsub => by
    have := length_le_of_sub hn (fun k hk => (hkeys.out k).1 (hsub k hk))
    have := holeK_len D
    omega
  have hB0 := Blk.new w 102 #[.pointer (some ⟨h, 0, none⟩)]
  have hB1 := (hB0.alloc (.cells #[.slice none 0 0] 34))
  have hL1 := Blk.new1 w (.cells #[.pointer (some ⟨h, 0, none⟩)] 102) 34 #[.slice none 0 0]
  have fB0 := hB0.facts
  have fB1 := hB1.facts
  have hH1 := hHB.below (bl_alloc (bl_alloc bl_refl (.cells #[.pointer (some ⟨h, 0, none⟩)] 102)) (.cells #[.slice none 0 0] 34))
  have fH1 := hH1.facts
  have hm1 := hm.below (bl_alloc (bl_alloc bl_refl (.cells #[.pointer (some ⟨h, 0, none⟩)] 102)) (.cells #[.slice none 0 0] 34))
  have hrg := run_range_map (P := Tryz.prog) hm1 und_knots
  have hst := RngAt.start (κ := Knot) (ν := Legs) (w := (w.alloc (.cells #[.pointer (some ⟨h, 0, none⟩)] 102)).alloc (.cells #[.slice none 0 0] 34)) (rk := rk) OK.out
  simp only [World.size_alloc] at hrg hst
  go_enter Tryz.func93, Tryz.ntmps93
  go_wp2
  have hL2 := hL1.alloc (.mapIter (some rk) ck #[] ck)
  have hB2 := hB1.alloc (.mapIter (some rk) ck #[] ck)
  clear hrg hm1 fH1 fB1 fB0
  go_loopw [] (fun wr => ∃ done v, Blk wr w.heap.size 102 #[.pointer (some ⟨h, 0, none⟩)] ∧ Blk wr (w.heap.size + 1) 34 #[v] ∧ OwK w.heap.size wr v done ∧ RngAt wr (w.heap.size + 1 + 1) rk mk ck done ∧ Below w.heap.size w wr) (fun wr => mk.length - seenN wr (w.heap.size + 1 + 1))
  case atStart => exact ⟨[], _, hB2, hL2, Own.nil_, hst, by (repeat (first | exact bl_refl | assumption | (apply bl_then; assumption) | refine bl_alloc ?_ _ | refine bl_drew ?_ | refine bl_drewN ?_ _))⟩
  case round =>
    clear hL2 hB2 hst hB0 hB1 hL1 hH1
    obtain ⟨done, v, hBh, hBl, hown, hR, hbw⟩ := hrel
    have hmr := hm.below hbw
    have hne : w.heap.size + 1 + 1 ≠ rk := by have := hm.lt; omega
    have hdl := hkl.out done hR.nodup hR.sub
    rcases rng_next (P := Tryz.prog) hR hmr OK.out hne with ⟨hall, hrun⟩ | ⟨⟨⟨kx, ky⟩, L, st⟩, hx, hnd, w1, hrun, hen, hch, hR1⟩
    · have fBl := hBl.facts
      have HA := Lib.hid hall
      clear hall
      go_wp2_with (go_at_call 140; refine (sortK_any done _ hown (by omega)).mono ?_; rintro e w2 ⟨rfl, hown2, hgr2⟩)
      have hbw2 := own_step hown hgr2 hbw
      have hE : srtK done = holeK D := sorted_unique kltP_irr kltP_tr (srtK_sorted hR.nodup) (holeK_sorted D) fun x => by
        rw [srtK_mem, ← hkeys.out]
        exact ⟨hR.sub x, HA.out x⟩
      go_ret
      exact ⟨w.heap.size, w.heap.size + 1, v, rfl, Nat.le_refl _, by omega, hBh.grown hgr2 (hown.ne_blk hBh (by decide)), hBl.grown hgr2 (hown.ne_blk hBl (by decide)), by rw [← hE]; exact hown2, hbw2⟩
    · have hown1 := hown.chg1 hch (hR.ne_own hown)
      have hBl1 := hBl.chg hch (by simp)
      have hBh1 := hBh.chg hch (by simp; omega)
      have hen' : (Instr.entry (.pointer (some ⟨w.heap.size + 1 + 1, 0, none⟩))).run Tryz.prog w1 = .ok (.tuple #[.agg #[.int .i64 kx, .int .i64 ky], lv L]) w1 := hen
      have hrun' : ∀ ty, (Instr.next (.pointer (some ⟨w.heap.size + 1 + 1, 0, none⟩)) false ty).run Tryz.prog wr = .ok (.tuple #[.bool true, .agg #[.int .i64 kx, .int .i64 ky], lv L]) w1 := hrun
      have hbw1 : Below w.heap.size w w1 := ((Chg.of_below hbw).trans (hch.mono (S' := [w.heap.size + 1 + 1]) (by simp))).below (by simp; omega) (Nat.le_refl _)
      clear hen hrun
      have hR1' := hR1.below (bl_alloc bl_refl (.cells #[.int .i64 kx, .int .i64 ky] 26))
      have hownA := hown1.alloc (.cells #[.int .i64 kx, .int .i64 ky] 26)
      have hBlA := hBl1.alloc (.cells #[.int .i64 kx, .int .i64 ky] 26)
      have hBhA := hBh1.alloc (.cells #[.int .i64 kx, .int .i64 ky] 26)
      have fBlA := hBlA.facts
      have hbA : Below w.heap.size w (w1.alloc (.cells #[.int .i64 kx, .int .i64 ky] 26)) := by (repeat (first | exact bl_refl | assumption | (apply bl_then; assumption) | refine bl_alloc ?_ _ | refine bl_drew ?_ | refine bl_drewN ?_ _))
      go_wp2_with (at_builtin; refine wpList_appK1 hownA rfl _ _ rfl rfl rfl (by simp) (by omega) (Below.size hbA) ?_; intro v2 w2 hown2 hgr2; obtain ⟨A2, c2, rfl⟩ := hown2.shape; have fBl2 := ((hBlA.alloc _).grown hgr2 (hownA.ne_blk hBlA (by decide))).facts)
      have hbw2 := own_step hownA hgr2 (by (repeat (first | exact bl_refl | assumption | (apply bl_then; assumption) | refine bl_alloc ?_ _ | refine bl_drew ?_ | refine bl_drewN ?_ _)))
      simp only [List.length_append, List.length_cons, List.length_nil, Nat.zero_add] at hown2
      have hBl2 := (hBlA.alloc (.cells #[.int .i64 kx, .int .i64 ky] 26)).grown hgr2 (hownA.ne_blk hBlA (by decide))
      have hBh2 := (hBhA.alloc (.cells #[.int .i64 kx, .int .i64 ky] 26)).grown hgr2 (hownA.ne_blk hBhA (by decide))
      have hR2 := hR1'.below (bl_alloc bl_refl (.cells #[.int .i64 kx, .int .i64 ky] 26))
      have hR3 := hR2.of_block (hgr2.block _ hR2.lt (Ne.symm (hR2.ne_own (hownA.alloc _))))
      have hR4 := hR3.of_block (Below.heap_setCell w2 ⟨w.heap.size + 1, 0, none⟩ (.slice A2 (done.length + 1) c2) (w.heap.size + 1 + 1) (by simp))
      have hlt : done.length < mk.length := by
        have := length_le_of_sub hR1.nodup hR1.sub
        rw [mkeys_length, List.length_append] at this
        simp only [List.length_cons, List.length_nil] at this
        omega
      have hne2 := Ne.symm (hown2.ne_blk hBl2 (by decide))
      go_roundw
      case rel => exact ⟨done ++ [(kx, ky)], _, hBh2.far (by simp) _, hBl2.set_ 0 _, hown2.set hne2 _, hR4, bl_set hbw2 (by simp) _⟩
      case measure => rw [hR4.seenN, hR.seenN]; simp; omega
end Go.Proofs.YthcnngoaijgnoaaGreat

/- The law for a region that draws its order (Ord), inside a fence that lets every function in: for the rounds of a range over a function, and for its iterators. Conditions: the Bools 'ordB' and 'noDefer' over the region. -/
namespace Go.Proofs.YthcnngoaijgnoaaGreat
open Go.RowKit

section
variable {F : Fence} {n : Nat} {P : Program} {ops : Array Oper} {Q : Exit → Act → World → Prop} {md : Region.Mode} {C : World → Prop} {kp : Nat → Bool}

def isDefer (o : Oper) : Bool := match o.op with | .defer _ => true | _ => false
def noDefer (ops : Array Oper) : Bool := ops.all fun o => !isDefer o
theorem noDefer_spec (h : noDefer ops = true) {i : Nat} {o : Oper} (ho : ops[i]? = some o) : ∀ c, o.op ≠ .defer c := by
  intro c e
  have := Array.all_eq_true'.1 h o (Array.mem_of_getElem? ho)
  simp [isDefer, e] at this
theorem yieldsIf_wpOpIn (hF : ∀ f, F.fn f) {i : Nat} {o : Oper} {v : Value} {a : Act} (hd : ∀ c, o.op ≠ .defer c) (hi : ops[i]? = some o) (hy : YieldsIf P ops C o v a)
    {K : Act → World → Prop} {w : World} (hS : C w) (h : K (a.put o.dst v) w) : wpOpIn F n P ops Q i K a w := by
  unfold Go.wpOpIn
  simp only [hi]
  rcases hy with ⟨hw, hv⟩ | ⟨hw, rfl⟩
  · simp only [hw, if_true, Oper.wpIn, Oper.semAt_plain F _ _ hd, hv w hS, Oper.uponIn]
    exact ⟨fun f _ => hF f, h⟩
  · simp only [hw, Bool.false_eq_true, if_false]
    exact ⟨fun f _ => hF f, h⟩
theorem wpOpIn_putIf (hF : ∀ f, F.fn f) {j : Nat} {oi oj : Oper} {v : Value} (hdj : ∀ c, oj.op ≠ .defer c) (hj : ops[j]? = some oj) (hap : oi.apart ops oj = true)
    (hsi : ∀ cs b, oi.op ≠ .select cs b) (hsj : ∀ cs b, oj.op ≠ .select cs b)
    (hQ : ∀ c a w, Q (.panic c) (a.put oi.dst v) w → Q (.panic c) a w) {K : Act → World → Prop} {a : Act} {w : World}
    (hy : YieldsIf P ops C oi v a) (h : wpOpIn F n P ops Q j K (a.put oi.dst v) w) :
    wpOpIn F n P ops Q j (fun a' w' => YieldsIf P ops C oi v a' ∧ K (a'.put oi.dst v) w') a w := by
  obtain ⟨h1, h2, h3⟩ := Oper.apart_spec hap
  have keep : ∀ (a : Act), YieldsIf P ops C oi v a → ∀ u, YieldsIf P ops C oi v (a.put oj.dst u) := fun a hy u =>
    hy.of_same (execOp_put oi hsi a oj.dst u h3) (wanted_put oi a oj.dst u h3)
  have keepD : ∀ d, YieldsIf P ops C oi v { a with defers := d :: a.defers } := fun d => hy.of_same rfl rfl
  unfold Go.wpOpIn at *
  simp only [hj] at *
  rw [wanted_put oj a oi.dst v h1] at h
  split
  · rename_i hw
    simp only [hw, if_true] at h
    unfold Oper.wpIn at *
    refine ⟨fun f _ => hF f, ?_⟩
    have h := h.2
    rw [Oper.semAt_plain F _ _ hdj, execOp_put oj hsj a oi.dst v h1] at h
    rw [Oper.semAt_plain F _ _ hdj]
    generalize (execOp a.eval oj).run P w = r at *
    cases r with
    | ok x w' =>
      cases x <;> simp only [Oper.uponIn] at h ⊢
      case value u => exact ⟨keep a hy u, by rw [← Act.put_comm a v u h2]; exact h⟩
      case skip => exact ⟨keep a hy _, by rw [← Act.put_comm a v undef h2]; exact h⟩
      case defer d =>
        refine ⟨keep _ (keepD d) _, ?_⟩
        rw [← Act.put_comm _ v undef h2, ← Act.put_defers]
        exact h
      case enter f args =>
        refine ⟨h.1, CallsIn.mono h.2 fun e w'' he => ?_⟩
        cases e with
        | returned u => exact ⟨keep a hy u, by rw [← Act.put_comm a v u h2]; exact he⟩
        | panicked c => exact hQ _ _ _ he
        | outgrown => exact he
      case row row args => exact ⟨h.1, RowsIn.mono h.2 fun u w'' he => ⟨keep a hy u, by rw [← Act.put_comm a v u h2]; exact he⟩⟩
      case round l f tmps assign body =>
        refine ⟨h.1, RoundIn.mono h.2 fun e w'' he => ?_⟩
        cases e with
        | returned u => exact ⟨keep a hy u, by rw [← Act.put_comm a v u h2]; exact he⟩
        | panicked c => exact hQ _ _ _ he
        | outgrown => exact he
    | halt x w' =>
      cases x <;> simp only [Oper.uponIn] at h ⊢
      case panic u => exact hQ _ _ _ h
  · rename_i hw
    simp only [hw] at h
    exact ⟨fun f _ => hF f, keep a hy _, by rw [← Act.put_comm a v undef h2]; exact h.2⟩

def wpAnyGI (F : Fence) (n : Nat) (P : Program) (md : Region.Mode) (ops : Array Oper) (Q : Exit → Act → World → Prop) (C : World → Prop) (kp : Nat → Bool) : Nat → Array Bool → Act → World → Prop
  | 0, listed, a, w => Region.ready md ops listed = [] ∧ Q .normal a w
  | f + 1, listed, a, w => (Region.ready md ops listed = [] → Q .normal a w) ∧
      ∀ i ∈ Region.ready md ops listed, wpOpIn F n P ops Q i (fun a' w' => (kp i = true → C w') ∧ wpAnyGI F n P md ops Q C kp f (listed.setIfInBounds i true) a' w') a w

theorem wpAnyIn_of_GI : ∀ (f : Nat) (listed : Array Bool) (a : Act) (w : World), wpAnyGI F n P md ops Q C kp f listed a w → wpAnyIn F n P md ops Q f listed a w
  | 0, _, _, _, h => h
  | f + 1, _, _, _, h => ⟨h.1, fun i hi => wpOpIn_mono (fun a' w' h' => wpAnyIn_of_GI f _ a' w' h'.2) (h.2 i hi)⟩

theorem wpAnyGI_first (hF : ∀ f, F.fn f) (hnd : noDefer ops = true) {i : Nat} {oi : Oper} {v : Value} {N : Nat} (hi : ops[i]? = some oi) (hsel : ∀ (j : Nat) (o : Oper) cs b, ops[j]? = some o → o.op ≠ .select cs b)
    (hQ : ∀ c a w, Q (.panic c) (a.put oi.dst v) w → Q (.panic c) a w) :
    ∀ (fuel : Nat) (listed : Array Bool) (a : Act) (w : World), Closed md ops listed →
      (∀ j oj, ops[j]? = some oj → j ≠ i → listed.getD j true = false → (∀ e ∈ oj.after, Region.binds md e = true → e.on ≠ i) → oi.apart ops oj = true) →
      (∀ j, j < ops.size → j ≠ i → listed.getD j true = false → kp j = true ∨ waitsN md ops N j i = true) →
      i ∈ Region.ready md ops listed → YieldsIf P ops C oi v a → C w →
      wpAnyGI F n P md ops Q C kp fuel (listed.setIfInBounds i true) (a.put oi.dst v) w → wpAnyGI F n P md ops Q C kp (fuel + 1) listed a w := by
  intro fuel
  induction fuel with
  | zero =>
    intro listed a w _ _ _ hr hy hC H
    refine ⟨fun h => (by rw [h] at hr; cases hr), fun j hj => ?_⟩
    by_cases hji : j = i
    · subst hji; exact yieldsIf_wpOpIn hF (noDefer_spec hnd hi) hi hy hC ⟨fun _ => hC, H⟩
    · have := ready_mono hj hji
      rw [H.1] at this
      cases this
  | succ fuel ih =>
    intro listed a w hcl hfree hkp hr hy hC H
    refine ⟨fun h => (by rw [h] at hr; cases hr), fun j hj => ?_⟩
    by_cases hji : j = i
    · subst hji; exact yieldsIf_wpOpIn hF (noDefer_spec hnd hi) hi hy hC ⟨fun _ => hC, H⟩
    · have h1 := H.2 j (ready_mono hj hji)
      obtain ⟨hjun, oj, hoj, hall⟩ := mem_ready.1 hj
      have hiun : listed.getD i false = false := unlisted_both (mem_ready.1 hr).1
      have hnot : ∀ e ∈ oj.after, Region.binds md e = true → e.on ≠ i := fun e he hb heq => by
        have h1 := hall e he hb
        rw [heq, hiun] at h1
        cases h1
      have hkj : kp j = true := by
        rcases hkp j (Array.getElem?_eq_some_iff.1 hoj).1 hji hjun with h | h
        · exact h
        · have := waitsN_listed hcl N j h (fun oj' hj' e he hb => by
            obtain rfl : oj = oj' := Option.some.inj (hoj.symm.trans hj')
            exact hall e he hb)
          rw [hiun] at this
          cases this
      have h2 := wpOpIn_putIf hF (noDefer_spec hnd hoj) hoj (hfree j oj hoj hji hjun hnot) (fun cs b => hsel i oi cs b hi) (fun cs b => hsel j oj cs b hoj) hQ hy h1
      have hun' : ∀ k, (listed.setIfInBounds j true).getD k true = false → listed.getD k true = false := fun k hun => by
        by_cases hjk : j = k
        · subst hjk; exact hjun
        · rw [getD_set_ne true hjk] at hun; exact hun
      refine wpOpIn_mono (fun a' w' h3 => ⟨fun _ => h3.2.1 hkj, ih (listed.setIfInBounds j true) a' w' (hcl.set hj) (fun k ok hk hki hun hno => hfree k ok hk hki (hun' k hun) hno)
        (fun k hks hki hun => hkp k hks hki (hun' k hun)) (ready_mono hr (Ne.symm hji)) h3.1 (h3.2.1 hkj) ?_⟩) h2
      rw [Array.setIfInBounds_comm _ _ hji]
      exact h3.2.2

def wpMidI (F : Fence) (n : Nat) (P : Program) (ops : Array Oper) (Q : Exit → Act → World → Prop) (C : World → Prop) (post : List Oper) : List (Oper × Bool) → Act → World → Prop
  | [], a, w => wpListIn F n P ops Q post a w
  | (o, t) :: r, a, w =>
    if t = true then (if Region.wanted o (yielded ops a.tmps) then o.quiet P a C (fun a' => wpMidI F n P ops Q C post r a' w) else wpMidI F n P ops Q C post r (a.put o.dst undef) w)
    else if Region.wanted o (yielded ops a.tmps) then o.wpIn F n P a w (fun a' w' => C w' ∧ wpMidI F n P ops Q C post r a' w') Q else wpMidI F n P ops Q C post r (a.put o.dst undef) w

theorem wpAnyGI_one (hF : ∀ f, F.fn f) {kp : Nat → Bool} : ∀ (post : List Nat) (listed : Array Bool) (a : Act) (w : World), (∀ i ∈ post, kp i = false) → seqOne md ops post listed = true →
    wpListIn F n P ops Q (post.map fun i => ops.getD i default) a w → wpAnyGI F n P md ops Q C kp post.length listed a w
  | [], listed, a, w, _, hB, h => ⟨by simpa [seqOne] using hB, h⟩
  | i :: r, listed, a, w, hk, hB, h => by
    simp only [seqOne, Bool.and_eq_true, decide_eq_true_eq] at hB
    refine ⟨fun h0 => (by rw [hB.1] at h0; cases h0), fun j hj => ?_⟩
    obtain ⟨_, o, ho, _⟩ := mem_ready.1 hj
    rw [hB.1] at hj
    obtain rfl : j = i := by simpa using hj
    have hg : ops.getD j default = o := by simp [ho]
    simp only [List.map_cons, hg] at h
    unfold Go.wpOpIn
    simp only [ho]
    unfold wpListIn at h
    have hkj := hk j (by simp)
    split
    · rename_i hw
      rw [if_pos hw] at h
      exact Oper.wpIn_mono (fun a' w' h' => ⟨fun e => (by rw [hkj] at e; cases e), wpAnyGI_one hF r _ a' w' (fun i hi => hk i (by simp [hi])) hB.2 h'⟩) h
    · rename_i hw
      rw [if_neg hw] at h
      exact ⟨fun f _ => hF f, fun e => (by rw [hkj] at e; cases e), wpAnyGI_one hF r _ _ w (fun i hi => hk i (by simp [hi])) hB.2 h.2⟩

theorem wpAnyGI_take (hF : ∀ f, F.fn f) (hnd : noDefer ops = true) {post : List Nat} (hs : Region.noSelect ops = true) (hQ : ∀ d c a v w, Q (.panic c) (Act.put a d v) w → Q (.panic c) a w) {w : World} (hC : C w)
    {i fuel : Nat} {listed : Array Bool} {a : Act} {o : Oper} (hg : ops.getD i default = o) (hcl : Closed md ops listed) (hB : takeB md ops post i listed = true) (K : Act → Prop)
    (hK : ∀ v, K (a.put o.dst v) → wpAnyGI F n P md ops Q C (fun j => !post.contains j) fuel (listed.setIfInBounds i true) (a.put o.dst v) w)
    (h : if Region.wanted o (yielded ops a.tmps) then o.quiet P a C K else K (a.put o.dst undef)) :
    wpAnyGI F n P md ops Q C (fun j => !post.contains j) (fuel + 1) listed a w := by
  simp only [takeB, Bool.and_eq_true] at hB
  obtain ⟨⟨⟨hr, hf⟩, hp⟩, hkp⟩ := hB
  have hr' : i ∈ Region.ready md ops listed := by simpa using hr
  obtain ⟨hun, o', ho, hall⟩ := mem_ready.1 hr'
  have hg' : ops.getD i default = o' := by simp [ho]
  obtain rfl : o = o' := hg.symm.trans hg'
  simp only [ho] at hp
  have hy : ∃ v, YieldsIf P ops C o v a ∧ K (a.put o.dst v) := by
    by_cases hw : Region.wanted o (yielded ops a.tmps) = true
    · rw [if_pos hw] at h
      obtain ⟨v, h1, h2⟩ := h
      exact ⟨v, yieldsIf_of hp hw h1, h2⟩
    · rw [if_neg hw] at h
      exact ⟨undef, .inr ⟨by simpa using hw, rfl⟩, h⟩
  obtain ⟨v, hy, h'⟩ := hy
  refine wpAnyGI_first (N := ops.size) hF hnd ho (Region.noSelect_spec hs) (fun c a w => hQ _ c a v w) _ listed a w hcl (Region.free_spec ho hf) (fun j hj hji hjun => ?_) hr' hy hC (hK v h')
  have := List.all_eq_true.1 hkp j (List.mem_range.2 hj)
  simp only [Bool.or_eq_true, beq_iff_eq, hji, false_or, hjun, Bool.false_eq_true] at this
  exact this

theorem wpAnyGI_mid (hF : ∀ f, F.fn f) (hnd : noDefer ops = true) {post : List Nat} (hs : Region.noSelect ops = true) (hQ : ∀ d c a v w, Q (.panic c) (Act.put a d v) w → Q (.panic c) a w) :
    ∀ (mid : List (Nat × Bool)) (listed : Array Bool) (a : Act) (w : World), Closed md ops listed → C w → seqMid md ops post mid listed = true →
    wpMidI F n P ops Q C (post.map fun i => ops.getD i default) (mid.map fun i => (ops.getD i.1 default, i.2)) a w → wpAnyGI F n P md ops Q C (fun j => !post.contains j) (mid.length + post.length) listed a w
  | [], listed, a, w, _, _, hB, h => by
    rw [List.length_nil, Nat.zero_add]
    exact wpAnyGI_one hF post listed a w (fun i hi => by simp [hi]) hB h
  | (i, t) :: r, listed, a, w, hcl, hC, hB, h => by
    rw [List.length_cons, show r.length + 1 + post.length = (r.length + post.length) + 1 by omega]
    simp only [seqMid, Bool.and_eq_true] at hB
    cases t with
    | true =>
      simp only [if_true] at hB
      simp only [List.map_cons, wpMidI, if_true] at h
      exact wpAnyGI_take hF hnd (post := post) hs hQ hC (o := ops.getD i default) rfl hcl hB.1 (fun a' => wpMidI F n P ops Q C (post.map fun i => ops.getD i default) (r.map fun i => (ops.getD i.1 default, i.2)) a' w)
        (fun v h' => wpAnyGI_mid hF hnd hs hQ r _ _ w (hcl.set (takeB_ready hB.1)) hC hB.2 h') h
    | false =>
      simp only [Bool.false_eq_true, if_false, decide_eq_true_eq] at hB
      refine ⟨fun h0 => (by rw [hB.1] at h0; cases h0), fun j hj => ?_⟩
      obtain ⟨_, o, ho, _⟩ := mem_ready.1 hj
      have hj' := hj
      rw [hB.1] at hj
      obtain rfl : j = i := by simpa using hj
      have hg : ops.getD j default = o := by simp [ho]
      simp only [List.map_cons, wpMidI, Bool.false_eq_true, if_false, hg] at h
      unfold Go.wpOpIn
      simp only [ho]
      split
      · rename_i hw
        rw [if_pos hw] at h
        exact Oper.wpIn_mono (fun a' w' h' => ⟨fun _ => h'.1, wpAnyGI_mid hF hnd hs hQ r _ a' w' (hcl.set hj') h'.1 hB.2 h'.2⟩) h
      · rename_i hw
        rw [if_neg hw] at h
        exact ⟨fun f _ => hF f, fun _ => hC, wpAnyGI_mid hF hnd hs hQ r _ _ w (hcl.set hj') hC hB.2 h⟩

theorem wpAnyGI_pre (hF : ∀ f, F.fn f) (hnd : noDefer ops = true) {mid : List (Nat × Bool)} {post : List Nat} (hs : Region.noSelect ops = true) (hQ : ∀ d c a v w, Q (.panic c) (Act.put a d v) w → Q (.panic c) a w) {w : World} (hC : C w) :
    ∀ (pre : List Nat) (listed : Array Bool) (a : Act), Closed md ops listed → seqPre md ops mid post pre listed = true →
    wpQuiet P ops C (fun a' => wpMidI F n P ops Q C (post.map fun i => ops.getD i default) (mid.map fun i => (ops.getD i.1 default, i.2)) a' w) (pre.map fun i => ops.getD i default) a →
    wpAnyGI F n P md ops Q C (fun j => !post.contains j) (pre.length + (mid.length + post.length)) listed a w
  | [], listed, a, hcl, hB, h => by
    rw [List.length_nil, Nat.zero_add]
    exact wpAnyGI_mid hF hnd hs hQ mid listed a w hcl hC hB h
  | i :: r, listed, a, hcl, hB, h => by
    rw [List.length_cons, show r.length + 1 + (mid.length + post.length) = (r.length + (mid.length + post.length)) + 1 by omega]
    simp only [seqPre, Bool.and_eq_true] at hB
    simp only [List.map_cons] at h
    unfold wpQuiet at h
    exact wpAnyGI_take hF hnd (post := post) hs hQ hC (o := ops.getD i default) rfl hcl hB.1 (fun a' => wpQuiet P ops C (fun a' => wpMidI F n P ops Q C (post.map fun i => ops.getD i default) (mid.map fun i => (ops.getD i.1 default, i.2)) a' w) (r.map fun i => ops.getD i default) a')
      (fun v h' => wpAnyGI_pre hF hnd hs hQ hC r _ _ (hcl.set (takeB_ready hB.1)) hB.2 h') h

/-- THE LAW, within a fence -/
theorem wpIn_region_ords {id : Nat} {a : Act} {w : World} {l : List Oper} (pre : List Nat) (mid : List (Nat × Bool)) (post : List Nat) (hF : ∀ f, F.fn f) (hnd : noDefer l.toArray = true) (hm : P.follows .mixedOrders = true) (hB : ordB .any l.toArray pre mid post = true)
    (hQ : ∀ d c a v w, Q (.panic c) (Act.put a d v) w → Q (.panic c) a w)
    (h : wpQuiet P l.toArray (fun w' => ∃ g : Bel w.heap.size w, w' = g.val) (fun a' => wpMidI F n P l.toArray Q (fun w' => ∃ g : Bel w.heap.size w, w' = g.val) (post.map fun i => l.getD i default) (mid.map fun i => (l.getD i.1 default, i.2)) a' w.drew) (pre.map fun i => l.getD i default) a) :
    (Code.region id l.toArray true).wpIn F n P Q a w := by
  simp only [ordB, Bool.and_eq_true, decide_eq_true_eq] at hB
  obtain ⟨⟨hs, hn⟩, hB'⟩ := hB
  refine wpIn_region_any hm (wpAnyIn_of_GI (C := fun w' => ∃ g : Bel w.heap.size w, w' = g.val) (kp := fun j => !post.contains j) _ _ _ _ ?_)
  rw [hn, Nat.add_assoc]
  refine wpAnyGI_pre hF hnd hs hQ (Bel.ex (Below.refl _ w).drew) pre _ a (Closed.start _) (by simpa [hn, Nat.add_assoc] using hB') ?_
  have e : ∀ (xs : List Nat), (xs.map fun i => l.toArray.getD i default) = xs.map fun i => l.getD i default := fun xs => List.map_congr_left fun i _ => by simp [Array.getD_eq_getD_getElem?, List.getD_eq_getElem?_getD]
  have e2 : (mid.map fun i => (l.toArray.getD i.1 default, i.2)) = mid.map fun i => (l.getD i.1 default, i.2) := List.map_congr_left fun i _ => by simp [Array.getD_eq_getD_getElem?, List.getD_eq_getElem?_getD]
  rw [e, e, e2]
  exact h

theorem wpMidI_nil {post : List Oper} {a : Act} {w : World} (h : wpListIn F n P ops Q post a w) : wpMidI F n P ops Q C post [] a w := h
theorem wpMidI_run {B : Nat} {w0 : World} {post : List Oper} {o : Oper} {r : List (Oper × Bool)} {a : Act} {w : World} (hw : Region.wanted o (yielded ops a.tmps) = true)
    (h : ∀ K : Act → World → Prop, (∀ a w', Below B w0 w' → wpMidI F n P ops Q (fun w' => ∃ g : Bel B w0, w' = g.val) post r a w' → K a w') → o.wpIn F n P a w K Q) : wpMidI F n P ops Q (fun w' => ∃ g : Bel B w0, w' = g.val) post ((o, false) :: r) a w := by
  have := h (fun a w' => (∃ g : Bel B w0, w' = g.val) ∧ wpMidI F n P ops Q (fun w' => ∃ g : Bel B w0, w' = g.val) post r a w') (fun a w h1 h2 => ⟨Bel.ex h1, h2⟩)
  simp only [wpMidI, Bool.false_eq_true, if_false, hw, if_true]
  exact this
theorem wpMidI_take {post : List Oper} {o : Oper} {r : List (Oper × Bool)} {a : Act} {w : World} (hw : Region.wanted o (yielded ops a.tmps) = true)
    (h : ∀ K : Act → Prop, (∀ a, wpMidI F n P ops Q C post r a w → K a) → o.quiet P a C K) : wpMidI F n P ops Q C post ((o, true) :: r) a w := by
  simp only [wpMidI, if_true, hw]
  exact h _ fun a h => h
end
attribute [irreducible] wpMidI
end Go.Proofs.YthcnngoaijgnoaaGreat

/- Contracts of the library at this program, laid. Conditions: none. -/
import Derived.Shelf.SlGeneric
import Derived.Shelf.SlLaysF0
import Derived.Shelf.SlLaysH0
import Derived.Shelf.SlLaysE0
import Derived.Shelf.SlLaysE
import Derived.Shelf.SlLaysQ
import Derived.Ground.SlsfProg
import Derived.Ground.SlgfProg
import Derived.Ground.SlgqProg
import Derived.Ground.SlgnProg
import Derived.Test.YtpompeancmonbaaGreatProg
import Derived.Test.YtpompeancmonbaaGreatE06
namespace Go.Proofs.YtpompeancmonbaaGreat
open Go.Shelf
def lay_sortK_ren : Go.Shelf.Ren := ⟨fun | 6 => 100 | 15 => 122 | 14 => 133 | 28 => 145 | 29 => 146 | 20 => 147 | 21 => 148 | 22 => 149 | 23 => 150 | 24 => 151 | 25 => 152 | 26 => 153 | 27 => 154 | 46 => 160 | 47 => 156 | 48 => 157 | 49 => 161 | 50 => 162 | 57 => 164 | n => n, fun | 22 => 41 | 24 => 32 | 25 => 157 | 3 => 3 | 39 => 175 | 0 => 0 | 53 => 198 | 55 => 200 | 4 => 4 | 46 => 192 | 45 => 191 | 50 => 187 | 5 => 5 | 9 => 9 | 66 => 206 | 70 => 210 | 76 => 214 | 77 => 215 | n => n, fun | n => n⟩
theorem lay_sortK : Go.Proofs.SlLaysF0.n6 Tryz.prog lay_sortK_ren := {
  mixed := by kernel_rfl
  f6 := ⟨Tryz.f100.name, by decide, Tryz.func100.trans (congrArg some (by kernel_rfl))⟩
  f14 := ⟨Tryz.f133.name, by decide, Tryz.func133.trans (congrArg some (by kernel_rfl))⟩
  f15 := Tryz.func122.trans (congrArg some (by kernel_rfl))
  f20 := ⟨Tryz.f147.name, by decide, Tryz.func147.trans (congrArg some (by kernel_rfl))⟩
  f21 := ⟨Tryz.f148.name, by decide, Tryz.func148.trans (congrArg some (by kernel_rfl))⟩
  f22 := ⟨Tryz.f149.name, by decide, Tryz.func149.trans (congrArg some (by kernel_rfl))⟩
  f23 := ⟨Tryz.f150.name, by decide, Tryz.func150.trans (congrArg some (by kernel_rfl))⟩
  f24 := ⟨Tryz.f151.name, by decide, Tryz.func151.trans (congrArg some (by kernel_rfl))⟩
  f25 := ⟨Tryz.f152.name, by decide, Tryz.func152.trans (congrArg some (by kernel_rfl))⟩
  f26 := ⟨Tryz.f153.name, by decide, Tryz.func153.trans (congrArg some (by kernel_rfl))⟩
  f27 := ⟨Tryz.f154.name, by decide, Tryz.func154.trans (congrArg some (by kernel_rfl))⟩
  f28 := Tryz.func145.trans (congrArg some (by kernel_rfl))
  f29 := Tryz.func146.trans (congrArg some (by kernel_rfl))
  f46 := ⟨Tryz.f160.name, by decide, Tryz.func160.trans (congrArg some (by kernel_rfl))⟩
  f47 := Tryz.func156.trans (congrArg some (by kernel_rfl))
  f48 := Tryz.func157.trans (congrArg some (by kernel_rfl))
  f49 := ⟨Tryz.f161.name, by decide, Tryz.func161.trans (congrArg some (by kernel_rfl))⟩
  f50 := ⟨Tryz.f162.name, by decide, Tryz.func162.trans (congrArg some (by kernel_rfl))⟩
  f57 := ⟨Tryz.f164.name, by decide, Tryz.func164.trans (congrArg some (by kernel_rfl))⟩
  t0 := Tryz.underlying0
  a0 := Tryz.isAgg0
  z0 := Tryz.sizeOf0
  v0 := Tryz.zeroValue0
  t3 := Tryz.underlying3
  a3 := Tryz.isAgg3
  z3 := Tryz.sizeOf3
  v3 := Tryz.zeroValue3
  t4 := Tryz.underlying4
  a4 := Tryz.isAgg4
  z4 := Tryz.sizeOf4
  v4 := Tryz.zeroValue4
  t5 := Tryz.underlying5
  a5 := Tryz.isAgg5
  z5 := Tryz.sizeOf5
  v5 := Tryz.zeroValue5
  t9 := Tryz.underlying9
  a9 := Tryz.isAgg9
  z9 := Tryz.sizeOf9
  v9 := Tryz.zeroValue9
  t22 := Tryz.underlying41
  a22 := Tryz.isAgg41
  z22 := Tryz.sizeOf41
  v22 := Tryz.zeroValue41
  t25 := Tryz.underlying157
  a25 := Tryz.isAgg157
  z25 := Tryz.sizeOf157
  v25 := Tryz.zeroValue157
  t39 := Tryz.underlying175
  a39 := Tryz.isAgg175
  z39 := Tryz.sizeOf175
  v39 := Tryz.zeroValue175
  t45 := Tryz.underlying191
  a45 := Tryz.isAgg191
  z45 := Tryz.sizeOf191
  v45 := Tryz.zeroValue191
  t46 := Tryz.underlying192
  a46 := Tryz.isAgg192
  z46 := Tryz.sizeOf192
  v46 := Tryz.zeroValue192
  t50 := Tryz.underlying187
  a50 := Tryz.isAgg187
  z50 := Tryz.sizeOf187
  v50 := Tryz.zeroValue187
  t53 := Tryz.underlying198
  a53 := Tryz.isAgg198
  z53 := Tryz.sizeOf198
  v53 := Tryz.zeroValue198
  t55 := Tryz.underlying200
  a55 := Tryz.isAgg200
  z55 := Tryz.sizeOf200
  v55 := Tryz.zeroValue200
  t66 := Tryz.underlying206
  a66 := Tryz.isAgg206
  z66 := Tryz.sizeOf206
  v66 := Tryz.zeroValue206
  t70 := Tryz.underlying210
  a70 := Tryz.isAgg210
  z70 := Tryz.sizeOf210
  v70 := Tryz.zeroValue210
  t76 := Tryz.underlying214
  a76 := Tryz.isAgg214
  z76 := Tryz.sizeOf214
  v76 := Tryz.zeroValue214
  t77 := Tryz.underlying215
  a77 := Tryz.isAgg215
  z77 := Tryz.sizeOf215
  v77 := Tryz.zeroValue215 }
def lay_sortB_ren : Go.Shelf.Ren := ⟨fun | 6 => 84 | 15 => 122 | 14 => 121 | 28 => 145 | 29 => 146 | 20 => 137 | 21 => 138 | 22 => 139 | 23 => 140 | 24 => 141 | 25 => 142 | 26 => 143 | 27 => 144 | 46 => 155 | 47 => 156 | 48 => 157 | 49 => 158 | 50 => 159 | 57 => 163 | n => n, fun | 22 => 22 | 24 => 46 | 25 => 141 | 3 => 3 | 39 => 175 | 0 => 0 | 53 => 198 | 55 => 200 | 4 => 4 | 46 => 192 | 45 => 191 | 50 => 187 | 5 => 5 | 9 => 9 | 66 => 206 | 70 => 210 | 76 => 214 | 77 => 215 | n => n, fun | n => n⟩
theorem lay_sortB : Go.Proofs.SlLaysF0.n6 Tryz.prog lay_sortB_ren := {
  mixed := by kernel_rfl
  f6 := ⟨Tryz.f84.name, by decide, Tryz.func84.trans (congrArg some (by kernel_rfl))⟩
  f14 := ⟨Tryz.f121.name, by decide, Tryz.func121.trans (congrArg some (by kernel_rfl))⟩
  f15 := Tryz.func122.trans (congrArg some (by kernel_rfl))
  f20 := ⟨Tryz.f137.name, by decide, Tryz.func137.trans (congrArg some (by kernel_rfl))⟩
  f21 := ⟨Tryz.f138.name, by decide, Tryz.func138.trans (congrArg some (by kernel_rfl))⟩
  f22 := ⟨Tryz.f139.name, by decide, Tryz.func139.trans (congrArg some (by kernel_rfl))⟩
  f23 := ⟨Tryz.f140.name, by decide, Tryz.func140.trans (congrArg some (by kernel_rfl))⟩
  f24 := ⟨Tryz.f141.name, by decide, Tryz.func141.trans (congrArg some (by kernel_rfl))⟩
  f25 := ⟨Tryz.f142.name, by decide, Tryz.func142.trans (congrArg some (by kernel_rfl))⟩
  f26 := ⟨Tryz.f143.name, by decide, Tryz.func143.trans (congrArg some (by kernel_rfl))⟩
  f27 := ⟨Tryz.f144.name, by decide, Tryz.func144.trans (congrArg some (by kernel_rfl))⟩
  f28 := Tryz.func145.trans (congrArg some (by kernel_rfl))
  f29 := Tryz.func146.trans (congrArg some (by kernel_rfl))
  f46 := ⟨Tryz.f155.name, by decide, Tryz.func155.trans (congrArg some (by kernel_rfl))⟩
  f47 := Tryz.func156.trans (congrArg some (by kernel_rfl))
  f48 := Tryz.func157.trans (congrArg some (by kernel_rfl))
  f49 := ⟨Tryz.f158.name, by decide, Tryz.func158.trans (congrArg some (by kernel_rfl))⟩
  f50 := ⟨Tryz.f159.name, by decide, Tryz.func159.trans (congrArg some (by kernel_rfl))⟩
  f57 := ⟨Tryz.f163.name, by decide, Tryz.func163.trans (congrArg some (by kernel_rfl))⟩
  t0 := Tryz.underlying0
  a0 := Tryz.isAgg0
  z0 := Tryz.sizeOf0
  v0 := Tryz.zeroValue0
  t3 := Tryz.underlying3
  a3 := Tryz.isAgg3
  z3 := Tryz.sizeOf3
  v3 := Tryz.zeroValue3
  t4 := Tryz.underlying4
  a4 := Tryz.isAgg4
  z4 := Tryz.sizeOf4
  v4 := Tryz.zeroValue4
  t5 := Tryz.underlying5
  a5 := Tryz.isAgg5
  z5 := Tryz.sizeOf5
  v5 := Tryz.zeroValue5
  t9 := Tryz.underlying9
  a9 := Tryz.isAgg9
  z9 := Tryz.sizeOf9
  v9 := Tryz.zeroValue9
  t22 := Tryz.underlying22
  a22 := Tryz.isAgg22
  z22 := Tryz.sizeOf22
  v22 := Tryz.zeroValue22
  t25 := Tryz.underlying141
  a25 := Tryz.isAgg141
  z25 := Tryz.sizeOf141
  v25 := Tryz.zeroValue141
  t39 := Tryz.underlying175
  a39 := Tryz.isAgg175
  z39 := Tryz.sizeOf175
  v39 := Tryz.zeroValue175
  t45 := Tryz.underlying191
  a45 := Tryz.isAgg191
  z45 := Tryz.sizeOf191
  v45 := Tryz.zeroValue191
  t46 := Tryz.underlying192
  a46 := Tryz.isAgg192
  z46 := Tryz.sizeOf192
  v46 := Tryz.zeroValue192
  t50 := Tryz.underlying187
  a50 := Tryz.isAgg187
  z50 := Tryz.sizeOf187
  v50 := Tryz.zeroValue187
  t53 := Tryz.underlying198
  a53 := Tryz.isAgg198
  z53 := Tryz.sizeOf198
  v53 := Tryz.zeroValue198
  t55 := Tryz.underlying200
  a55 := Tryz.isAgg200
  z55 := Tryz.sizeOf200
  v55 := Tryz.zeroValue200
  t66 := Tryz.underlying206
  a66 := Tryz.isAgg206
  z66 := Tryz.sizeOf206
  v66 := Tryz.zeroValue206
  t70 := Tryz.underlying210
  a70 := Tryz.isAgg210
  z70 := Tryz.sizeOf210
  v70 := Tryz.zeroValue210
  t76 := Tryz.underlying214
  a76 := Tryz.isAgg214
  z76 := Tryz.sizeOf214
  v76 := Tryz.zeroValue214
  t77 := Tryz.underlying215
  a77 := Tryz.isAgg215
  z77 := Tryz.sizeOf215
  v77 := Tryz.zeroValue215 }
def lay_findKind_ren : Go.Shelf.Ren := ⟨fun | 6 => 55 | n => n, fun | 22 => 100 | 23 => 110 | 25 => 111 | 3 => 3 | 0 => 0 | 4 => 4 | n => n, fun | n => n⟩
theorem lay_findKind : Go.Proofs.SlLaysH0.n6 Tryz.prog lay_findKind_ren := {
  mixed := by kernel_rfl
  f6 := ⟨Tryz.f55.name, by decide, Tryz.func55.trans (congrArg some (by kernel_rfl))⟩
  t0 := Tryz.underlying0
  a0 := Tryz.isAgg0
  z0 := Tryz.sizeOf0
  v0 := Tryz.zeroValue0
  t3 := Tryz.underlying3
  a3 := Tryz.isAgg3
  z3 := Tryz.sizeOf3
  v3 := Tryz.zeroValue3
  t4 := Tryz.underlying4
  a4 := Tryz.isAgg4
  z4 := Tryz.sizeOf4
  v4 := Tryz.zeroValue4
  t22 := Tryz.underlying100
  a22 := Tryz.isAgg100
  z22 := Tryz.sizeOf100
  v22 := Tryz.zeroValue100
  t25 := Tryz.underlying111
  a25 := Tryz.isAgg111
  z25 := Tryz.sizeOf111
  v25 := Tryz.zeroValue111 }
def lay_equalK_ren : Go.Shelf.Ren := ⟨fun | 8 => 116 | n => n, fun | 22 => 41 | 24 => 32 | 4 => 4 | 3 => 3 | 0 => 0 | n => n, fun | n => n⟩
theorem lay_equalK : Go.Proofs.SlLaysQ.n8 Tryz.prog lay_equalK_ren := {
  mixed := by kernel_rfl
  f8 := ⟨Tryz.f116.name, by decide, Tryz.func116.trans (congrArg some (by kernel_rfl))⟩
  t0 := Tryz.underlying0
  a0 := Tryz.isAgg0
  z0 := Tryz.sizeOf0
  v0 := Tryz.zeroValue0
  t3 := Tryz.underlying3
  a3 := Tryz.isAgg3
  z3 := Tryz.sizeOf3
  v3 := Tryz.zeroValue3
  t4 := Tryz.underlying4
  a4 := Tryz.isAgg4
  z4 := Tryz.sizeOf4
  v4 := Tryz.zeroValue4
  t22 := Tryz.underlying41
  a22 := Tryz.isAgg41
  z22 := Tryz.sizeOf41
  v22 := Tryz.zeroValue41 }
def lay_indexBool_ren : Go.Shelf.Ren := ⟨fun | 29 => 127 | n => n, fun | 22 => 180 | 23 => 4 | 3 => 3 | 0 => 0 | 4 => 4 | n => n, fun | n => n⟩
theorem lay_indexBool : Go.Proofs.SlLaysE.n29 Tryz.prog lay_indexBool_ren := {
  mixed := by kernel_rfl
  f29 := ⟨Tryz.f127.name, by decide, Tryz.func127.trans (congrArg some (by kernel_rfl))⟩
  t0 := Tryz.underlying0
  a0 := Tryz.isAgg0
  z0 := Tryz.sizeOf0
  v0 := Tryz.zeroValue0
  t3 := Tryz.underlying3
  a3 := Tryz.isAgg3
  z3 := Tryz.sizeOf3
  v3 := Tryz.zeroValue3
  t4 := Tryz.underlying4
  a4 := Tryz.isAgg4
  z4 := Tryz.sizeOf4
  v4 := Tryz.zeroValue4
  t22 := Tryz.underlying180
  a22 := Tryz.isAgg180
  z22 := Tryz.sizeOf180
  v22 := Tryz.zeroValue180
  a23 := Tryz.isAgg4
  z23 := Tryz.sizeOf4 }
def lay_cloneB_ren : Go.Shelf.Ren := ⟨fun | 41 => 40 | n => n, fun | 22 => 22 | 23 => 46 | 4 => 4 | n => n, fun | n => n⟩
theorem lay_cloneB : Go.Proofs.SlLaysE0.n41 Tryz.prog lay_cloneB_ren := {
  mixed := by kernel_rfl
  f41 := ⟨Tryz.f40.name, by decide, Tryz.func40.trans (congrArg some (by kernel_rfl))⟩
  t4 := Tryz.underlying4
  a4 := Tryz.isAgg4
  z4 := Tryz.sizeOf4
  v4 := Tryz.zeroValue4
  t22 := Tryz.underlying22
  a22 := Tryz.isAgg22
  z22 := Tryz.sizeOf22
  v22 := Tryz.zeroValue22 }
end Go.Proofs.YtpompeancmonbaaGreat

/- The walk of the twine along missing bars, plain: it never passes a bar twice, so it ends at an odd knot. Conditions: the list has each bar once. -/
namespace Go.Proofs.YtpompeancmonbaaGreat

theorem lget_mem (D : List Bar) (k : Knot) {a : Nat} (ha : a < 4) : lget (legsAt D k) a = true ↔ armB k a ∈ D := by
  obtain rfl | rfl | rfl | rfl : a = 0 ∨ a = 1 ∨ a = 2 ∨ a = 3 := by omega
  all_goals simp [lget, legsAt]
theorem onw_spec (l : Legs) (b : Nat) (hb : b < 4) (he : oddL l = false) (hm : lget l b = true) : onw l b < 4 ∧ onw l b ≠ b ∧ lget l (onw l b) = true ∧ onw l (onw l b) = b := by
  obtain ⟨p, q, r, s⟩ := l
  obtain rfl | rfl | rfl | rfl : b = 0 ∨ b = 1 ∨ b = 2 ∨ b = 3 := by omega
  all_goals (revert p q r s; decide)
theorem armK_rev (k : Knot) {a : Nat} (ha : a < 4) : armK (armK k a) (3 - a) = k := by
  obtain ⟨x, y⟩ := k
  obtain rfl | rfl | rfl | rfl : a = 0 ∨ a = 1 ∨ a = 2 ∨ a = 3 := by omega
  all_goals first | rfl | (simp only [armK]; ext <;> simp <;> omega)
theorem armB_rev (k : Knot) {a : Nat} (ha : a < 4) : armB (armK k a) (3 - a) = armB k a := by
  obtain ⟨x, y⟩ := k
  obtain rfl | rfl | rfl | rfl : a = 0 ∨ a = 1 ∨ a = 2 ∨ a = 3 := by omega
  all_goals first | rfl | (simp only [armK, armB]; ext <;> simp <;> omega)
theorem armK_ne (k : Knot) {a : Nat} (ha : a < 4) : armK k a ≠ k := by
  obtain ⟨x, y⟩ := k
  obtain rfl | rfl | rfl | rfl : a = 0 ∨ a = 1 ∨ a = 2 ∨ a = 3 := by omega
  all_goals (simp only [armK]; intro h; have := congrArg Prod.snd h; simp at this; omega)

/-- a bar that is followed from a knot, by the arm's number -/
abbrev Dart := Knot × Nat
def barD (d : Dart) : Bar := armB d.1 d.2
def revD (d : Dart) : Dart := (armK d.1 d.2, 3 - d.2)
def nxt (D : List Bar) (d : Dart) : Dart := (armK d.1 d.2, onw (legsAt D (armK d.1 d.2)) (3 - d.2))
def dart (D : List Bar) (d : Dart) : Nat → Dart
  | 0 => d
  | i + 1 => nxt D (dart D d i)
def evn (D : List Bar) (k : Knot) : Prop := oddL (legsAt D k) = false

theorem revD_revD {d : Dart} (ha : d.2 < 4) : revD (revD d) = d := by
  obtain ⟨k, a⟩ := d
  simp only [revD]
  rw [armK_rev k ha, show 3 - (3 - a) = a by simp at ha; omega]
theorem barD_rev {d : Dart} (ha : d.2 < 4) : barD (revD d) = barD d := armB_rev d.1 ha
theorem barD_inj {d e : Dart} (hd : d.2 < 4) (he : e.2 < 4) (h : barD d = barD e) : e = d ∨ e = revD d := by
  obtain ⟨⟨x, y⟩, a⟩ := d
  obtain ⟨⟨x', y'⟩, a'⟩ := e
  simp only [barD] at h
  simp only at hd he
  obtain rfl | rfl | rfl | rfl : a = 0 ∨ a = 1 ∨ a = 2 ∨ a = 3 := by omega
  all_goals
    obtain rfl | rfl | rfl | rfl : a' = 0 ∨ a' = 1 ∨ a' = 2 ∨ a' = 3 := by omega
    all_goals
      simp only [armB, Prod.mk.injEq, and_true] at h
      simp only [revD, armK, Prod.mk.injEq, and_true]
      omega

section
variable {D : List Bar} {d : Dart} {n : Nat}
theorem step_ok {e : Dart} (ha : e.2 < 4) (hb : barD e ∈ D) (he : evn D (armK e.1 e.2)) :
    (nxt D e).2 < 4 ∧ barD (nxt D e) ∈ D ∧ (nxt D e).2 ≠ 3 - e.2 ∧ onw (legsAt D (armK e.1 e.2)) (nxt D e).2 = 3 - e.2 := by
  have hm : lget (legsAt D (armK e.1 e.2)) (3 - e.2) = true := (lget_mem D _ (by omega)).2 (by rw [armB_rev _ ha]; exact hb)
  obtain ⟨h1, h2, h3, h4⟩ := onw_spec _ _ (by omega) he hm
  exact ⟨h1, (lget_mem D _ h1).1 h3, h2, h4⟩
theorem nxt_rev_nxt {e : Dart} (ha : e.2 < 4) (hb : barD e ∈ D) (he : evn D (armK e.1 e.2)) : nxt D (revD (nxt D e)) = revD e := by
  obtain ⟨h1, _, _, h4⟩ := step_ok ha hb he
  have e1 : armK (revD (nxt D e)).1 (revD (nxt D e)).2 = armK e.1 e.2 := armK_rev _ h1
  unfold nxt at e1 ⊢
  rw [e1]
  show (armK e.1 e.2, onw (legsAt D (armK e.1 e.2)) (3 - (3 - (nxt D e).2))) = (armK e.1 e.2, 3 - e.2)
  rw [show 3 - (3 - (nxt D e).2) = (nxt D e).2 by omega, h4]
theorem nxt_inj {e f : Dart} (ha : e.2 < 4) (hb : barD e ∈ D) (he : evn D (armK e.1 e.2)) (ha' : f.2 < 4) (hb' : barD f ∈ D) (h : nxt D e = nxt D f) : e = f := by
  have hk : armK e.1 e.2 = armK f.1 f.2 := congrArg Prod.fst h
  have h1 := nxt_rev_nxt ha hb he
  have h2 := nxt_rev_nxt ha' hb' (hk ▸ he)
  rw [h, h2] at h1
  rw [← revD_revD ha, ← revD_revD ha', h1]

theorem dart_ok (ha : d.2 < 4) (h0 : barD d ∈ D) (hev : ∀ t, 0 < t → t ≤ n → evn D (dart D d t).1) : ∀ t, t ≤ n → (dart D d t).2 < 4 ∧ barD (dart D d t) ∈ D
  | 0, _ => ⟨ha, h0⟩
  | t + 1, ht => by
    obtain ⟨h1, h2⟩ := dart_ok ha h0 hev t (by omega)
    obtain ⟨h3, h4, _⟩ := step_ok h1 h2 (hev (t + 1) (by omega) ht)
    exact ⟨h3, h4⟩
theorem dart_ne (ha : d.2 < 4) (h0 : barD d ∈ D) (ho : ¬ evn D d.1) (hev : ∀ t, 0 < t → t ≤ n → evn D (dart D d t).1) : ∀ i j, i < j → j ≤ n → dart D d i ≠ dart D d j
  | 0, j, hij, hj, e => ho (by have := hev j hij hj; rw [← e] at this; exact this)
  | i + 1, 0, hij, _, _ => by omega
  | i + 1, j + 1, hij, hj, e => by
    obtain ⟨a1, b1⟩ := dart_ok ha h0 hev i (by omega)
    obtain ⟨a2, b2⟩ := dart_ok ha h0 hev j (by omega)
    exact dart_ne ha h0 ho hev i j (by omega) (by omega) (nxt_inj a1 b1 (hev (i + 1) (by omega) (by omega)) a2 b2 e)
theorem dart_rev_ne (ha : d.2 < 4) (h0 : barD d ∈ D) (hev : ∀ t, 0 < t → t ≤ n → evn D (dart D d t).1) : ∀ m i, i + 1 + m ≤ n → dart D d (i + 1 + m) ≠ revD (dart D d i)
  | 0, i, hj, e => by
    obtain ⟨a1, b1⟩ := dart_ok ha h0 hev i (by omega)
    obtain ⟨_, _, h, _⟩ := step_ok a1 b1 (hev (i + 1) (by omega) (by omega))
    exact h (congrArg Prod.snd e)
  | 1, i, hj, e => by
    obtain ⟨a1, b1⟩ := dart_ok ha h0 hev i (by omega)
    obtain ⟨a2, b2⟩ := dart_ok ha h0 hev (i + 1) (by omega)
    have h1 := nxt_rev_nxt a1 b1 (hev (i + 1) (by omega) (by omega))
    have h2 : nxt D (revD (dart D d (i + 1))) = nxt D (dart D d (i + 1)) := h1.trans e.symm
    have h3 := nxt_inj (e := revD (dart D d (i + 1))) (by simp only [revD]; omega) (by rw [barD_rev a2]; exact b2) (by
      show evn D (armK (armK _ _) (3 - _)); rw [armK_rev _ a2]; exact hev (i + 1) (by omega) (by omega)) a2 b2 h2
    exact armK_ne _ a2 (congrArg Prod.fst h3)
  | m + 2, i, hj, e => by
    obtain ⟨a1, b1⟩ := dart_ok ha h0 hev i (by omega)
    obtain ⟨a2, b2⟩ := dart_ok ha h0 hev (i + 1) (by omega)
    obtain ⟨a3, b3⟩ := dart_ok ha h0 hev (i + 1 + 1 + m) (by omega)
    have h1 := nxt_rev_nxt a1 b1 (hev (i + 1) (by omega) (by omega))
    have h2 : nxt D (revD (dart D d (i + 1))) = nxt D (dart D d (i + 1 + 1 + m)) := h1.trans (e.symm.trans (by
      rw [show i + 1 + (m + 2) = (i + 1 + 1 + m) + 1 by omega]; rfl))
    have h3 := nxt_inj (e := revD (dart D d (i + 1))) (by simp only [revD]; omega) (by rw [barD_rev a2]; exact b2) (by
      show evn D (armK (armK _ _) (3 - _)); rw [armK_rev _ a2]; exact hev (i + 1) (by omega) (by omega)) a3 b3 h2
    exact dart_rev_ne ha h0 hev m (i + 1) (by omega) h3.symm
theorem bars_ne (ha : d.2 < 4) (h0 : barD d ∈ D) (ho : ¬ evn D d.1) (hev : ∀ t, 0 < t → t ≤ n → evn D (dart D d t).1) {i j : Nat} (hij : i < j) (hj : j ≤ n) : barD (dart D d i) ≠ barD (dart D d j) := by
  intro h
  obtain ⟨a1, b1⟩ := dart_ok ha h0 hev i (by omega)
  obtain ⟨a2, b2⟩ := dart_ok ha h0 hev j hj
  rcases barD_inj a1 a2 h with e | e
  · exact dart_ne ha h0 ho hev i j hij hj e.symm
  · have := dart_rev_ne ha h0 hev (j - (i + 1)) i (by omega)
    rw [show i + 1 + (j - (i + 1)) = j by omega] at this
    exact this e
end

theorem length_le_of_sub {α : Type} [DecidableEq α] : ∀ {l D : List α}, l.Nodup → (∀ x ∈ l, x ∈ D) → l.length ≤ D.length
  | [], _, _, _ => Nat.zero_le _
  | x :: r, D, hn, hs => by
    obtain ⟨h1, h2⟩ := List.nodup_cons.1 hn
    have hx : x ∈ D := hs x (by simp)
    have h3 := length_le_of_sub (l := r) (D := D.erase x) h2 (fun y hy => (List.mem_erase_of_ne (by rintro rfl; exact h1 hy)).2 (hs y (by simp [hy])))
    rw [List.length_erase_of_mem hx] at h3
    have := List.length_pos_of_mem hx
    simp only [List.length_cons]
    omega
section
variable {D : List Bar} {d : Dart} {n : Nat}
/-- the bars that the first n darts follow -/
def pathB (D : List Bar) (d : Dart) (n : Nat) : List Bar := (List.range n).map fun t => barD (dart D d t)
def pathK (D : List Bar) (d : Dart) (n : Nat) : List Knot := (List.range n).map fun t => (dart D d t).1
theorem pathB_nodup (ha : d.2 < 4) (h0 : barD d ∈ D) (ho : ¬ evn D d.1) (hev : ∀ t, 0 < t → t < n → evn D (dart D d t).1) : (pathB D d n).Nodup := by
  unfold pathB
  rw [List.nodup_iff_pairwise_ne, List.pairwise_map]
  refine List.Pairwise.imp_of_mem ?_ (List.pairwise_lt_range (n := n))
  intro i j hi hj hij
  have hj' := List.mem_range.1 hj
  exact bars_ne (n := n - 1) ha h0 ho (fun t h1 h2 => hev t h1 (by omega)) hij (by omega)
theorem pathB_sub (ha : d.2 < 4) (h0 : barD d ∈ D) (hev : ∀ t, 0 < t → t < n → evn D (dart D d t).1) : ∀ x ∈ pathB D d n, x ∈ D := by
  intro x hx
  obtain ⟨t, ht, rfl⟩ := List.mem_map.1 hx
  have ht' := List.mem_range.1 ht
  exact (dart_ok (n := n - 1) ha h0 (fun t h1 h2 => hev t h1 (by omega)) t (by omega)).2
theorem path_le (ha : d.2 < 4) (h0 : barD d ∈ D) (ho : ¬ evn D d.1) (hev : ∀ t, 0 < t → t < n → evn D (dart D d t).1) : n ≤ D.length := by
  have := length_le_of_sub (pathB_nodup ha h0 ho hev) (pathB_sub ha h0 hev)
  simpa [pathB] using this
/-- L is where the walk ends -/
structure WEnd (D : List Bar) (d : Dart) (L : Nat) : Prop where
  pos : 0 < L
  odd : ¬ evn D (dart D d L).1
  even : ∀ t, 0 < t → t < L → evn D (dart D d t).1
theorem WEnd.le {L : Nat} (h : WEnd D d L) (ha : d.2 < 4) (h0 : barD d ∈ D) (ho : ¬ evn D d.1) : L ≤ D.length := path_le ha h0 ho h.even
theorem WEnd.unique {L L' : Nat} (h : WEnd D d L) (h' : WEnd D d L') : L = L' := by
  rcases Nat.lt_trichotomy L L' with hl | hl | hl
  · exact absurd (h'.even L h.pos hl) h.odd
  · exact hl
  · exact absurd (h.even L' h'.pos hl) h'.odd
theorem evn_or (D : List Bar) (k : Knot) : evn D k ∨ ¬ evn D k := by unfold evn; cases oddL (legsAt D k) <;> simp
theorem ends_or (D : List Bar) (d : Dart) : ∀ m, (∀ t, 0 < t → t ≤ m → evn D (dart D d t).1) ∨ ∃ L, L ≤ m ∧ WEnd D d L
  | 0 => .inl fun t h1 h2 => by omega
  | m + 1 => by
    rcases ends_or D d m with h | ⟨L, h1, h2⟩
    · rcases evn_or D (dart D d (m + 1)).1 with he | he
      · exact .inl fun t h1 h2 => by
          by_cases e : t = m + 1
          · rw [e]; exact he
          · exact h t h1 (by omega)
      · exact .inr ⟨m + 1, Nat.le_refl _, ⟨by omega, he, fun t h1 h2 => h t h1 (by omega)⟩⟩
    · exact .inr ⟨L, by omega, h2⟩
theorem walk_ends (ha : d.2 < 4) (h0 : barD d ∈ D) (ho : ¬ evn D d.1) : ∃ L, WEnd D d L := by
  rcases ends_or D d D.length with h | ⟨L, _, h⟩
  · have := path_le (n := D.length + 1) ha h0 ho (fun t h1 h2 => h t h1 (by omega))
    omega
  · exact ⟨L, h⟩
end

/-! ## as lists, to be computed -/
/-- the knots behind a dart, n of them at most, up to the first odd one -/
def wk (D : List Bar) : Nat → Dart → List Knot
  | 0, _ => []
  | n + 1, d => armK d.1 d.2 :: if oddL (legsAt D (armK d.1 d.2)) then [] else wk D n (nxt D d)
theorem dart_nxt (D : List Bar) (d : Dart) : ∀ t, dart D (nxt D d) t = dart D d (t + 1)
  | 0 => rfl
  | t + 1 => by show nxt D (dart D (nxt D d) t) = nxt D (dart D d (t + 1)); rw [dart_nxt D d t]
theorem wk_eq {D : List Bar} : ∀ (n L : Nat) (d : Dart), L ≤ n → WEnd D d L → d.1 :: wk D n d = pathK D d (L + 1)
  | 0, L, d, hL, h => by have := h.pos; omega
  | n + 1, L, d, hL, h => by
    unfold wk
    by_cases h1 : L = 1
    · subst h1
      have ho : oddL (legsAt D (armK d.1 d.2)) = true := by
        have := h.odd
        unfold evn at this
        simpa [dart, nxt] using this
      rw [if_pos ho]
      rfl
    · have hL1 := h.pos
      have he : oddL (legsAt D (armK d.1 d.2)) = false := h.even 1 (by omega) (by omega)
      rw [he, if_neg (by simp)]
      have ih := wk_eq n (L - 1) (nxt D d) (by omega) ⟨by omega, by
        rw [dart_nxt, show L - 1 + 1 = L by omega]; exact h.odd, fun t h1 h2 => by rw [dart_nxt]; exact h.even (t + 1) (by omega) (by omega)⟩
      have e1 : armK d.1 d.2 :: wk D n (nxt D d) = pathK D (nxt D d) L := by
        have := ih
        rw [show L - 1 + 1 = L by omega] at this
        exact this
      rw [e1]
      unfold pathK
      rw [List.range_succ_eq_map, List.map_cons, List.map_map]
      congr 1
      refine List.map_congr_left fun t _ => ?_
      rw [dart_nxt]; rfl
/-- the first missing arm of a knot -/
def arm0 (D : List Bar) (k : Knot) : Nat := if armB k 0 ∈ D then 0 else if armB k 1 ∈ D then 1 else if armB k 2 ∈ D then 2 else 3
def walkL (D : List Bar) (k : Knot) : List Knot := k :: wk D D.length (k, arm0 D k)
theorem arm0_ok {D : List Bar} {k : Knot} (h : legsAt D k ≠ noLegs) : arm0 D k < 4 ∧ barD (k, arm0 D k) ∈ D := by
  unfold arm0 barD
  by_cases h0 : armB k 0 ∈ D
  · simp [h0]
  · by_cases h1 : armB k 1 ∈ D
    · simp [h0, h1]
    · by_cases h2 : armB k 2 ∈ D
      · simp [h0, h1, h2]
      · by_cases h3 : armB k 3 ∈ D
        · simp [h0, h1, h2, h3]
        · exfalso; apply h; simp [legsAt, h0, h1, h2, h3, noLegs]
theorem odd_ne {D : List Bar} {k : Knot} (h : ¬ evn D k) : legsAt D k ≠ noLegs := fun e => h (by unfold evn; rw [e]; decide)
theorem walkL_eq {D : List Bar} {k : Knot} (ho : ¬ evn D k) : ∃ L, WEnd D (k, arm0 D k) L ∧ L ≤ D.length ∧ walkL D k = pathK D (k, arm0 D k) (L + 1) := by
  obtain ⟨ha, hb⟩ := arm0_ok (odd_ne ho)
  obtain ⟨L, hL⟩ := walk_ends ha hb ho
  exact ⟨L, hL, hL.le ha hb ho, wk_eq _ _ _ (hL.le ha hb ho) hL⟩
end Go.Proofs.YtpompeancmonbaaGreat

/- Nets and knots in their order, plain; what a net without an error is. Conditions: none. -/
import Derived.Test.YtkkefahobjlagaaGreatDoorQ05
import Derived.Shelf.SlSortCmp.NoneTotal
import Derived.Shelf.SlGeneric
import Derived.Shelf.SlLaysF0
import Derived.Shelf.SlLaysH0
import Derived.Shelf.SlLaysE0
import Derived.Shelf.SlLaysE
import Derived.Shelf.SlLaysQ
import Derived.Ground.SlsfProg
import Derived.Ground.SlgfProg
import Derived.Ground.SlgqProg
import Derived.Ground.SlgnProg
import Derived.Test.YtkkefahobjlagaaGreatDoorProg
namespace Go.Proofs.YtkkefahobjlagaaGreatDoor
open Go.RowKit
set_option maxHeartbeats 2000000
set_option maxRecDepth 100000
@[go_sem] theorem store_func (P : Program) (w : World) (p : Addr) (f : Fn) (a b : Array Value) : (store p (.func f a b)).run P w = match w.cell? p with
      | some _ => if w.frozen? p then .halt (.unsupported (.unsafePointer "a write to bytes that a string shares")) w else .ok () (w.setCell p (.func f a b))
      | none => match w.farStore P p (.func f a b) (Mode.plain == .atomic) with
        | .ok (w', _) => .ok () w'
        | .error h => .halt h w := run_store P w p (.func f a b) .plain rfl
def BarOk (b : Bar) : Prop := (-200000 ≤ b.1 ∧ b.1 ≤ 200000) ∧ (-200000 ≤ b.2.1 ∧ b.2.1 ≤ 200000) ∧ (b.2.2 = 1 ∨ b.2.2 = -1)
def bltP (a b : Bar) : Prop := barLt a.1 a.2.1 a.2.2 b.1 b.2.1 b.2.2 = true
theorem bltP_iff (a b : Bar) : bltP a b ↔ a.2.1 < b.2.1 ∨ a.2.1 = b.2.1 ∧ (a.1 < b.1 ∨ a.1 = b.1 ∧ a.2.2 < b.2.2) := by simp [bltP, barLt]
theorem bltP_trans {a b c : Bar} (h : bltP a b) (h' : bltP b c) : bltP a c := by
 rw [bltP_iff] at *
 omega
theorem bltP_irrefl (a : Bar) : ¬ bltP a a := by
 rw [bltP_iff]
 omega
theorem barE_ok {x y s : Int} (h : barE x y s = 0) : BarOk (x, y, s) := by
 unfold barE at h
 split at h
 ·rename_i h1
  exact absurd h (by simpa using h1)
 ·rename_i h1
  obtain ⟨a1, a2, a3, a4, _⟩ := knotE_zero (by simpa using h1)
  split at h
  ·cases h
  ·rename_i h2
   refine ⟨⟨by show -200000 ≤ x; omega, by show x ≤ 200000; omega⟩, ⟨by show -200000 ≤ y; omega, by show y ≤ 200000; omega⟩, ?_⟩
   show s = 1 ∨ s = -1
   omega
theorem netGo_ok : ∀ (l : List Bar) (p : Option Bar), netGo p l = 0 → (∀ b ∈ l, BarOk b) ∧ l.Pairwise bltP ∧ ∀ q, p = some q → ∀ b ∈ l, bltP q b
 | [], _, _ => ⟨by simp, List.Pairwise.nil, by simp⟩
 | b :: r, p, h => by
  unfold netGo at h
  split at h
  ·rename_i h1
   exact absurd h h1
  ·rename_i h1
   split at h
   ·cases h
   ·rename_i h2
    obtain ⟨i1, i2, i3⟩ := netGo_ok r (some b) h
    have hq : ∀ q, p = some q → bltP q b := fun q hq => by
     subst hq
     simpa [bltP] using h2
    refine ⟨?_, List.Pairwise.cons (i3 b rfl) i2, fun q hp c hc => ?_⟩
    ·intro c hc
     rcases List.mem_cons.1 hc with rfl | hc
     ·exact barE_ok (by simpa using h1)
     ·exact i1 c hc
    ·rcases List.mem_cons.1 hc with rfl | hc
     ·exact hq q hp
     ·exact bltP_trans (hq q hp) (i3 b rfl c hc)
structure NetOk (l : List Bar) : Prop where
 len : l.length ≤ 4096
 ok : ∀ b ∈ l, BarOk b
 sorted : l.Pairwise bltP
theorem NetOk.nodup {l : List Bar} (h : NetOk l) : l.Nodup := h.sorted.imp fun hab e => by subst e; exact bltP_irrefl _ hab
theorem netE_ok {l : List Bar} (h : netE l = 0) : NetOk l := by
 unfold netE at h
 split at h
 ·cases h
 ·rename_i h1
  obtain ⟨i1, i2, _⟩ := netGo_ok l none h
  exact ⟨by omega, i1, i2⟩
theorem sorted_unique {α : Type} {R : α → α → Prop} (irr : ∀ a, ¬ R a a) (tr : ∀ a b c, R a b → R b c → R a c) : ∀ {l r : List α}, l.Pairwise R → r.Pairwise R → (∀ x, x ∈ l ↔ x ∈ r) → l = r
 | [], [], _, _, _ => rfl
 | [], y :: r, _, _, h => by have := (h y).2 (by simp); simp at this
 | x :: l, [], _, _, h => by have := (h x).1 (by simp); simp at this
 | x :: l, y :: r, h1, h2, h => by
  obtain ⟨p1, p2⟩ := List.pairwise_cons.1 h1
  obtain ⟨q1, q2⟩ := List.pairwise_cons.1 h2
  have hxy : x = y := by
   rcases List.mem_cons.1 ((h x).1 (by simp)) with e | e
   ·exact e
   ·rcases List.mem_cons.1 ((h y).2 (by simp)) with e' | e'
    ·exact e'.symm
    ·exact absurd (tr _ _ _ (q1 _ e) (p1 _ e')) (irr _)
  subst hxy
  have ht : ∀ z, z ∈ l ↔ z ∈ r := fun z => by
   constructor
   ·intro hz
    rcases List.mem_cons.1 ((h z).1 (by simp [hz])) with e | e
    ·subst e; exact absurd (p1 _ hz) (irr _)
    ·exact e
   ·intro hz
    rcases List.mem_cons.1 ((h z).2 (by simp [hz])) with e | e
    ·subst e; exact absurd (q1 _ hz) (irr _)
    ·exact e
  rw [sorted_unique irr tr p2 q2 ht]
def kltP (a b : Knot) : Prop := a.2 < b.2 ∨ a.2 = b.2 ∧ a.1 < b.1
instance (a b : Knot) : Decidable (kltP a b) := inferInstanceAs (Decidable (a.2 < b.2 ∨ a.2 = b.2 ∧ a.1 < b.1))
theorem kltP_irr (a : Knot) : ¬ kltP a a := by unfold kltP; omega
theorem kltP_tr (a b c : Knot) : kltP a b → kltP b c → kltP a c := by unfold kltP; omega
theorem kltP_tri {a b : Knot} (h : ¬ kltP a b) (hne : a ≠ b) : kltP b a := by
 unfold kltP at h ⊢
 have : ¬ (a.1 = b.1 ∧ a.2 = b.2) := fun ⟨h1, h2⟩ => hne (Prod.ext h1 h2)
 omega
def insK : List Knot → Knot → List Knot
 | [], k => [k]
 | x :: r, k => if kltP x k then x :: insK r k else if x = k then x :: r else k :: x :: r
theorem insK_mem (k y : Knot) : ∀ l, y ∈ insK l k ↔ y = k ∨ y ∈ l
 | [] => by simp [insK]
 | x :: r => by
  unfold insK
  split
  ·rw [List.mem_cons, insK_mem k y r, List.mem_cons]
   constructor
   ·rintro (h | h | h) <;> simp [h]
   ·rintro (h | h | h) <;> simp [h]
  ·split
   ·rename_i h
    subst h
    simp
   ·simp
theorem insK_sorted (k : Knot) : ∀ {l : List Knot}, l.Pairwise kltP → (insK l k).Pairwise kltP
 | [], _ => by simp [insK]
 | x :: r, h => by
  obtain ⟨h1, h2⟩ := List.pairwise_cons.1 h
  unfold insK
  split
  ·rename_i hx
   refine List.pairwise_cons.2 ⟨fun y hy => ?_, insK_sorted k h2⟩
   rcases (insK_mem k y r).1 hy with rfl | hy
   ·exact hx
   ·exact h1 y hy
  ·rename_i hx
   split
   ·exact h
   ·rename_i hne
    refine List.pairwise_cons.2 ⟨fun y hy => ?_, h⟩
    have := kltP_tri hx hne
    rcases List.mem_cons.1 hy with rfl | hy
    ·exact this
    ·exact kltP_tr _ _ _ this (h1 y hy)
def holeIn (o : List Knot) (D : List Bar) : List Knot := D.foldl (fun o b => insK (insK o (lowK b)) (uppK b)) o
def holeK (D : List Bar) : List Knot := holeIn [] D
theorem holeIn_mem (k : Knot) : ∀ (D : List Bar) (o : List Knot), k ∈ holeIn o D ↔ k ∈ o ∨ ∃ b ∈ D, k = lowK b ∨ k = uppK b
 | [], o => by simp [holeIn]
 | b :: D, o => by
  show k ∈ holeIn (insK (insK o (lowK b)) (uppK b)) D ↔ _
  rw [holeIn_mem k D, insK_mem, insK_mem]
  simp only [List.mem_cons, exists_eq_or_imp]
  constructor
  ·rintro ((h | h | h) | h)
   ·exact .inr (.inl (.inr h))
   ·exact .inr (.inl (.inl h))
   ·exact .inl h
   ·exact .inr (.inr h)
  ·rintro (h | (h | h) | h)
   ·exact .inl (.inr (.inr h))
   ·exact .inl (.inr (.inl h))
   ·exact .inl (.inl h)
   ·exact .inr h
theorem holeIn_sorted : ∀ (D : List Bar) (o : List Knot), o.Pairwise kltP → (holeIn o D).Pairwise kltP
 | [], _, h => h
 | _ :: D, _, h => holeIn_sorted D _ (insK_sorted _ (insK_sorted _ h))
theorem holeK_sorted (D : List Bar) : (holeK D).Pairwise kltP := holeIn_sorted D [] List.Pairwise.nil
theorem sortedB_eq {l r : List Bar} (h1 : l.Pairwise bltP) (h2 : r.Pairwise bltP) (h : ∀ x, x ∈ l ↔ x ∈ r) : l = r := sorted_unique bltP_irrefl (fun _ _ _ => bltP_trans) h1 h2 h
theorem sortedB_nodup {l : List Bar} (h : l.Pairwise bltP) : l.Nodup := h.imp fun hab e => by subst e; exact bltP_irrefl _ hab
theorem sortedK_nodup {l : List Knot} (h : l.Pairwise kltP) : l.Nodup := h.imp fun hab e => by subst e; exact kltP_irr _ hab
instance (a b : Bar) : Decidable (bltP a b) := inferInstanceAs (Decidable (barLt a.1 a.2.1 a.2.2 b.1 b.2.1 b.2.2 = true))
def hasb (l : List Bar) (b : Bar) : Bool := decide (b ∈ l)
end Go.Proofs.YtkkefahobjlagaaGreatDoor
namespace Go.Proofs.YtkkefahobjlagaaGreatDoor
open Go.RowKit Go.Sort
set_option maxHeartbeats 2000000
set_option maxRecDepth 100000
def Grw (w w' : World) : Prop := ∃ q os, w' = grow (w.drewN q) os
theorem Grw.refl (w : World) : Grw w w := ⟨0, #[], by simp [grow, World.drewN]⟩
theorem Grw.alloc {w W : World} (h : Grw w W) (o : Obj) : Grw w (W.alloc o) := by
 obtain ⟨q, os, rfl⟩ := h
 exact ⟨q, os.push o, by simp [grow, World.drewN, World.alloc]⟩
def barCmpM (x y s x' y' s' : Int) : Int := firstI [cmpI y y', cmpI x x', cmpI s s']
end Go.Proofs.YtkkefahobjlagaaGreatDoor
namespace Go.Proofs.YtkkefahobjlagaaGreatDoor
open Go.Shelf
def lay_cloneY_ren : Go.Shelf.Ren := ⟨fun | 41 => 174 | n => n, fun | 22 => 160 | 23 => 5 | 4 => 4 | n => n, fun | n => n⟩
theorem lay_cloneY : Go.Proofs.SlLaysE0.n41 Tryz.prog lay_cloneY_ren := {
 mixed := by kernel_rfl
 f41 := ⟨Tryz.f174.name, by decide, Tryz.func174.trans (congrArg some (by kernel_rfl))⟩
 t4 := Tryz.underlying4
 a4 := Tryz.isAgg4
 z4 := Tryz.sizeOf4
 v4 := Tryz.zeroValue4
 t22 := Tryz.underlying160
 a22 := Tryz.isAgg160
 z22 := Tryz.sizeOf160
 v22 := Tryz.zeroValue160 }
def lay_reverseE_ren : Go.Shelf.Ren := ⟨fun | 35 => 173 | n => n, fun | 22 => 28 | 23 => 107 | 3 => 3 | 4 => 4 | 0 => 0 | n => n, fun | n => n⟩
theorem lay_reverseE : Go.Proofs.SlLaysE0.n35 Tryz.prog lay_reverseE_ren := {
 mixed := by kernel_rfl
 f35 := ⟨Tryz.f173.name, by decide, Tryz.func173.trans (congrArg some (by kernel_rfl))⟩
 t0 := Tryz.underlying0
 a0 := Tryz.isAgg0
 z0 := Tryz.sizeOf0
 v0 := Tryz.zeroValue0
 t3 := Tryz.underlying3
 a3 := Tryz.isAgg3
 z3 := Tryz.sizeOf3
 v3 := Tryz.zeroValue3
 t4 := Tryz.underlying4
 a4 := Tryz.isAgg4
 z4 := Tryz.sizeOf4
 v4 := Tryz.zeroValue4
 t22 := Tryz.underlying28
 a22 := Tryz.isAgg28
 z22 := Tryz.sizeOf28
 v22 := Tryz.zeroValue28 }
def lay_reverseY_ren : Go.Shelf.Ren := ⟨fun | 35 => 175 | n => n, fun | 22 => 160 | 23 => 5 | 3 => 3 | 4 => 4 | 0 => 0 | n => n, fun | n => n⟩
theorem lay_reverseY : Go.Proofs.SlLaysE.n35 Tryz.prog lay_reverseY_ren := {
 mixed := by kernel_rfl
 f35 := ⟨Tryz.f175.name, by decide, Tryz.func175.trans (congrArg some (by kernel_rfl))⟩
 t0 := Tryz.underlying0
 a0 := Tryz.isAgg0
 z0 := Tryz.sizeOf0
 v0 := Tryz.zeroValue0
 t3 := Tryz.underlying3
 a3 := Tryz.isAgg3
 z3 := Tryz.sizeOf3
 v3 := Tryz.zeroValue3
 t4 := Tryz.underlying4
 a4 := Tryz.isAgg4
 z4 := Tryz.sizeOf4
 v4 := Tryz.zeroValue4
 t22 := Tryz.underlying160
 a22 := Tryz.isAgg160
 z22 := Tryz.sizeOf160
 v22 := Tryz.zeroValue160
 a23 := Tryz.isAgg5
 z23 := Tryz.sizeOf5 }
end Go.Proofs.YtkkefahobjlagaaGreatDoor
namespace Go.Proofs.YtkkefahobjlagaaGreatDoor
open Go.RowKit Go.Sort Go.Shelf
set_option maxHeartbeats 2000000
set_option maxRecDepth 100000
theorem flat_len {α : Type} {enc : α → List Value} {sz : Nat} (hk : ∀ x, (enc x).length = sz) : ∀ l : List α, (l.flatMap enc).length = l.length * sz
 | [] => by simp
 | x :: r => by rw [List.flatMap_cons, List.length_append, hk, flat_len hk r, List.length_cons, Nat.succ_mul]; omega
section
variable {α : Type} [Inhabited α] {enc : α → List Value} {sz : Nat} {e : TypeId} {w : World}
theorem flatK_get (hk : ∀ x, (enc x).length = sz) {l : List α} {t : Nat} (ht : t < l.length * sz) : (flatK enc sz l.toArray)[t]! = (l.flatMap enc)[t]! := by
 have hpos : 0 < sz := by
  rcases Nat.eq_zero_or_pos sz with h | h
  ·rw [h] at ht; simp at ht
  ·exact h
 have hd : t / sz < l.length := Nat.div_lt_of_lt_mul (by rw [Nat.mul_comm]; exact ht)
 have hm : t % sz < (enc l[t / sz]).length := by rw [hk]; exact Nat.mod_lt _ hpos
 have h := flat_get hk l (t / sz) l[t / sz] (t % sz) _ (List.getElem?_eq_getElem hd) (List.getElem?_eq_getElem hm)
 have hdm : t / sz * sz + t % sz = t := by rw [Nat.mul_comm]; exact Nat.div_add_mod t sz
 rw [hdm] at h
 rw [get_flatK _ _ _ _ (by simpa using ht), getElem!_pos l.toArray (t / sz) (by simpa using hd)]
 simp only [List.getElem_toArray]
 simp only [List.getElem!_eq_getElem?_getD, h, List.getElem?_eq_getElem hm]
theorem own_holds (hk : ∀ x, (enc x).length = sz) {base g cap : Nat} {l : List α} (h : Own enc sz base e w (.slice (some ⟨g, 0, none⟩) l.length cap) l) : HoldsK enc sz w g 0 l.toArray ∧ g < w.heap.size := by
 obtain ⟨hl, hc⟩ := h
 rcases hc with ⟨hv, _⟩ | ⟨g', cap', cur, hv, hg, hh, hnc, hcm, hcs, htk⟩
 ·cases hv
 ·obtain ⟨rfl, rfl⟩ : g = g' ∧ cap = cap' := by simpa using hv
  have hlt := (Array.getElem?_eq_some_iff.1 hh).1
  refine ⟨fun j hj => ?_, hlt⟩
  have hj' : j < l.length * sz := by simpa using hj
  refine ⟨?_, by simp [World.frozen?, hh]⟩
  rw [Nat.zero_add, cell_of_row w g j cur e (0, 0) hh, flatK_get hk hj', ← htk]
  have hj2 : j < cur.size := by rw [hcs]; exact Nat.lt_of_lt_of_le hj' (Nat.mul_le_mul_right _ hnc)
  simp [List.getElem!_eq_getElem?_getD, hj', hj2]
theorem own_sorted (hk : ∀ x, (enc x).length = sz) {base g cap : Nat} {l l' : List α} (h : Own enc sz base e w (.slice (some ⟨g, 0, none⟩) l.length cap) l) (hll : l'.length = l.length) (n : Nat) (os : Array Obj) :
  Own enc sz base e (sortWorldK enc sz w g 0 n l'.toArray os) (.slice (some ⟨g, 0, none⟩) l.length cap) l' ∧ w.grownBy (sortWorldK enc sz w g 0 n l'.toArray os) (some g) := by
 obtain ⟨hl, hc⟩ := h
 rcases hc with ⟨hv, _⟩ | ⟨g', cap', cur, hv, hg, hh, hnc, hcm, hcs, htk⟩
 ·cases hv
 ·obtain ⟨rfl, rfl⟩ : g = g' ∧ cap = cap' := by simpa using hv
  have hlt := (Array.getElem?_eq_some_iff.1 hh).1
  have hheap : ∀ k, k < w.heap.size → (sortWorldK enc sz w g 0 n l'.toArray os).heap[k]? = if g = k then some (.cells (putCells id 0 (flatK enc sz l'.toArray) cur) e (0, 0)) else w.heap[k]? := by
   intro k hk'
   have e1 : (sortWorldK enc sz w g 0 n l'.toArray os).heap[k]? = (mapBlock w g (putCells id 0 (flatK enc sz l'.toArray))).heap[k]? := by
    show (_ ++ os)[k]? = _
    rw [Array.getElem?_append_left (by simpa [putRowK, putRow, mapBlock, Sort.ahead] using hk')]
    rfl
   rw [e1]
   simp only [mapBlock, Array.getElem?_modify]
   by_cases hgk : g = k
   ·subst hgk
    simp [hh, onCells]
   ·simp [hgk]
  refine ⟨⟨by rw [flat_len hk, hll], .inr ⟨g, cap, putCells id 0 (flatK enc sz l'.toArray) cur, by rw [hll], hg, by rw [hheap g hlt, if_pos rfl], by omega, hcm, by simpa [putCells] using hcs, ?_⟩⟩, ?_⟩
  ·apply List.ext_getElem?
   intro t
   rw [List.getElem?_take]
   by_cases ht : t < l'.length * sz
   ·have ht2 : t < cur.size := by rw [hcs]; exact Nat.lt_of_lt_of_le ht (Nat.mul_le_mul_right _ (by omega))
    have h3 : t < (l'.flatMap enc).length := by rw [flat_len hk]; exact ht
    have h4 := flatK_get hk ht
    rw [List.getElem!_eq_getElem?_getD, List.getElem?_eq_getElem h3] at h4
    simp only [Option.getD_some] at h4
    rw [if_pos ht, List.getElem?_eq_getElem h3]
    simp only [putCells, Array.toList_mapIdx, List.getElem?_mapIdx, Array.getElem?_toList, Array.getElem?_eq_getElem ht2, Option.map_some, Nat.zero_le, true_and, Nat.zero_add, size_flatK, List.size_toArray, ht, if_true, Nat.sub_zero, id_eq]
    rw [h4]
   ·rw [if_neg ht, List.getElem?_eq_none (by rw [flat_len hk]; omega)]
  ·refine ⟨rfl, rfl, rfl, ?_, fun k hk' hne => ?_⟩
   ·show w.heap.size ≤ (_ ++ os).size
    rw [Array.size_append]
    simp [putRowK, putRow, mapBlock, Sort.ahead]
   ·rw [hheap k hk', if_neg (fun e => hne (by rw [e]))]
end
def cfB (a b : Bar) : Int := barCmpM a.1 a.2.1 a.2.2 b.1 b.2.1 b.2.2
theorem ltB_iff (a b : Bar) : ltOf cfB a b = true ↔ bltP a b := by
 rw [bltP_iff]
 unfold ltOf cfB barCmpM cmpI firstI firstI firstI firstI
 simp only [decide_eq_true_eq]
 repeat' split
 all_goals omega
theorem bltP_tri {a b : Bar} (h : ¬ bltP a b) (hne : a ≠ b) : bltP b a := by
 rw [bltP_iff] at h ⊢
 have : ¬ (a.1 = b.1 ∧ a.2.1 = b.2.1 ∧ a.2.2 = b.2.2) := fun ⟨h1, h2, h3⟩ => hne (Prod.ext h1 (Prod.ext h2 h3))
 omega
theorem swo_of {α : Type} {lt : α → α → Bool} {R : α → α → Prop} (hi : ∀ a b, lt a b = true ↔ R a b) (irr : ∀ a, ¬ R a a) (tr : ∀ a b c, R a b → R b c → R a c) (tri : ∀ a b, ¬ R a b → a ≠ b → R b a) : SWO lt where
 irrefl x := by
  have := irr x
  rw [← hi] at this
  simpa using this
 trans x y z h1 h2 := (hi _ _).2 (tr _ _ _ ((hi _ _).1 h1) ((hi _ _).1 h2))
 ntrans x y z h1 h2 := by
  have g1 : ¬ R x y := fun h => by rw [(hi _ _).2 h] at h1; cases h1
  have g2 : ¬ R y z := fun h => by rw [(hi _ _).2 h] at h2; cases h2
  have : ¬ R x z := fun h => by
   by_cases e : x = y
   ·subst e; exact g2 h
   ·by_cases e' : y = z
    ·subst e'; exact g1 h
    ·have r1 := tri _ _ g1 e
     have r2 := tri _ _ g2 e'
     exact irr x (tr _ _ _ h (tr _ _ _ r2 r1))
  cases hh : lt x z
  ·rfl
  ·exact absurd ((hi _ _).1 hh) this
theorem swoB : SWO (ltOf cfB) := swo_of ltB_iff bltP_irrefl (fun _ _ _ => bltP_trans) fun _ _ => bltP_tri
def srtB (l : List Bar) : List Bar := l.mergeSort fun x y => !(ltOf cfB) y x
theorem srtB_mem (l : List Bar) (x : Bar) : x ∈ srtB l ↔ x ∈ l := List.mem_mergeSort
theorem srtB_length (l : List Bar) : (srtB l).length = l.length := List.length_mergeSort l
theorem sorted_of {α : Type} {lt : α → α → Bool} {R : α → α → Prop} (hi : ∀ a b, lt a b = true ↔ R a b) (hS : SWO lt) (tri : ∀ a b, ¬ R a b → a ≠ b → R b a) (l : List α) :
  (l.mergeSort fun x y => !lt y x).Pairwise fun a b => a = b ∨ R a b := by
 have h := List.pairwise_mergeSort (le := fun x y => !lt y x) (fun a b c h1 h2 => by
  simp only [Bool.not_eq_eq_eq_not, Bool.not_true] at h1 h2 ⊢
  exact hS.ntrans _ _ _ h2 h1) (fun a b => by
  cases h1 : lt b a
  ·simp
  ·cases h2 : lt a b
   ·simp
   ·exact absurd (hS.trans _ _ _ h1 h2) (by rw [hS.irrefl]; simp)) l
 refine h.imp fun {a b} hab => ?_
 have g : ¬ R b a := fun hr => by rw [(hi _ _).2 hr] at hab; simp at hab
 by_cases e : a = b
 ·exact .inl e
 ·exact .inr (tri _ _ g (Ne.symm e))
theorem srtB_sorted {l : List Bar} (hn : l.Nodup) : (srtB l).Pairwise bltP := by
 have h1 := sorted_of ltB_iff swoB (fun _ _ => bltP_tri) l
 have h2 : (srtB l).Nodup := (List.mergeSort_perm l _).nodup_iff.2 hn
 exact (h1.and h2).imp fun ⟨h, hne⟩ => h.resolve_left hne
end Go.Proofs.YtkkefahobjlagaaGreatDoor

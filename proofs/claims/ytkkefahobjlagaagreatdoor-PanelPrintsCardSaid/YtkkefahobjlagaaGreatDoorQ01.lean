/- Small words for memory that every walk of this seat uses: a slice that reads as a list, a region that draws its order whose callees make memory, a block known whole. Conditions: none. -/
import Derived.WalkKit
import Derived.Deep.QuietTactic
import Derived.BigQuiet
import Derived.Lib.Hide
import Derived.Laws.OwnMore
import Derived.OwnWalk
import Derived.Carry
namespace Go.Proofs.YtkkefahobjlagaaGreatDoor
open Go.RowKit
def Bel (B : Nat) (w : World) : Type := { x : World // Below B w x }
instance {B : Nat} {w : World} : Nonempty (Bel B w) := ⟨⟨w, Below.refl B w⟩⟩
def Bel.val {B : Nat} {w : World} (g : Bel B w) : World := g.1
theorem Bel.below {B : Nat} {w : World} (g : Bel B w) : Below B w g.val := g.2
theorem Bel.cell {B : Nat} {w : World} (g : Bel B w) {a : Addr} (h : a.block < B) : g.val.cell? a = w.cell? a := g.2.cell h
@[go_sem] theorem Bel.cellAt {B : Nat} {w : World} (g : Bel B w) (b o : Nat) (h : b < B) : g.val.cell? ⟨b, o, none⟩ = w.cell? ⟨b, o, none⟩ := g.2.cell (p := ⟨b, o, none⟩) h
@[go_sem] theorem Bel.frozenAt {B : Nat} {w : World} (g : Bel B w) (b o : Nat) (h : b < B) : g.val.frozen? ⟨b, o, none⟩ = w.frozen? ⟨b, o, none⟩ := g.2.frozen (p := ⟨b, o, none⟩) h
theorem Bel.ex {B : Nat} {w w' : World} (h : Below B w w') : ∃ g : Bel B w, w' = g.val := ⟨⟨w', h⟩, rfl⟩
section
variable {α : Type} {w w' : World} {A : Option Addr} {l : List α} {enc : α → List Value} {sz : Nat}
def Rd (enc : α → List Value) (sz : Nat) (w : World) (A : Option Addr) (l : List α) : Prop :=
 ∀ i x, l[i]? = some x → ∃ b off, A = some ⟨b, off, none⟩ ∧ b < w.heap.size ∧ ∀ j u, (enc x)[j]? = some u → w.cell? ⟨b, off + i * sz + j, none⟩ = some u
theorem Rd.nil_ : Rd enc sz w A ([] : List α) := fun i x h => by simp at h
theorem Rd.below (h : Rd enc sz w A l) (hb : Below w.heap.size w w') : Rd enc sz w' A l := fun i x hx => by
 obtain ⟨b, off, e, hlt, hc⟩ := h i x hx
 exact ⟨b, off, e, Nat.lt_of_lt_of_le hlt hb.size, fun j u hu => (hb.cell (p := ⟨b, _, none⟩) hlt).trans (hc j u hu)⟩
theorem Rd.drew (h : Rd enc sz w A l) : Rd enc sz w.drew A l := h
theorem Rd.drewN (h : Rd enc sz w A l) (n : Nat) : Rd enc sz (w.drewN n) A l := h
theorem Rd.alloc (h : Rd enc sz w A l) (o : Obj) : Rd enc sz (w.alloc o) A l := h.below ((Below.refl _ w).alloc (Nat.le_refl _) o)
def Sl (enc : α → List Value) (sz : Nat) (w : World) (v : Value) (l : List α) : Prop :=
 ∃ A c, v = .slice A l.length c ∧ l.length ≤ c ∧ c ≤ maxLen ∧ Rd enc sz w A l
theorem Sl.below {v : Value} (h : Sl enc sz w v l) (hb : Below w.heap.size w w') : Sl enc sz w' v l := by
 obtain ⟨A, c, hv, h1, h2, h3⟩ := h
 exact ⟨A, c, hv, h1, h2, h3.below hb⟩
theorem Sl.alloc {v : Value} (h : Sl enc sz w v l) (o : Obj) : Sl enc sz (w.alloc o) v l := h.below ((Below.refl _ w).alloc (Nat.le_refl _) o)
theorem Sl.nil_ : Sl enc sz w (.slice none 0 0) ([] : List α) := ⟨none, 0, rfl, by simp, Nat.zero_le _, Rd.nil_⟩
def Own (enc : α → List Value) (sz : Nat) (base : Nat) (e : TypeId) (w : World) (v : Value) (l : List α) : Prop :=
 w.ownsRow base e sz v l.length (l.flatMap enc)
theorem flat_get (henc : ∀ x : α, (enc x).length = sz) : ∀ (l : List α) (i : Nat) (x : α) (j : Nat) (u : Value), l[i]? = some x → (enc x)[j]? = some u → (l.flatMap enc)[i * sz + j]? = some u
 | [], i, x, j, u, h, _ => by simp at h
 | y :: r, 0, x, j, u, h, hu => by
  obtain rfl : y = x := by simpa using h
  have hj : j < (enc y).length := (List.getElem?_eq_some_iff.1 hu).1
  simp only [List.flatMap_cons, Nat.zero_mul, Nat.zero_add]
  rw [List.getElem?_append_left hj]; exact hu
 | y :: r, i + 1, x, j, u, h, hu => by
  have h' : r[i]? = some x := by simpa using h
  have ih := flat_get henc r i x j u h' hu
  simp only [List.flatMap_cons]
  rw [List.getElem?_append_right (by rw [henc, Nat.succ_mul]; omega), henc, show (i + 1) * sz + j - sz = i * sz + j by rw [Nat.succ_mul]; omega]
  exact ih
theorem Own.rd (henc : ∀ x : α, (enc x).length = sz) {base : Nat} {e : TypeId} {v : Value} (h : Own enc sz base e w v l) : Sl enc sz w v l := by
 have h0 := h
 obtain ⟨hlen, hc⟩ := h
 rcases hc with ⟨hv, hn⟩ | ⟨g, cap, cur, hv, hg, hh, hnc, hcm, hcs, htk⟩
 ·obtain rfl : l = [] := List.eq_nil_of_length_eq_zero hn
  exact ⟨none, 0, hv, by simp, Nat.zero_le _, Rd.nil_⟩
 ·refine ⟨some ⟨g, 0, none⟩, cap, hv, hnc, hcm, fun i x hx => ⟨g, 0, rfl, (Array.getElem?_eq_some_iff.1 hh).1, fun j u hu => ?_⟩⟩
  have hf := flat_get henc l i x j u hx hu
  have := h0.cells (g := g) (by rw [hv]; rfl) (i * sz + j) u hf
  by_cases hz : i * sz + j = 0
  ·rw [hz] at this
   have e0 : (0 : Nat) + i * sz + j = 0 := by omega
   rw [e0]; simpa [Addr.add] using this
  ·unfold Addr.add at this
   rw [if_neg hz] at this
   simpa [Nat.add_assoc] using this
theorem Own.nil_ {base : Nat} {e : TypeId} : Own enc sz base e w (.slice none 0 0) ([] : List α) := World.ownsRow_nil w base e sz
theorem Own.kept {base : Nat} {e : TypeId} {v : Value} {row : Option Nat} (h : Own enc sz base e w v l) (hg : w.grownBy w' row) (hne : v.ownBlock = none ∨ v.ownBlock ≠ row) : Own enc sz base e w' v l := World.ownsRow.kept h hg hne
theorem Own.alloc {base : Nat} {e : TypeId} {v : Value} (h : Own enc sz base e w v l) (o : Obj) : Own enc sz base e (w.alloc o) v l := World.ownsRow.alloc h o
theorem Own.drew {base : Nat} {e : TypeId} {v : Value} (h : Own enc sz base e w v l) : Own enc sz base e w.drew v l := h
theorem Own.lt {base : Nat} {e : TypeId} {v : Value} (h : Own enc sz base e w v l) : ∀ k, v.ownBlock = some k → base ≤ k ∧ k < w.heap.size := World.ownsRow.lt h
theorem grownBy_of_below (hb : Below w.heap.size w w') (row : Option Nat) : w.grownBy w' row := ⟨hb.os, hb.tape, hb.output, hb.size, fun k hk _ => hb.block k hk⟩
theorem Own.below {base : Nat} {e : TypeId} {v : Value} (h : Own enc sz base e w v l) (hb : Below w.heap.size w w') : Own enc sz base e w' v l := by
 refine h.kept (grownBy_of_below hb none) ?_
 cases h' : v.ownBlock with
 | none => exact .inl rfl
 | some k => exact .inr (by simp)
theorem Own.base_mono {base base' : Nat} {e : TypeId} {v : Value} (h : Own enc sz base e w v l) (hb : base' ≤ base) : Own enc sz base' e w v l := by
 obtain ⟨h1, h2⟩ := h
 refine ⟨h1, ?_⟩
 rcases h2 with h2 | ⟨g, cap, cur, hv, hg, r⟩
 ·exact .inl h2
 ·exact .inr ⟨g, cap, cur, hv, Nat.le_trans hb hg, r⟩
end
theorem bcell {W w1 : World} (hb : Below W.heap.size W w1) : (∀ b o, b < W.heap.size → w1.cell? ⟨b, o, none⟩ = W.cell? ⟨b, o, none⟩) ∧ (∀ b o, b < W.heap.size → w1.frozen? ⟨b, o, none⟩ = W.frozen? ⟨b, o, none⟩) ∧
  ((∀ b, b < W.heap.size → b < w1.heap.size) ∧ (∀ b, b < W.heap.size → b ≤ w1.heap.size) ∧ ∀ b j, b < W.heap.size → b < w1.heap.size + j) :=
 ⟨fun b o h => hb.cell (p := ⟨b, o, none⟩) h, fun b o h => hb.frozen (p := ⟨b, o, none⟩) h, fun _ h => Nat.lt_of_lt_of_le h hb.size, fun _ h => Nat.le_of_lt (Nat.lt_of_lt_of_le h hb.size), fun _ _ h => Nat.lt_of_lt_of_le h (Nat.le_trans hb.size (Nat.le_add_right _ _))⟩
def Blk (w : World) (g : Nat) (t : TypeId) (cs : Array Value) : Prop := w.heap[g]? = some (.cells cs t (0, 0))
section
variable {w w' : World} {g : Nat} {t : TypeId} {cs : Array Value}
theorem Blk.lt (h : Blk w g t cs) : g < w.heap.size := (Array.getElem?_eq_some_iff.1 h).1
theorem Blk.cell (h : Blk w g t cs) (i : Nat) : w.cell? ⟨g, i, none⟩ = cs[i]? := cell_of_row w g i cs t (0, 0) h
theorem Blk.frozen (h : Blk w g t cs) (i : Nat) : w.frozen? ⟨g, i, none⟩ = false := by
 unfold Blk at h
 simp [World.frozen?, h]
theorem Blk.new (w : World) (t : TypeId) (cs : Array Value) : Blk (w.alloc (.cells cs t)) w.heap.size t cs := heap_alloc_new w _
theorem Blk.below (h : Blk w g t cs) (hb : Below w.heap.size w w') : Blk w' g t cs := (hb.block g h.lt).trans h
theorem Blk.drew (h : Blk w g t cs) : Blk w.drew g t cs := h
theorem Blk.alloc (h : Blk w g t cs) (o : Obj) : Blk (w.alloc o) g t cs := (Below.heap_alloc w o g h.lt).trans h
theorem Blk.set_ (h : Blk w g t cs) (i : Nat) (u : Value) : Blk (w.setCell ⟨g, i, none⟩ u) g t (cs.setIfInBounds i u) := by
 unfold Blk at h ⊢
 simp [World.setCell, Array.getElem?_modify, h]
theorem Blk.far (h : Blk w g t cs) {p : Addr} (hp : g ≠ p.block) (u : Value) : Blk (w.setCell p u) g t cs := (Below.heap_setCell w p u g hp).trans h
theorem Blk.grown {row : Option Nat} (h : Blk w g t cs) (hb : w.grownBy w' row) (hg : some g ≠ row) : Blk w' g t cs := (hb.block g h.lt hg).trans h
end
section
variable {w W w1 : World}
theorem bl_refl : Below w.heap.size w w := Below.refl _ _
theorem bl_alloc (h : Below w.heap.size w W) (o : Obj) : Below w.heap.size w (W.alloc o) := h.alloc h.size o
theorem bl_drew (h : Below w.heap.size w W) : Below w.heap.size w W.drew := h.drew
theorem bl_drewN (h : Below w.heap.size w W) (n : Nat) : Below w.heap.size w (W.drewN n) := ⟨h.os, h.tape, h.output, h.size, h.block⟩
theorem bl_set (h : Below w.heap.size w W) {p : Addr} (hp : w.heap.size ≤ p.block) (u : Value) : Below w.heap.size w (W.setCell p u) := h.setCell hp u
theorem bl_then (h1 : Below W.heap.size W w1) (h : Below w.heap.size w W) : Below w.heap.size w w1 := h.trans (h1.mono h.size)
theorem bl_grown {row : Option Nat} (hg : W.grownBy w1 row) (h : Below w.heap.size w W) (hr : ∀ k, row = some k → w.heap.size ≤ k) : Below w.heap.size w w1 := h.grown hg h.size hr
end
section
variable {α : Type} {W w1 : World} {A : Option Addr} {v : Value} {l : List α} {enc : α → List Value} {sz base : Nat} {e : TypeId} {g : Nat} {t : TypeId} {cs : Array Value} {o o' o'' : Obj}
theorem bl_a (h : Below (W.alloc o).heap.size (W.alloc o) w1) : Below W.heap.size W w1 := ((Below.refl _ W).alloc (Nat.le_refl _) o).trans (h.mono (by simp))
theorem bl_d (h : Below W.drew.heap.size W.drew w1) : Below W.heap.size W w1 := (Below.refl _ W).drew.trans h
theorem bl_ad (h : Below (W.alloc o).drew.heap.size (W.alloc o).drew w1) : Below W.heap.size W w1 := bl_a (bl_d h)
theorem Rd.st0 (h : Rd enc sz W A l) (hb : Below W.heap.size W w1) : Rd enc sz w1 A l := h.below hb
theorem Rd.std1 (h : Rd enc sz W A l) (hb : Below (W.alloc o).drew.heap.size (W.alloc o).drew w1) : Rd enc sz w1 A l := h.below (bl_ad hb)
theorem Blk.st0 (h : Blk W g t cs) (hb : Below W.heap.size W w1) : Blk w1 g t cs := h.below hb
theorem Blk.st1 (h : Blk W g t cs) (hb : Below (W.alloc o).heap.size (W.alloc o) w1) : Blk w1 g t cs := h.below (bl_a hb)
theorem Blk.std (h : Blk W g t cs) (hb : Below W.drew.heap.size W.drew w1) : Blk w1 g t cs := h.below (bl_d hb)
theorem Blk.facts (h : Blk W g t cs) : (∀ i, W.cell? ⟨g, i, none⟩ = cs[i]?) ∧ (∀ i, W.frozen? ⟨g, i, none⟩ = false) ∧ g < W.heap.size ∧ g ≤ W.heap.size ∧ (¬ g = W.heap.size) ∧ (¬ W.heap.size = g) ∧ (∀ j, g < W.heap.size + j) ∧ (∀ j, ¬ g = W.heap.size + j) :=
 ⟨h.cell, h.frozen, h.lt, Nat.le_of_lt h.lt, Nat.ne_of_lt h.lt, Nat.ne_of_gt h.lt, fun _ => Nat.lt_of_lt_of_le h.lt (Nat.le_add_right _ _), fun _ => Nat.ne_of_lt (Nat.lt_of_lt_of_le h.lt (Nat.le_add_right _ _))⟩
end
def RV (w : World) (v : Value) (e : Ending) (w' : World) : Prop := e = .returned v ∧ Below w.heap.size w w'
theorem ret_int {k : IntKind} {a b : Int} (h : a = b) : Ending.returned (.int k a) = .returned (.int k b) := by rw [h]
theorem ret_bool {a b : Bool} (h : a = b) : Ending.returned (.bool a) = .returned (.bool b) := by rw [h]
theorem dec_eq {p q : Prop} [Decidable p] [Decidable q] (h : p ↔ q) : decide p = decide q := by simp [h]
theorem J0 {w : World} : Below w.heap.size w w := bl_refl
theorem J1 {w W w1 : World} (h1 : Below W.heap.size W w1) (h : Below w.heap.size w W) : Below w.heap.size w w1 := bl_then h1 h
theorem J2 {w W : World} (h : Below w.heap.size w W) (o : Obj) : Below w.heap.size w (W.alloc o) := bl_alloc h o
theorem J3 {w W : World} (h : Below w.heap.size w W) : Below w.heap.size w W.drew := bl_drew h
theorem J4 {w W : World} (h : Below w.heap.size w W) (n : Nat) : Below w.heap.size w (W.drewN n) := bl_drewN h n
end Go.Proofs.YtkkefahobjlagaaGreatDoor

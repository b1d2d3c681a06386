/- Small words for memory that every walk of this seat uses: a slice that reads as a list, a region that draws its order whose callees make memory, a block known whole. Conditions: none. -/
import Derived.WalkKit
import Derived.Deep.QuietTactic
import Derived.BigQuiet
import Derived.Lib.Hide
import Derived.Laws.OwnMore
import Derived.OwnWalk
import Derived.Carry
import Derived.OrdersHeld
import Derived.Deep.RegionHeld3
namespace Go.Proofs.YtpcgeihemkhkjaaGreatDoor
open Go.RowKit
def Bel (B : Nat) (w : World) : Type := { x : World // Below B w x }
instance {B : Nat} {w : World} : Nonempty (Bel B w) := ⟨⟨w, Below.refl B w⟩⟩
def Bel.val {B : Nat} {w : World} (g : Bel B w) : World := g.1
theorem Bel.below {B : Nat} {w : World} (g : Bel B w) : Below B w g.val := g.2
theorem Bel.cell {B : Nat} {w : World} (g : Bel B w) {a : Addr} (h : a.block < B) : g.val.cell? a = w.cell? a := g.2.cell h
@[go_sem] theorem Bel.cellAt {B : Nat} {w : World} (g : Bel B w) (b o : Nat) (h : b < B) : g.val.cell? ⟨b, o, none⟩ = w.cell? ⟨b, o, none⟩ := g.2.cell (p := ⟨b, o, none⟩) h
@[go_sem] theorem Bel.frozenAt {B : Nat} {w : World} (g : Bel B w) (b o : Nat) (h : b < B) : g.val.frozen? ⟨b, o, none⟩ = w.frozen? ⟨b, o, none⟩ := g.2.frozen (p := ⟨b, o, none⟩) h
theorem Bel.ex {B : Nat} {w w' : World} (h : Below B w w') : ∃ g : Bel B w, w' = g.val := ⟨⟨w', h⟩, rfl⟩
section
variable {α : Type} {w w' : World} {A : Option Addr} {l : List α} {enc : α → List Value} {sz : Nat}
def Rd (enc : α → List Value) (sz : Nat) (w : World) (A : Option Addr) (l : List α) : Prop :=
 ∀ i x, l[i]? = some x → ∃ b off, A = some ⟨b, off, none⟩ ∧ b < w.heap.size ∧ ∀ j u, (enc x)[j]? = some u → w.cell? ⟨b, off + i * sz + j, none⟩ = some u
theorem Rd.nil_ : Rd enc sz w A ([] : List α) := fun i x h => by simp at h
theorem Rd.below (h : Rd enc sz w A l) (hb : Below w.heap.size w w') : Rd enc sz w' A l := fun i x hx => by
 obtain ⟨b, off, e, hlt, hc⟩ := h i x hx
 exact ⟨b, off, e, Nat.lt_of_lt_of_le hlt hb.size, fun j u hu => (hb.cell (p := ⟨b, _, none⟩) hlt).trans (hc j u hu)⟩
theorem Rd.drew (h : Rd enc sz w A l) : Rd enc sz w.drew A l := h
theorem Rd.alloc (h : Rd enc sz w A l) (o : Obj) : Rd enc sz (w.alloc o) A l := h.below ((Below.refl _ w).alloc (Nat.le_refl _) o)
def Sl (enc : α → List Value) (sz : Nat) (w : World) (v : Value) (l : List α) : Prop :=
 ∃ A c, v = .slice A l.length c ∧ l.length ≤ c ∧ c ≤ maxLen ∧ Rd enc sz w A l
theorem Sl.below {v : Value} (h : Sl enc sz w v l) (hb : Below w.heap.size w w') : Sl enc sz w' v l := by
 obtain ⟨A, c, hv, h1, h2, h3⟩ := h
 exact ⟨A, c, hv, h1, h2, h3.below hb⟩
theorem Sl.alloc {v : Value} (h : Sl enc sz w v l) (o : Obj) : Sl enc sz (w.alloc o) v l := h.below ((Below.refl _ w).alloc (Nat.le_refl _) o)
theorem Sl.drew {v : Value} (h : Sl enc sz w v l) : Sl enc sz w.drew v l := h
theorem Sl.nil_ : Sl enc sz w (.slice none 0 0) ([] : List α) := ⟨none, 0, rfl, by simp, Nat.zero_le _, Rd.nil_⟩
def Own (enc : α → List Value) (sz : Nat) (base : Nat) (e : TypeId) (w : World) (v : Value) (l : List α) : Prop :=
 w.ownsRow base e sz v l.length (l.flatMap enc)
theorem Z00 (henc : ∀ x : α, (enc x).length = sz) : ∀ (l : List α) (i : Nat) (x : α) (j : Nat) (u : Value), l[i]? = some x → (enc x)[j]? = some u → (l.flatMap enc)[i * sz + j]? = some u
 | [], i, x, j, u, h, _ => by simp at h
 | y :: r, 0, x, j, u, h, hu => by
  obtain rfl : y = x := by simpa using h
  have hj : j < (enc y).length := (List.getElem?_eq_some_iff.1 hu).1
  simp only [List.flatMap_cons, Nat.zero_mul, Nat.zero_add]; rw [List.getElem?_append_left hj]; exact hu
 | y :: r, i + 1, x, j, u, h, hu => by
  have h' : r[i]? = some x := by simpa using h
  have ih := Z00 henc r i x j u h' hu
  simp only [List.flatMap_cons]; rw [List.getElem?_append_right (by rw [henc, Nat.succ_mul]; omega), henc, show (i + 1) * sz + j - sz = i * sz + j by rw [Nat.succ_mul]; omega]
  exact ih
theorem Own.rd (henc : ∀ x : α, (enc x).length = sz) {base : Nat} {e : TypeId} {v : Value} (h : Own enc sz base e w v l) : Sl enc sz w v l := by
 have h0 := h
 obtain ⟨hlen, hc⟩ := h
 rcases hc with ⟨hv, hn⟩ | ⟨g, cap, cur, hv, hg, hh, hnc, hcm, hcs, htk⟩
 ·obtain rfl : l = [] := List.eq_nil_of_length_eq_zero hn
  exact ⟨none, 0, hv, by simp, Nat.zero_le _, Rd.nil_⟩
 ·refine ⟨some ⟨g, 0, none⟩, cap, hv, hnc, hcm, fun i x hx => ⟨g, 0, rfl, (Array.getElem?_eq_some_iff.1 hh).1, fun j u hu => ?_⟩⟩
  have hf := Z00 henc l i x j u hx hu
  have := h0.cells (g := g) (by rw [hv]; rfl) (i * sz + j) u hf
  by_cases hz : i * sz + j = 0
  ·rw [hz] at this
   have e0 : (0 : Nat) + i * sz + j = 0 := by omega
   rw [e0]; simpa [Addr.add] using this
  ·unfold Addr.add at this
   rw [if_neg hz] at this; simpa [Nat.add_assoc] using this
theorem Own.nil_ {base : Nat} {e : TypeId} : Own enc sz base e w (.slice none 0 0) ([] : List α) := World.ownsRow_nil w base e sz
theorem Own.kept {base : Nat} {e : TypeId} {v : Value} {row : Option Nat} (h : Own enc sz base e w v l) (hg : w.grownBy w' row) (hne : v.ownBlock = none ∨ v.ownBlock ≠ row) : Own enc sz base e w' v l := World.ownsRow.kept h hg hne
theorem Own.alloc {base : Nat} {e : TypeId} {v : Value} (h : Own enc sz base e w v l) (o : Obj) : Own enc sz base e (w.alloc o) v l := World.ownsRow.alloc h o
theorem Own.drew {base : Nat} {e : TypeId} {v : Value} (h : Own enc sz base e w v l) : Own enc sz base e w.drew v l := h
theorem Own.lt {base : Nat} {e : TypeId} {v : Value} (h : Own enc sz base e w v l) : ∀ k, v.ownBlock = some k → base ≤ k ∧ k < w.heap.size := World.ownsRow.lt h
theorem Z01 (hb : Below w.heap.size w w') (row : Option Nat) : w.grownBy w' row := ⟨hb.os, hb.tape, hb.output, hb.size, fun k hk _ => hb.block k hk⟩
theorem Own.below {base : Nat} {e : TypeId} {v : Value} (h : Own enc sz base e w v l) (hb : Below w.heap.size w w') : Own enc sz base e w' v l := by
 refine h.kept (Z01 hb none) ?_
 cases h' : v.ownBlock with
 | none => exact .inl rfl
 | some k => exact .inr (by simp)
theorem Own.base_mono {base base' : Nat} {e : TypeId} {v : Value} (h : Own enc sz base e w v l) (hb : base' ≤ base) : Own enc sz base' e w v l := by
 obtain ⟨h1, h2⟩ := h
 refine ⟨h1, ?_⟩
 rcases h2 with h2 | ⟨g, cap, cur, hv, hg, r⟩
 ·exact .inl h2
 ·exact .inr ⟨g, cap, cur, hv, Nat.le_trans hb hg, r⟩
end
theorem Z02 {W w1 : World} (hb : Below W.heap.size W w1) : (∀ b o, b < W.heap.size → w1.cell? ⟨b, o, none⟩ = W.cell? ⟨b, o, none⟩) ∧ (∀ b o, b < W.heap.size → w1.frozen? ⟨b, o, none⟩ = W.frozen? ⟨b, o, none⟩) ∧
  ((∀ b, b < W.heap.size → b < w1.heap.size) ∧ (∀ b, b < W.heap.size → b ≤ w1.heap.size) ∧ ∀ b j, b < W.heap.size → b < w1.heap.size + j) :=
 ⟨fun b o h => hb.cell (p := ⟨b, o, none⟩) h, fun b o h => hb.frozen (p := ⟨b, o, none⟩) h, fun _ h => Nat.lt_of_lt_of_le h hb.size, fun _ h => Nat.le_of_lt (Nat.lt_of_lt_of_le h hb.size), fun _ _ h => Nat.lt_of_lt_of_le h (Nat.le_trans hb.size (Nat.le_add_right _ _))⟩
def Blk (w : World) (g : Nat) (t : TypeId) (cs : Array Value) : Prop := w.heap[g]? = some (.cells cs t (0, 0))
section
variable {w w' : World} {g : Nat} {t : TypeId} {cs : Array Value}
theorem Blk.lt (h : Blk w g t cs) : g < w.heap.size := (Array.getElem?_eq_some_iff.1 h).1
theorem Blk.cell (h : Blk w g t cs) (i : Nat) : w.cell? ⟨g, i, none⟩ = cs[i]? := cell_of_row w g i cs t (0, 0) h
theorem Blk.frozen (h : Blk w g t cs) (i : Nat) : w.frozen? ⟨g, i, none⟩ = false := by
 unfold Blk at h
 simp [World.frozen?, h]
theorem Blk.new (w : World) (t : TypeId) (cs : Array Value) : Blk (w.alloc (.cells cs t)) w.heap.size t cs := heap_alloc_new w _
theorem Blk.below (h : Blk w g t cs) (hb : Below w.heap.size w w') : Blk w' g t cs := (hb.block g h.lt).trans h
theorem Blk.drew (h : Blk w g t cs) : Blk w.drew g t cs := h
theorem Blk.alloc (h : Blk w g t cs) (o : Obj) : Blk (w.alloc o) g t cs := (Below.heap_alloc w o g h.lt).trans h
theorem Blk.set_ (h : Blk w g t cs) (i : Nat) (u : Value) : Blk (w.setCell ⟨g, i, none⟩ u) g t (cs.setIfInBounds i u) := by
 unfold Blk at h ⊢
 simp [World.setCell, Array.getElem?_modify, h]
theorem Blk.far (h : Blk w g t cs) {p : Addr} (hp : g ≠ p.block) (u : Value) : Blk (w.setCell p u) g t cs := (Below.heap_setCell w p u g hp).trans h
theorem Blk.grown {row : Option Nat} (h : Blk w g t cs) (hb : w.grownBy w' row) (hg : some g ≠ row) : Blk w' g t cs := (hb.block g h.lt hg).trans h
end
section
variable {w W w1 : World}
theorem Z03 : Below w.heap.size w w := Below.refl _ _
theorem Z04 (h : Below w.heap.size w W) (o : Obj) : Below w.heap.size w (W.alloc o) := h.alloc h.size o
theorem Z05 (h : Below w.heap.size w W) : Below w.heap.size w W.drew := h.drew
theorem Z06 (h : Below w.heap.size w W) (n : Nat) : Below w.heap.size w (W.drewN n) := ⟨h.os, h.tape, h.output, h.size, h.block⟩
theorem Z07 (h : Below w.heap.size w W) {p : Addr} (hp : w.heap.size ≤ p.block) (u : Value) : Below w.heap.size w (W.setCell p u) := h.setCell hp u
theorem Z08 (h1 : Below W.heap.size W w1) (h : Below w.heap.size w W) : Below w.heap.size w w1 := h.trans (h1.mono h.size)
theorem Z09 {row : Option Nat} (hg : W.grownBy w1 row) (h : Below w.heap.size w W) (hr : ∀ k, row = some k → w.heap.size ≤ k) : Below w.heap.size w w1 := h.grown hg h.size hr
end
section
variable {α : Type} {W w1 : World} {A : Option Addr} {v : Value} {l : List α} {enc : α → List Value} {sz base : Nat} {e : TypeId} {g : Nat} {t : TypeId} {cs : Array Value} {o o' o'' : Obj}
theorem bl_a (h : Below (W.alloc o).heap.size (W.alloc o) w1) : Below W.heap.size W w1 := ((Below.refl _ W).alloc (Nat.le_refl _) o).trans (h.mono (by simp))
theorem bl_d (h : Below W.drew.heap.size W.drew w1) : Below W.heap.size W w1 := (Below.refl _ W).drew.trans h
theorem Z0a (h : Below (W.alloc o).drew.heap.size (W.alloc o).drew w1) : Below W.heap.size W w1 := bl_a (bl_d h)
theorem Rd.std1 (h : Rd enc sz W A l) (hb : Below (W.alloc o).drew.heap.size (W.alloc o).drew w1) : Rd enc sz w1 A l := h.below (Z0a hb)
theorem Blk.st0 (h : Blk W g t cs) (hb : Below W.heap.size W w1) : Blk w1 g t cs := h.below hb
theorem Blk.st1 (h : Blk W g t cs) (hb : Below (W.alloc o).heap.size (W.alloc o) w1) : Blk w1 g t cs := h.below (bl_a hb)
theorem Blk.std (h : Blk W g t cs) (hb : Below W.drew.heap.size W.drew w1) : Blk w1 g t cs := h.below (bl_d hb)
theorem Blk.facts (h : Blk W g t cs) : (∀ i, W.cell? ⟨g, i, none⟩ = cs[i]?) ∧ (∀ i, W.frozen? ⟨g, i, none⟩ = false) ∧ g < W.heap.size ∧ g ≤ W.heap.size ∧ (¬ g = W.heap.size) ∧ (¬ W.heap.size = g) ∧ (∀ j, g < W.heap.size + j) ∧ (∀ j, ¬ g = W.heap.size + j) :=
 ⟨h.cell, h.frozen, h.lt, Nat.le_of_lt h.lt, Nat.ne_of_lt h.lt, Nat.ne_of_gt h.lt, fun _ => Nat.lt_of_lt_of_le h.lt (Nat.le_add_right _ _), fun _ => Nat.ne_of_lt (Nat.lt_of_lt_of_le h.lt (Nat.le_add_right _ _))⟩
end
def RV (w : World) (v : Value) (e : Ending) (w' : World) : Prop := e = .returned v ∧ Below w.heap.size w w'
theorem Z0b {k : IntKind} {a b : Int} (h : a = b) : Ending.returned (.int k a) = .returned (.int k b) := by rw [h]
theorem Z0c {a b : Bool} (h : a = b) : Ending.returned (.bool a) = .returned (.bool b) := by rw [h]
theorem J0 {w : World} : Below w.heap.size w w := Z03
theorem J1 {w W w1 : World} (h1 : Below W.heap.size W w1) (h : Below w.heap.size w W) : Below w.heap.size w w1 := Z08 h1 h
theorem J2 {w W : World} (h : Below w.heap.size w W) (o : Obj) : Below w.heap.size w (W.alloc o) := Z04 h o
theorem J3 {w W : World} (h : Below w.heap.size w W) : Below w.heap.size w W.drew := Z05 h
theorem J4 {w W : World} (h : Below w.heap.size w W) (n : Nat) : Below w.heap.size w (W.drewN n) := Z06 h n
section
variable {P : Program} {ops : Array Oper} {Q : Exit → Act → World → Prop} {md : Region.Mode} {C : World → Prop} {kp : Nat → Bool}
def Z0d (P : Program) (md : Region.Mode) (ops : Array Oper) (Q : Exit → Act → World → Prop) (C : World → Prop) (kp : Nat → Bool) : Nat → Array Bool → Act → World → Prop
  | 0, listed, a, w => Region.ready md ops listed = [] ∧ Q .normal a w
  | f + 1, listed, a, w => (Region.ready md ops listed = [] → Q .normal a w) ∧
      ∀ i ∈ Region.ready md ops listed, wpOp P ops Q i (fun a' w' => (kp i = true → C w') ∧ Z0d P md ops Q C kp f (listed.setIfInBounds i true) a' w') a w
theorem Z0e : ∀ (f : Nat) (listed : Array Bool) (a : Act) (w : World), Z0d P md ops Q C kp f listed a w → wpAny P md ops Q f listed a w
 | 0, _, _, _, h => h
 | f + 1, _, _, _, h => ⟨h.1, fun i hi => wpOp_mono (fun a' w' h' => Z0e f _ a' w' h'.2) (h.2 i hi)⟩
def Z0f (md : Region.Mode) (ops : Array Oper) : Nat → Nat → Nat → Bool
 | 0, _, _ => false
 | f + 1, j, i => match ops[j]? with
  | some o => o.after.any fun e => Region.binds md e && (e.on == i || Z0f md ops f e.on i)
  | none => false
def Z0g (md : Region.Mode) (ops : Array Oper) (listed : Array Bool) : Prop :=
 ∀ j oj, ops[j]? = some oj → listed.getD j false = true → ∀ e ∈ oj.after, Region.binds md e = true → listed.getD e.on false = true
theorem Z0g.start (n : Nat) : Z0g md ops (Array.replicate n false) := fun j oj _ h => by
 rcases Nat.lt_or_ge j n with h' | h' <;> simp [h'] at h
theorem Z0g.set {listed : Array Bool} {i : Nat} (h : Z0g md ops listed) (hi : i ∈ Region.ready md ops listed) : Z0g md ops (listed.setIfInBounds i true) := by
 obtain ⟨_, oi, hoi, hall⟩ := mem_ready.1 hi
 intro j oj hj hl e he hb
 by_cases hij : i = j
 ·subst hij
  obtain rfl : oi = oj := Option.some.inj (hoi.symm.trans hj)
  exact getD_set_true (hall e he hb)
 ·rw [getD_set_ne false hij] at hl
  exact getD_set_true (h j oj hj hl e he hb)
theorem Z0h {listed : Array Bool} (hc : Z0g md ops listed) {i : Nat} : ∀ (f j : Nat), Z0f md ops f j i = true → (∀ oj, ops[j]? = some oj → ∀ e ∈ oj.after, Region.binds md e = true → listed.getD e.on false = true) → listed.getD i false = true
 | 0, j, h, _ => by simp [Z0f] at h
 | f + 1, j, h, hall => by
  unfold Z0f at h; cases ho : ops[j]? with
  | none => simp [ho] at h
  | some o =>
   simp only [ho] at h; obtain ⟨e, he, h2⟩ := Array.any_eq_true'.1 h
   simp only [Bool.and_eq_true, Bool.or_eq_true, beq_iff_eq] at h2; have hl := hall o ho e he h2.1
   rcases h2.2 with h3 | h3
   ·rw [← h3]; exact hl
   ·exact Z0h hc f e.on h3 (fun oj hj e' he' hb => hc e.on oj hj hl e' he' hb)
theorem Z0i {listed : Array Bool} {i : Nat} (h : listed.getD i true = false) : listed.getD i false = false := by
 rcases Nat.lt_or_ge i listed.size with h' | h'
 ·simp [h'] at h ⊢; exact h
 ·simp [Array.getElem?_eq_none h'] at h
theorem Z0j {i : Nat} {oi : Oper} {v : Value} {F : Nat} (hi : ops[i]? = some oi) (hsel : ∀ (j : Nat) (o : Oper) cs b, ops[j]? = some o → o.op ≠ .select cs b)
    (hQ : ∀ c a w, Q (.panic c) (a.put oi.dst v) w → Q (.panic c) a w) :
    ∀ (fuel : Nat) (listed : Array Bool) (a : Act) (w : World), Z0g md ops listed →
      (∀ j oj, ops[j]? = some oj → j ≠ i → listed.getD j true = false → (∀ e ∈ oj.after, Region.binds md e = true → e.on ≠ i) → oi.apart ops oj = true) →
      (∀ j, j < ops.size → j ≠ i → listed.getD j true = false → kp j = true ∨ Z0f md ops F j i = true) →
      i ∈ Region.ready md ops listed → YieldsIf P ops C oi v a → C w →
      Z0d P md ops Q C kp fuel (listed.setIfInBounds i true) (a.put oi.dst v) w → Z0d P md ops Q C kp (fuel + 1) listed a w := by
  intro fuel; induction fuel with
  | zero =>
    intro listed a w _ _ _ hr hy hC H; refine ⟨fun h => (by rw [h] at hr; cases hr), fun j hj => ?_⟩
    by_cases hji : j = i
    · subst hji; exact hy.wpOp hi hC ⟨fun _ => hC, H⟩
    · have := ready_mono hj hji
      rw [H.1] at this; cases this
  | succ fuel ih =>
    intro listed a w hcl hfree hkp hr hy hC H; refine ⟨fun h => (by rw [h] at hr; cases hr), fun j hj => ?_⟩
    by_cases hji : j = i
    · subst hji; exact hy.wpOp hi hC ⟨fun _ => hC, H⟩
    · have h1 := H.2 j (ready_mono hj hji)
      obtain ⟨hjun, oj, hoj, hall⟩ := mem_ready.1 hj
      have hiun : listed.getD i false = false := Z0i (mem_ready.1 hr).1
      have hnot : ∀ e ∈ oj.after, Region.binds md e = true → e.on ≠ i := fun e he hb heq => by
        have h1 := hall e he hb
        rw [heq, hiun] at h1; cases h1
      have hkj : kp j = true := by
        rcases hkp j (Array.getElem?_eq_some_iff.1 hoj).1 hji hjun with h | h
        · exact h
        · have := Z0h hcl F j h (fun oj' hj' e he hb => by
            obtain rfl : oj = oj' := Option.some.inj (hoj.symm.trans hj')
            exact hall e he hb)
          rw [hiun] at this; cases this
      have h2 := wpOp_putIf hoj (hfree j oj hoj hji hjun hnot) (fun cs b => hsel i oi cs b hi) (fun cs b => hsel j oj cs b hoj) hQ hy h1
      have hun' : ∀ k, (listed.setIfInBounds j true).getD k true = false → listed.getD k true = false := fun k hun => by
        by_cases hjk : j = k
        · subst hjk; exact hjun
        · rw [getD_set_ne true hjk] at hun; exact hun
      refine wpOp_mono (fun a' w' h3 => ⟨fun _ => h3.2.1 hkj, ih (listed.setIfInBounds j true) a' w' (hcl.set hj) (fun k ok hk hki hun hno => hfree k ok hk hki (hun' k hun) hno)
        (fun k hks hki hun => hkp k hks hki (hun' k hun)) (ready_mono hr (Ne.symm hji)) h3.1 (h3.2.1 hkj) ?_⟩) h2
      rw [Array.setIfInBounds_comm _ _ hji]; exact h3.2.2
def Z0k : Op → Bool
 | .move _ | .assign _ | .pick .. | .build .. | .load .. | .waits _ | .binOp .. | .unOp .. | .convert .. | .sliceToArrayPointer .. | .makeFunc .. | .slice .. | .fieldAddr .. | .field .. | .indexAddr .. | .index .. | .lookup .. | .extract .. | .makeInterface .. => true
 | .nilCheck _ => true
 | .call { callee := .builtin b, .. } => match b with | .len | .cap | .max | .min => true | _ => false
 | _ => false
def Z0l (s : Sem Next) : Prop := ∀ (P : Program) (w w' : World) (n : Next), s.run P w = .ok n w' → ∃ u, n = .value u
theorem Z0l.val (u : Value) : Z0l (pure (.value u)) := fun P w w' n h => by simp at h; exact ⟨u, h.1.symm⟩
theorem Z0l.bind {α : Type} {s : Sem α} {f : α → Sem Next} (hf : ∀ x, Z0l (f x)) : Z0l (s >>= f) := fun P w w' n h => by
 simp only [Sem.run_bind] at h
 cases hs : s.run P w with
 | ok x w1 => rw [hs] at h; exact hf x P w1 w' n (by simpa using h)
 | halt x w1 => rw [hs] at h; simp [Result.andThen] at h
theorem Z0l.halt (x : Halt) : Z0l (Sem.halt x) := fun P w w' n h => by simp at h
theorem Z0l.rtPanic (e : RuntimeError) : Z0l (runtimePanic e) := by
 unfold runtimePanic
 refine Z0l.bind fun p => ?_
 cases e <;> dsimp only <;> first | exact Z0l.halt _ | exact Z0l.bind fun _ => Z0l.bind fun _ => Z0l.halt _
theorem Z0m {o : Oper} {ρ : Operand → Value} (hp : Z0k o.op = true) : Z0l (execOp ρ o) := by
 unfold execOp
 cases ho : o.op <;> rw [ho] at hp <;> simp only [Z0k, Bool.false_eq_true] at hp <;> dsimp only
 case nilCheck x =>
  split
  ·exact Z0l.rtPanic _
  ·exact Z0l.rtPanic _
  ·exact Z0l.rtPanic _
  ·split
   ·exact Z0l.rtPanic _
   ·refine Z0l.bind fun b => Z0l.bind fun c => ?_
    split
    ·exact Z0l.bind fun _ => Z0l.val _
    ·exact Z0l.val _
   ·exact Z0l.val _
  ·exact Z0l.val _
 case call c =>
  obtain ⟨callee, args, ats⟩ := c; cases callee with
  | builtin b =>
   simp only [resolve]; intro P w w' n h; simp only [Sem.run_bind, Sem.run_pure, Result.andThen_ok, invoke] at h; cases b <;> simp only [Bool.false_eq_true] at hp <;> dsimp only [builtin] at h <;> exact (Z0l.bind fun _ => Z0l.val _) P w w' n h
  | value f => simp at hp
  | invoke r m => simp at hp
 all_goals first | exact Z0l.val _ | exact Z0l.bind fun _ => Z0l.val _
theorem Z0n {o : Oper} {a : Act} {v : Value} (hp : Z0k o.op = true) (hw : Region.wanted o (yielded ops a.tmps) = true) (h : ∀ w, C w → o.quietAt P a C w v) : YieldsIf P ops C o v a := by
 refine .inl ⟨hw, fun w hC => ?_⟩
 have h1 := h w hC
 unfold Oper.quietAt at h1
 cases hr : (execOp a.eval o).run P w with
 | ok n w' =>
  obtain ⟨u, rfl⟩ := Z0m hp P w w' n hr
  rw [hr] at h1; obtain ⟨rfl, rfl⟩ := h1; rfl
 | halt x w' => rw [hr] at h1; exact h1.elim
def Z0o (P : Program) (ops : Array Oper) (Q : Exit → Act → World → Prop) (C : World → Prop) (post : List Oper) : List (Oper × Bool) → Act → World → Prop
 | [], a, w => wpList P ops Q post a w
 | (o, t) :: r, a, w =>
  if t = true then (if Region.wanted o (yielded ops a.tmps) then o.quiet P a C (fun a' => Z0o P ops Q C post r a' w) else Z0o P ops Q C post r (a.put o.dst undef) w)
  else if Region.wanted o (yielded ops a.tmps) then o.wp P a w (fun a' w' => C w' ∧ Z0o P ops Q C post r a' w') Q else Z0o P ops Q C post r (a.put o.dst undef) w
def Z0p (md : Region.Mode) (ops : Array Oper) : List Nat → Array Bool → Bool
 | [], listed => (Region.ready md ops listed).isEmpty
 | i :: r, listed => decide (Region.ready md ops listed = [i]) && Z0p md ops r (listed.setIfInBounds i true)
def Z0q (md : Region.Mode) (ops : Array Oper) (post : List Nat) (i : Nat) (listed : Array Bool) : Bool :=
  (Region.ready md ops listed).contains i && Region.free md ops listed i && (match ops[i]? with | some o => Z0k o.op | none => false) &&
      ((List.range ops.size).all fun j => j == i || listed.getD j true || !post.contains j || Z0f md ops ops.size j i)
def Z0r (md : Region.Mode) (ops : Array Oper) (post : List Nat) : List (Nat × Bool) → Array Bool → Bool
 | [], listed => Z0p md ops post listed
 | (i, t) :: r, listed => (if t then Z0q md ops post i listed else decide (Region.ready md ops listed = [i])) && Z0r md ops post r (listed.setIfInBounds i true)
def Z0s (md : Region.Mode) (ops : Array Oper) (mid : List (Nat × Bool)) (post : List Nat) : List Nat → Array Bool → Bool
 | [], listed => Z0r md ops post mid listed
 | i :: r, listed => Z0q md ops post i listed && Z0s md ops mid post r (listed.setIfInBounds i true)
def ordB (md : Region.Mode) (ops : Array Oper) (pre : List Nat) (mid : List (Nat × Bool)) (post : List Nat) : Bool := Region.noSelect ops && decide (ops.size = pre.length + mid.length + post.length) && Z0s md ops mid post pre (Array.replicate ops.size false)
theorem Z0t {kp : Nat → Bool} : ∀ (post : List Nat) (listed : Array Bool) (a : Act) (w : World), (∀ i ∈ post, kp i = false) → Z0p md ops post listed = true →
  wpList P ops Q (post.map fun i => ops.getD i default) a w → Z0d P md ops Q C kp post.length listed a w
 | [], listed, a, w, _, hB, h => ⟨by simpa [Z0p] using hB, h⟩
 | i :: r, listed, a, w, hk, hB, h => by
  simp only [Z0p, Bool.and_eq_true, decide_eq_true_eq] at hB; refine ⟨fun h0 => (by rw [hB.1] at h0; cases h0), fun j hj => ?_⟩
  obtain ⟨_, o, ho, _⟩ := mem_ready.1 hj
  rw [hB.1] at hj; obtain rfl : j = i := by simpa using hj
  have hg : ops.getD j default = o := by simp [ho]
  simp only [List.map_cons, hg] at h; unfold wpOp; simp only [ho]; unfold wpList at h; have hkj := hk j (by simp)
  split
  ·rename_i hw
   rw [if_pos hw] at h; exact h.imp (Oper.wp_mono fun a' w' h' => ⟨fun e => (by rw [hkj] at e; cases e), Z0t r _ a' w' (fun i hi => hk i (by simp [hi])) hB.2 h'⟩) id
  ·rename_i hw
   rw [if_neg hw] at h; exact ⟨fun e => (by rw [hkj] at e; cases e), Z0t r _ _ w (fun i hi => hk i (by simp [hi])) hB.2 h⟩
theorem Z0u {post : List Nat} (hs : Region.noSelect ops = true) (hQ : ∀ d c a v w, Q (.panic c) (Act.put a d v) w → Q (.panic c) a w) {w : World} (hC : C w)
  {i fuel : Nat} {listed : Array Bool} {a : Act} {o : Oper} (hg : ops.getD i default = o) (hcl : Z0g md ops listed) (hB : Z0q md ops post i listed = true) (K : Act → Prop)
  (hK : ∀ v, K (a.put o.dst v) → Z0d P md ops Q C (fun j => !post.contains j) fuel (listed.setIfInBounds i true) (a.put o.dst v) w)
  (h : if Region.wanted o (yielded ops a.tmps) then o.quiet P a C K else K (a.put o.dst undef)) :
  Z0d P md ops Q C (fun j => !post.contains j) (fuel + 1) listed a w := by
 simp only [Z0q, Bool.and_eq_true] at hB
 obtain ⟨⟨⟨hr, hf⟩, hp⟩, hkp⟩ := hB
 have hr' : i ∈ Region.ready md ops listed := by simpa using hr
 obtain ⟨hun, o', ho, hall⟩ := mem_ready.1 hr'
 have hg' : ops.getD i default = o' := by simp [ho]
 obtain rfl : o = o' := hg.symm.trans hg'
 simp only [ho] at hp
 have hy : ∃ v, YieldsIf P ops C o v a ∧ K (a.put o.dst v) := by
  by_cases hw : Region.wanted o (yielded ops a.tmps) = true
  ·rw [if_pos hw] at h
   obtain ⟨v, h1, h2⟩ := h; exact ⟨v, Z0n hp hw h1, h2⟩
  ·rw [if_neg hw] at h
   exact ⟨undef, .inr ⟨by simpa using hw, rfl⟩, h⟩
 obtain ⟨v, hy, h'⟩ := hy
 refine Z0j (F := ops.size) ho (Region.noSelect_spec hs) (fun c a w => hQ _ c a v w) _ listed a w hcl (Region.free_spec ho hf) (fun j hj hji hjun => ?_) hr' hy hC (hK v h')
 have := List.all_eq_true.1 hkp j (List.mem_range.2 hj)
 simp only [Bool.or_eq_true, beq_iff_eq, hji, false_or, hjun, Bool.false_eq_true] at this
 exact this
theorem Z0v {post : List Nat} {i : Nat} {listed : Array Bool} (h : Z0q md ops post i listed = true) : i ∈ Region.ready md ops listed := by
 simp only [Z0q, Bool.and_eq_true] at h
 simpa using h.1.1.1
theorem Z0w {post : List Nat} (hs : Region.noSelect ops = true) (hQ : ∀ d c a v w, Q (.panic c) (Act.put a d v) w → Q (.panic c) a w) :
  ∀ (mid : List (Nat × Bool)) (listed : Array Bool) (a : Act) (w : World), Z0g md ops listed → C w → Z0r md ops post mid listed = true →
  Z0o P ops Q C (post.map fun i => ops.getD i default) (mid.map fun i => (ops.getD i.1 default, i.2)) a w → Z0d P md ops Q C (fun j => !post.contains j) (mid.length + post.length) listed a w
 | [], listed, a, w, _, _, hB, h => by
  rw [List.length_nil, Nat.zero_add]; exact Z0t post listed a w (fun i hi => by simp [hi]) hB h
 | (i, t) :: r, listed, a, w, hcl, hC, hB, h => by
  rw [List.length_cons, show r.length + 1 + post.length = (r.length + post.length) + 1 by omega]
  simp only [Z0r, Bool.and_eq_true] at hB; cases t with
  | true =>
   simp only [if_true] at hB; simp only [List.map_cons, Z0o, if_true] at h
   exact Z0u (post := post) hs hQ hC (o := ops.getD i default) rfl hcl hB.1 (fun a' => Z0o P ops Q C (post.map fun i => ops.getD i default) (r.map fun i => (ops.getD i.1 default, i.2)) a' w)
    (fun v h' => Z0w hs hQ r _ _ w (hcl.set (Z0v hB.1)) hC hB.2 h') h
  | false =>
   simp only [Bool.false_eq_true, if_false, decide_eq_true_eq] at hB; refine ⟨fun h0 => (by rw [hB.1] at h0; cases h0), fun j hj => ?_⟩
   obtain ⟨_, o, ho, _⟩ := mem_ready.1 hj
   have hj' := hj
   rw [hB.1] at hj; obtain rfl : j = i := by simpa using hj
   have hg : ops.getD j default = o := by simp [ho]
   simp only [List.map_cons, Z0o, Bool.false_eq_true, if_false, hg] at h; unfold wpOp; simp only [ho]; split
   ·rename_i hw
    rw [if_pos hw] at h; exact .inl (Oper.wp_mono (fun a' w' h' => ⟨fun _ => h'.1, Z0w hs hQ r _ a' w' (hcl.set hj') h'.1 hB.2 h'.2⟩) h)
   ·rename_i hw
    rw [if_neg hw] at h; exact ⟨fun _ => hC, Z0w hs hQ r _ _ w (hcl.set hj') hC hB.2 h⟩
theorem Z0x {mid : List (Nat × Bool)} {post : List Nat} (hs : Region.noSelect ops = true) (hQ : ∀ d c a v w, Q (.panic c) (Act.put a d v) w → Q (.panic c) a w) {w : World} (hC : C w) :
  ∀ (pre : List Nat) (listed : Array Bool) (a : Act), Z0g md ops listed → Z0s md ops mid post pre listed = true →
  wpQuiet P ops C (fun a' => Z0o P ops Q C (post.map fun i => ops.getD i default) (mid.map fun i => (ops.getD i.1 default, i.2)) a' w) (pre.map fun i => ops.getD i default) a →
  Z0d P md ops Q C (fun j => !post.contains j) (pre.length + (mid.length + post.length)) listed a w
 | [], listed, a, hcl, hB, h => by
  rw [List.length_nil, Nat.zero_add]; exact Z0w hs hQ mid listed a w hcl hC hB h
 | i :: r, listed, a, hcl, hB, h => by
  rw [List.length_cons, show r.length + 1 + (mid.length + post.length) = (r.length + (mid.length + post.length)) + 1 by omega]
  simp only [Z0s, Bool.and_eq_true] at hB; simp only [List.map_cons] at h; unfold wpQuiet at h
  exact Z0u (post := post) hs hQ hC (o := ops.getD i default) rfl hcl hB.1 (fun a' => wpQuiet P ops C (fun a' => Z0o P ops Q C (post.map fun i => ops.getD i default) (mid.map fun i => (ops.getD i.1 default, i.2)) a' w) (r.map fun i => ops.getD i default) a')
   (fun v h' => Z0x hs hQ hC r _ _ (hcl.set (Z0v hB.1)) hB.2 h') h
theorem Z0y {id : Nat} {a : Act} {w : World} {l : List Oper} (B : Nat) (pre : List Nat) (mid : List (Nat × Bool)) (post : List Nat) (hm : P.follows .mixedOrders = true) (hB : ordB .any l.toArray pre mid post = true)
  (hQ : ∀ d c a v w, Q (.panic c) (Act.put a d v) w → Q (.panic c) a w)
  (h : wpQuiet P l.toArray (fun w' => ∃ g : Bel B w, w' = g.val) (fun a' => Z0o P l.toArray Q (fun w' => ∃ g : Bel B w, w' = g.val) (post.map fun i => l.getD i default) (mid.map fun i => (l.getD i.1 default, i.2)) a' w.drew) (pre.map fun i => l.getD i default) a) :
  (Code.region id l.toArray true).wp P Q a w := by
 simp only [ordB, Bool.and_eq_true, decide_eq_true_eq] at hB
 obtain ⟨⟨hs, hn⟩, hB'⟩ := hB
 refine wp_region_any hm (Z0e (C := fun w' => ∃ g : Bel B w, w' = g.val) (kp := fun j => !post.contains j) _ _ _ _ ?_)
 rw [hn, Nat.add_assoc]
 refine Z0x hs hQ (Bel.ex (Below.refl B w).drew) pre _ a (Z0g.start _) (by simpa [hn, Nat.add_assoc] using hB') ?_
 have e : ∀ (xs : List Nat), (xs.map fun i => l.toArray.getD i default) = xs.map fun i => l.getD i default := fun xs => List.map_congr_left fun i _ => by simp [Array.getD_eq_getD_getElem?, List.getD_eq_getElem?_getD]
 have e2 : (mid.map fun i => (l.toArray.getD i.1 default, i.2)) = mid.map fun i => (l.getD i.1 default, i.2) := List.map_congr_left fun i _ => by simp [Array.getD_eq_getD_getElem?, List.getD_eq_getElem?_getD]
 rw [e, e, e2]
 exact h
theorem Z0z {id : Nat} {a : Act} {w : World} {l : List Oper} (pre : List Nat) (mid : List (Nat × Bool)) (post : List Nat) (hm : P.follows .mixedOrders = true) (hB : ordB .any l.toArray pre mid post = true)
  (hQ : ∀ d c a v w, Q (.panic c) (Act.put a d v) w → Q (.panic c) a w)
  (h : wpQuiet P l.toArray (fun w' => ∃ g : Bel w.heap.size w, w' = g.val) (fun a' => Z0o P l.toArray Q (fun w' => ∃ g : Bel w.heap.size w, w' = g.val) (post.map fun i => l.getD i default) (mid.map fun i => (l.getD i.1 default, i.2)) a' w.drew) (pre.map fun i => l.getD i default) a) :
  (Code.region id l.toArray true).wp P Q a w := Z0y w.heap.size pre mid post hm hB hQ h
theorem Z10 {post : List Oper} {a : Act} {w : World} (h : wpList P ops Q post a w) : Z0o P ops Q C post [] a w := h
theorem Z11 {B : Nat} {w0 : World} {post : List Oper} {o : Oper} {r : List (Oper × Bool)} {a : Act} {w : World} (hw : Region.wanted o (yielded ops a.tmps) = true)
  (h : ∀ K : Act → World → Prop, (∀ a w', Below B w0 w' → Z0o P ops Q (fun w' => ∃ g : Bel B w0, w' = g.val) post r a w' → K a w') → o.wp P a w K Q) : Z0o P ops Q (fun w' => ∃ g : Bel B w0, w' = g.val) post ((o, false) :: r) a w := by
 have := h (fun a w' => (∃ g : Bel B w0, w' = g.val) ∧ Z0o P ops Q (fun w' => ∃ g : Bel B w0, w' = g.val) post r a w') (fun a w h1 h2 => ⟨Bel.ex h1, h2⟩)
 simp only [Z0o, Bool.false_eq_true, if_false, hw, if_true]
 exact this
theorem Z12 {post : List Oper} {o : Oper} {r : List (Oper × Bool)} {a : Act} {w : World} (hw : Region.wanted o (yielded ops a.tmps) = false)
  (h : ∀ K : Act → Prop, (∀ a, Z0o P ops Q C post r a w → K a) → K (a.put o.dst undef)) : Z0o P ops Q C post ((o, true) :: r) a w := by
 simp only [Z0o, if_true, hw, Bool.false_eq_true, if_false]
 exact h _ fun a h => h
theorem Z13 {post : List Oper} {o : Oper} {r : List (Oper × Bool)} {a : Act} {w : World} (hw : Region.wanted o (yielded ops a.tmps) = false)
  (h : ∀ K : Act → Prop, (∀ a, Z0o P ops Q C post r a w → K a) → K (a.put o.dst undef)) : Z0o P ops Q C post ((o, false) :: r) a w := by
 simp only [Z0o, if_false, hw, Bool.false_eq_true]
 exact h _ fun a h => h
theorem Z14 {post : List Oper} {o : Oper} {r : List (Oper × Bool)} {a : Act} {w : World} (hw : Region.wanted o (yielded ops a.tmps) = true)
  (h : ∀ K : Act → Prop, (∀ a, Z0o P ops Q C post r a w → K a) → o.quiet P a C K) : Z0o P ops Q C post ((o, true) :: r) a w := by
 simp only [Z0o, if_true, hw]
 exact h _ fun a h => h
end
attribute [irreducible] Z0o
end Go.Proofs.YtpcgeihemkhkjaaGreatDoor

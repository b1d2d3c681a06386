/- A region that draws its order and holds several operations that may come in more than one order: reads are taken, then each order is gone, as a tree. Conditions: the Bool 'treeB' over the region. -/
import Derived.Test.YtpcgeihemkhkjaaGreatDoorR01
import Derived.Test.YtpcgeihemkhkjaaGreatDoorR03
import Derived.Test.YtpcgeihemkhkjaaGreatDoorR04
import Derived.Deep.CutRange
namespace Go.Proofs.YtpcgeihemkhkjaaGreatDoor
open Go.RowKit
inductive OT where
 | fin | stop
 | take (i : Nat) (t : OT)
 | alt (b : OT)
 | br (i : Nat) (t r : OT)
def OT.heads : OT → List Nat
 | .br i _ r => i :: r.heads
 | _ => []
def OT.node : OT → Bool
 | .fin | .take .. | .alt _ => true
 | _ => false
section
variable {P : Program} {ops : Array Oper} {Q : Exit → Act → World → Prop} {md : Region.Mode} {C : World → Prop}
def Z56 (P : Program) (ops : Array Oper) (Q : Exit → Act → World → Prop) (C : World → Prop) (post : List Oper) : OT → Act → World → Prop
 | .fin, a, w => wpList P ops Q post a w
 | .stop, _, _ => True
 | .take i t, a, w => if Region.wanted (ops.getD i default) (yielded ops a.tmps) then (ops.getD i default).quiet P a C (fun a' => Z56 P ops Q C post t a' w) else Z56 P ops Q C post t (a.put (ops.getD i default).dst undef) w
 | .alt b, a, w => Z56 P ops Q C post b a w
 | .br i t r, a, w => (if Region.wanted (ops.getD i default) (yielded ops a.tmps) then (ops.getD i default).wp P a w (fun a' w' => C w' ∧ Z56 P ops Q C post t a' w') Q else Z56 P ops Q C post t (a.put (ops.getD i default).dst undef) w) ∧ Z56 P ops Q C post r a w
def Z57 (md : Region.Mode) (ops : Array Oper) (post : List Nat) : OT → Nat → Array Bool → Bool
 | .fin, n, listed => decide (n = post.length) && Z0o md ops post listed
 | .stop, _, _ => true
 | .take i t, n, listed => match n with | 0 => false | n + 1 => t.node && Z0p md ops post i listed && Z57 md ops post t n (listed.setIfInBounds i true)
 | .alt b, n, listed => !(Region.ready md ops listed).isEmpty && ((Region.ready md ops listed).all fun j => b.heads.contains j) && Z57 md ops post b n listed
 | .br i t r, n, listed => match n with | 0 => false | k + 1 => (!(Region.ready md ops listed).contains i || (t.node && Z57 md ops post t k (listed.setIfInBounds i true))) && Z57 md ops post r n listed
theorem Z58 {post : List Nat} (hs : Region.noSelect ops = true) (hQ : ∀ d c a v w, Q (.panic c) (Act.put a d v) w → Q (.panic c) a w) :
  ∀ (T : OT) (n : Nat) (listed : Array Bool) (a : Act) (w : World), Z0f md ops listed → C w → Z57 md ops post T n listed = true → Z56 P ops Q C (post.map fun i => ops.getD i default) T a w →
   (T.node = true → Z0c P md ops Q C (fun j => !post.contains j) n listed a w) ∧
   (∀ j ∈ T.heads, j ∈ Region.ready md ops listed → ∃ k, n = k + 1 ∧ wpOp P ops Q j (fun a' w' => ((fun j => !post.contains j) j = true → C w') ∧ Z0c P md ops Q C (fun j => !post.contains j) k (listed.setIfInBounds j true) a' w') a w)
 | .fin, n, listed, a, w, hcl, hC, hB, h => by
  simp only [Z57, Bool.and_eq_true, decide_eq_true_eq] at hB; refine ⟨fun _ => ?_, fun j hj => by simp [OT.heads] at hj⟩
  rw [hB.1]; exact Z0s post listed a w (fun i hi => by simp [hi]) hB.2 h
 | .stop, n, listed, a, w, _, _, _, _ => ⟨fun h => by simp [OT.node] at h, fun j hj => by simp [OT.heads] at hj⟩
 | .take i t, n, listed, a, w, hcl, hC, hB, h => by
  refine ⟨fun _ => ?_, fun j hj => by simp [OT.heads] at hj⟩
  cases n with
  | zero => simp [Z57] at hB
  | succ n =>
   simp only [Z57, Bool.and_eq_true] at hB
   exact Z0t (post := post) hs hQ hC (o := ops.getD i default) rfl hcl hB.1.2 (fun a' => Z56 P ops Q C (post.map fun i => ops.getD i default) t a' w)
    (fun v h' => (Z58 hs hQ t n _ _ w (hcl.set (Z0u hB.1.2)) hC hB.2 h').1 hB.1.1) h
 | .alt b, n, listed, a, w, hcl, hC, hB, h => by
  refine ⟨fun _ => ?_, fun j hj => by simp [OT.heads] at hj⟩
  simp only [Z57, Bool.and_eq_true, Bool.not_eq_true'] at hB; have ih := (Z58 hs hQ b n listed a w hcl hC hB.2 h).2
  have hall := List.all_eq_true.1 hB.1.2
  cases n with
  | zero =>
   cases hr : Region.ready md ops listed with
   | nil => rw [hr] at hB; simp at hB
   | cons j l =>
    have hj : j ∈ Region.ready md ops listed := by rw [hr]; simp
    obtain ⟨k, hk, _⟩ := ih j (by simpa using hall j hj) hj
    omega
  | succ n =>
   refine ⟨fun h0 => (by rw [h0] at hB; simp at hB), fun j hj => ?_⟩
   obtain ⟨k, hk, h2⟩ := ih j (by simpa using hall j hj) hj
   obtain rfl : n = k := by omega
   exact h2
 | .br i t r, n, listed, a, w, hcl, hC, hB, h => by
  refine ⟨fun h => by simp [OT.node] at h, fun j hj hjr => ?_⟩
  cases n with
  | zero => simp [Z57] at hB
  | succ n =>
   simp only [Z57, Bool.and_eq_true] at hB; simp only [OT.heads, List.mem_cons] at hj; rcases hj with rfl | hj
   ·refine ⟨n, rfl, ?_⟩
    have hb : t.node = true ∧ Z57 md ops post t n (listed.setIfInBounds j true) = true := by
     have := hB.1
     rw [Bool.or_eq_true] at this; rcases this with h1 | h1
     ·exfalso
      have : (Region.ready md ops listed).contains j = true := by simpa using hjr
      rw [this] at h1; simp at h1
     ·simpa using h1
    obtain ⟨_, o, ho, _⟩ := mem_ready.1 hjr
    have hg : ops.getD j default = o := by simp [ho]
    have h1 := h.1
    rw [hg] at h1; unfold wpOp; simp only [ho]; split
    ·rename_i hw
     rw [if_pos hw] at h1; exact .inl (Oper.wp_mono (fun a' w' h' => ⟨fun _ => h'.1, (Z58 hs hQ t n _ a' w' (hcl.set hjr) h'.1 hb.2 h'.2).1 hb.1⟩) h1)
    ·rename_i hw
     rw [if_neg hw] at h1; exact ⟨fun _ => hC, (Z58 hs hQ t n _ _ w (hcl.set hjr) hC hb.2 h1).1 hb.1⟩
   ·exact (Z58 hs hQ r (n + 1) listed a w hcl hC hB.2 h.2).2 j hj hjr
def Z59 (md : Region.Mode) (ops : Array Oper) (T : OT) (n : Nat) (post : List Nat) : List Nat → Array Bool → Bool
 | [], listed => T.node && Z57 md ops post T n listed
 | i :: r, listed => Z0p md ops post i listed && Z59 md ops T n post r (listed.setIfInBounds i true)
def Z5a (md : Region.Mode) (ops : Array Oper) (pre : List Nat) (T : OT) (post : List Nat) : Bool :=
 Region.noSelect ops && decide (pre.length ≤ ops.size) && Z59 md ops T (ops.size - pre.length) post pre (Array.replicate ops.size false)
theorem Z5b {T : OT} {n : Nat} {post : List Nat} (hs : Region.noSelect ops = true) (hQ : ∀ d c a v w, Q (.panic c) (Act.put a d v) w → Q (.panic c) a w) {w : World} (hC : C w) :
  ∀ (pre : List Nat) (listed : Array Bool) (a : Act), Z0f md ops listed → Z59 md ops T n post pre listed = true →
  wpQuiet P ops C (fun a' => Z56 P ops Q C (post.map fun i => ops.getD i default) T a' w) (pre.map fun i => ops.getD i default) a →
  Z0c P md ops Q C (fun j => !post.contains j) (pre.length + n) listed a w
 | [], listed, a, hcl, hB, h => by
  rw [List.length_nil, Nat.zero_add]; simp only [Z59, Bool.and_eq_true] at hB; exact (Z58 hs hQ T n listed a w hcl hC hB.2 h).1 hB.1
 | i :: r, listed, a, hcl, hB, h => by
  rw [List.length_cons, show r.length + 1 + n = (r.length + n) + 1 by omega]
  simp only [Z59, Bool.and_eq_true] at hB; simp only [List.map_cons] at h; unfold wpQuiet at h
  exact Z0t (post := post) hs hQ hC (o := ops.getD i default) rfl hcl hB.1 (fun a' => wpQuiet P ops C (fun a' => Z56 P ops Q C (post.map fun i => ops.getD i default) T a' w) (r.map fun i => ops.getD i default) a')
   (fun v h' => Z5b hs hQ hC r _ _ (hcl.set (Z0u hB.1)) hB.2 h') h
theorem Z5c {id : Nat} {a : Act} {w : World} {l : List Oper} (pre : List Nat) (T : OT) (post : List Nat) (hm : P.follows .mixedOrders = true) (hB : Z5a .any l.toArray pre T post = true)
  (hQ : ∀ d c a v w, Q (.panic c) (Act.put a d v) w → Q (.panic c) a w)
  (h : wpQuiet P l.toArray (fun w' => ∃ g : Bel w.heap.size w, w' = g.val) (fun a' => Z56 P l.toArray Q (fun w' => ∃ g : Bel w.heap.size w, w' = g.val) (post.map fun i => l.getD i default) T a' w.drew) (pre.map fun i => l.getD i default) a) :
  (Code.region id l.toArray true).wp P Q a w := by
 simp only [Z5a, Bool.and_eq_true, decide_eq_true_eq] at hB
 obtain ⟨⟨hs, hn⟩, hB'⟩ := hB
 refine wp_region_any hm (Z0d (C := fun w' => ∃ g : Bel w.heap.size w, w' = g.val) (kp := fun j => !post.contains j) _ _ _ _ ?_)
 have hn' : pre.length + (l.toArray.size - pre.length) = l.toArray.size := by omega
 have e : ∀ (xs : List Nat), (xs.map fun i => l.toArray.getD i default) = xs.map fun i => l.getD i default := fun xs => List.map_congr_left fun i _ => by simp [Array.getD_eq_getD_getElem?, List.getD_eq_getElem?_getD]
 have := Z5b (C := fun w' => ∃ g : Bel w.heap.size w, w' = g.val) hs hQ (Bel.ex (Below.refl w.heap.size w).drew) pre _ a (Z0f.start _) hB' (by rw [e, e]; exact h)
 rw [hn'] at this
 exact this
variable {B : Nat} {w0 w : World} {post : List Oper} {a : Act} {t r b : OT} {i : Nat}
theorem Z5d (h : wpList P ops Q post a w) : Z56 P ops Q C post .fin a w := h
theorem Z5e (h : Z56 P ops Q C post b a w) : Z56 P ops Q C post (.alt b) a w := h
theorem Z5f : Z56 P ops Q C post .stop a w := trivial
theorem Z5g {o : Oper} (ho : ops.getD i default = o) (hw : Region.wanted o (yielded ops a.tmps) = true)
  (h : ∀ K : Act → World → Prop, (∀ a w', Below B w0 w' → Z56 P ops Q (fun w' => ∃ g : Bel B w0, w' = g.val) post t a w' → K a w') → o.wp P a w K Q) (h2 : Z56 P ops Q (fun w' => ∃ g : Bel B w0, w' = g.val) post r a w) :
  Z56 P ops Q (fun w' => ∃ g : Bel B w0, w' = g.val) post (.br i t r) a w := by
 subst ho
 have := h (fun a' w' => (∃ g : Bel B w0, w' = g.val) ∧ Z56 P ops Q (fun w' => ∃ g : Bel B w0, w' = g.val) post t a' w') (fun a w h1 h2 => ⟨Bel.ex h1, h2⟩)
 refine ⟨?_, h2⟩
 rw [if_pos hw]
 exact this
theorem wpTree_take {o : Oper} (ho : ops.getD i default = o) (hw : Region.wanted o (yielded ops a.tmps) = true) (h : ∀ K : Act → Prop, (∀ a, Z56 P ops Q C post t a w → K a) → o.quiet P a C K) : Z56 P ops Q C post (.take i t) a w := by
 subst ho
 unfold Z56
 rw [if_pos hw]
 exact h _ fun a h => h
end
attribute [irreducible] Z56
open Go.ChangeMaps
def BelM (B : Nat) (w : World) (p : World → Prop) : Type := { x : World // Below B w x ∧ p x }
section
variable {B : Nat} {w w' : World} {p : World → Prop}
def BelM.val (g : BelM B w p) : World := g.1
theorem BelM.has (g : BelM B w p) : p g.val := g.2.2
@[go_sem] theorem BelM.cellAt (g : BelM B w p) (b o : Nat) (h : b < B) : g.val.cell? ⟨b, o, none⟩ = w.cell? ⟨b, o, none⟩ := g.2.1.cell (p := ⟨b, o, none⟩) h
@[go_sem] theorem BelM.frozenAt (g : BelM B w p) (b o : Nat) (h : b < B) : g.val.frozen? ⟨b, o, none⟩ = w.frozen? ⟨b, o, none⟩ := g.2.1.frozen (p := ⟨b, o, none⟩) h
theorem BelM.ex (h : Below B w w') (hp : p w') : ∃ g : BelM B w p, w' = g.val := ⟨⟨w', h, hp⟩, rfl⟩
theorem BelM.none_empty (h : Below B w w') (hp : p w') : Nonempty (BelM B w p) := ⟨⟨w', h, hp⟩⟩
end
section
variable {P : Program} {ops : Array Oper} {Q : Exit → Act → World → Prop} {C : World → Prop}
theorem Z5h {id : Nat} {a : Act} {w : World} {l : List Oper} (B : Nat) (p : World → Prop) (pre : List Nat) (mid : List (Nat × Bool)) (post : List Nat) (hm : P.follows .mixedOrders = true) (hB : ordB .any l.toArray pre mid post = true)
  (hQ : ∀ d c a v w, Q (.panic c) (Act.put a d v) w → Q (.panic c) a w) (hp : p w.drew)
  (h : wpQuiet P l.toArray (fun w' => ∃ g : BelM B w p, w' = g.val) (fun a' => Z0n P l.toArray Q (fun w' => ∃ g : BelM B w p, w' = g.val) (post.map fun i => l.getD i default) (mid.map fun i => (l.getD i.1 default, i.2)) a' w.drew) (pre.map fun i => l.getD i default) a) :
  (Code.region id l.toArray true).wp P Q a w := by
 simp only [ordB, Bool.and_eq_true, decide_eq_true_eq] at hB
 obtain ⟨⟨hs, hn⟩, hB'⟩ := hB
 refine wp_region_any hm (Z0d (C := fun w' => ∃ g : BelM B w p, w' = g.val) (kp := fun j => !post.contains j) _ _ _ _ ?_)
 rw [hn, Nat.add_assoc]
 refine Z0w hs hQ (BelM.ex (Below.refl B w).drew hp) pre _ a (Z0f.start _) (by simpa [hn, Nat.add_assoc] using hB') ?_
 have e : ∀ (xs : List Nat), (xs.map fun i => l.toArray.getD i default) = xs.map fun i => l.getD i default := fun xs => List.map_congr_left fun i _ => by simp [Array.getD_eq_getD_getElem?, List.getD_eq_getElem?_getD]
 have e2 : (mid.map fun i => (l.toArray.getD i.1 default, i.2)) = mid.map fun i => (l.getD i.1 default, i.2) := List.map_congr_left fun i _ => by simp [Array.getD_eq_getD_getElem?, List.getD_eq_getElem?_getD]
 rw [e, e, e2]
 exact h
unseal Z0n in
theorem Z5i {B : Nat} {p : World → Prop} {w0 : World} {post : List Oper} {o : Oper} {r : List (Oper × Bool)} {a : Act} {w : World} (hw : Region.wanted o (yielded ops a.tmps) = true)
  (h : ∀ K : Act → World → Prop, (∀ a w', Below B w0 w' → p w' → Z0n P ops Q (fun w' => ∃ g : BelM B w0 p, w' = g.val) post r a w' → K a w') → o.wp P a w K Q) :
  Z0n P ops Q (fun w' => ∃ g : BelM B w0 p, w' = g.val) post ((o, false) :: r) a w := by
 have := h (fun a w' => (∃ g : BelM B w0 p, w' = g.val) ∧ Z0n P ops Q (fun w' => ∃ g : BelM B w0 p, w' = g.val) post r a w') (fun a w h1 h2 h3 => ⟨BelM.ex h1 h2, h3⟩)
 simp only [Z0n, Bool.false_eq_true, if_false, hw, if_true]
 exact this
end
section
variable {κ : Type} [DecidableEq κ]
variable {ek : κ → Value} {w : World} {r : Nat} {m : List (κ × Nat × Nat)} {c : Nat} {P : Program} {k e t : TypeId}
def cntV (n : Nat) : Value := .int .i64 (n : Int)
end
set_option maxHeartbeats 4000000
set_option maxRecDepth 100000
section
variable {α : Type} {enc : α → List Value} {sz bytes : Nat} {P : Program} {t e : TypeId} {w : World}
theorem Z5j {o : Oper} {a : Act} {K : Act → World → Prop} {Q : Exit → Act → World → Prop} (E : Elem P t e sz bytes) (henc : ∀ x, (enc x).length = sz) (hone : ∀ x, ∀ u ∈ enc x, u.oneCell' = true) (s x : Operand)
  (ho : o.op = .call { callee := .builtin .append, args := #[s, x], argTypes := #[t, t] }) (base : Nat) (v u : Value) (l r : List α) (hs : a.eval s = v) (hx : a.eval x = u) (hown : Own enc sz base e w v l) (hu : Sl enc sz w u r)
  (h63 : l.length + r.length ≤ maxLen) (hb : (l.length + r.length) * bytes ≤ 140737488355328) (hbase : base ≤ w.heap.size)
  (h : ∀ v' w', Own enc sz base e w' v' (l ++ r) → w.grownBy w' v.ownBlock → K (a.put o.dst v') w') : o.wp P a w K Q := by
 obtain ⟨v', w', hr, h2, h3⟩ := Z3s E henc hone base o.type v u l r hown hu h63 hb hbase
 unfold Oper.wp
 simp [execOp, ho, resolve, invoke, builtin, hs, hx, hr, Result.andThen]
 exact h v' w' h2 h3
end
section
variable {α : Type} {enc : α → List Value} {sz n c : Nat} {w : World} {A : Option Addr} {l : List α}
theorem Z5k (h : Rd enc sz w A l) (hlc : l.length ≤ c) {k : Nat} (hk : k ≤ l.length) (hc : c ≤ maxLen) : Sl enc sz w (.slice (if c = k then A else Option.map (fun x => x.add (k * sz)) A) (l.length - k) (c - k)) (l.drop k) := by
 refine ⟨_, _, by rw [List.length_drop], by rw [List.length_drop]; omega, by omega, fun i x hx => ?_⟩
 rw [List.getElem?_drop] at hx
 have hlt := (List.getElem?_eq_some_iff.1 hx).1
 obtain ⟨b, off, rfl, hb, hc2⟩ := h (k + i) x hx
 rw [if_neg (by omega)]
 refine ⟨b, off + k * sz, ?_, hb, fun j u hu => ?_⟩
 ·simp only [Option.map_some, Addr.add]
  split
  ·rename_i h0; rw [h0, Nat.add_zero]
  ·rfl
 ·have := hc2 j u hu
  rwa [show off + (k + i) * sz + j = off + k * sz + i * sz + j by rw [Nat.add_mul]; omega] at this
end
section
variable {ops : Array Oper} {rest : List Oper} {o : Oper} {a : Act} {Q : Exit → Act → World → Prop} {base : Nat} {W : World} {v : Value} {X Y S : Int}
theorem Z5l {l : List Bar} (hown : OwB base W v l) {g : Nat} (hgd : o.guard = none) (s x : Operand) (ho : o.op = .call { callee := .builtin .append, args := #[s, x], argTypes := #[65, 65] })
    (hs : a.eval s = v) (hx : a.eval x = .slice (some ⟨g, 0, none⟩) 1 1) (hg : W.heap.size = g) (hlen : l.length ≤ 1000000) (hbase : base ≤ W.heap.size)
    (h : ∀ v' w', OwB base w' v' (l ++ [(X, Y, S)]) → (W.alloc (.cells #[.int .i64 X, .int .i64 Y, .int .i64 S] 111)).grownBy w' v.ownBlock → wpList Tryz.prog ops Q rest (a.put o.dst v') w') :
    wpList Tryz.prog ops Q (o :: rest) a (W.alloc (.cells #[.int .i64 X, .int .i64 Y, .int .i64 S] 111)) := by
  subst hg; exact Z3x hown hgd s x ho hs hx hlen hbase h
end
theorem Z5m {α β : Type} (f : α → β) {l : List α} {k : Nat} (hk : k < l.length) : (l.take (k + 1)).map f = (l.take k).map f ++ [f l[k]] := by
 rw [List.take_succ_eq_append_getElem hk, List.map_append]; rfl
def shB (d : Knot) (b : Bar) : Bar := (b.1 + d.1, b.2.1 + d.2, b.2.2)
def inB (b : Bar) : Bool := !farB b.1 && !farB b.2.1 && !farB (b.1 + b.2.2) && !farB (b.2.1 + 1)
def Z5n (l : List Bar) : Bool := l.all inB
theorem Z5o {l : List Bar} {f : Bar → Bar} {k : Nat} (hk : k < l.length) : Z5n ((l.take (k + 1)).map f) = (Z5n ((l.take k).map f) && inB (f l[k])) := by
 rw [Z5m f hk]; unfold Z5n; rw [List.all_append]; simp
@[go_sem] theorem mk_map {P : Program} (t : TypeId) (w : World) : (Instr.makeMap t none).run P w = .ok (.map (some w.heap.size)) (w.alloc (.map #[] 0)) := rfl
theorem Z5p (w : World) : (zeroValue 3).run Tryz.prog w = .ok (.int .i64 0) w := by kernel_rfl
def RBE (w : World) (l : List Bar) (n : Int) (e : Ending) (w' : World) : Prop := ∃ v, e = .returned (.tuple #[v, .int .i64 n]) ∧ OwB w.heap.size w' v l ∧ Below w.heap.size w w'
theorem Z5q {v : Value} (l : List Bar) (w : World) (h : SlB w v l) : Calls Tryz.prog 135 #[v] w (RV w (.int .i64 (netE l))) := by
 obtain ⟨A, c, rfl, hlc, hcm, h⟩ := h
 exact Z3m l A c w (Nat.le_trans hlc hcm) h
theorem Z4p.len1 {l : List Bar} (h : Z4p l) : l.length ≤ 10000 := Nat.le_trans h.len (by decide)
def Z5r {α : Type} (e : Int) (l : List α) : List α := if e = 0 then l else []
def degE (l : List Bar) (x y : Int) : Int := Z16 [netE l, Z19 x y]
end Go.Proofs.YtpcgeihemkhkjaaGreatDoor

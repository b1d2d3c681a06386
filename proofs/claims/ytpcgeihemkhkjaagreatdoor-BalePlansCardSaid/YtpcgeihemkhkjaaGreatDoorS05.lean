/- A region that draws its order and holds several operations that may come in more than one order: reads are taken, then each order is gone, as a tree. Conditions: the Bool 'treeB' over the region. -/
import Derived.Test.YtpcgeihemkhkjaaGreatDoorS01
import Derived.Test.YtpcgeihemkhkjaaGreatDoorS03
import Derived.Test.YtpcgeihemkhkjaaGreatDoorS04
import Derived.Deep.CutRange
namespace Go.Proofs.YtpcgeihemkhkjaaGreatDoor
open Go.RowKit
inductive OT where
 | fin | stop
 | take (i : Nat) (t : OT)
 | alt (b : OT)
 | br (i : Nat) (t r : OT)
def OT.heads : OT → List Nat
 | .br i _ r => i :: r.heads
 | _ => []
def OT.node : OT → Bool
 | .fin | .take .. | .alt _ => true
 | _ => false
section
variable {P : Program} {ops : Array Oper} {Q : Exit → Act → World → Prop} {md : Region.Mode} {C : World → Prop}
def Z5b (P : Program) (ops : Array Oper) (Q : Exit → Act → World → Prop) (C : World → Prop) (post : List Oper) : OT → Act → World → Prop
 | .fin, a, w => wpList P ops Q post a w
 | .stop, _, _ => True
 | .take i t, a, w => if Region.wanted (ops.getD i default) (yielded ops a.tmps) then (ops.getD i default).quiet P a C (fun a' => Z5b P ops Q C post t a' w) else Z5b P ops Q C post t (a.put (ops.getD i default).dst undef) w
 | .alt b, a, w => Z5b P ops Q C post b a w
 | .br i t r, a, w => (if Region.wanted (ops.getD i default) (yielded ops a.tmps) then (ops.getD i default).wp P a w (fun a' w' => C w' ∧ Z5b P ops Q C post t a' w') Q else Z5b P ops Q C post t (a.put (ops.getD i default).dst undef) w) ∧ Z5b P ops Q C post r a w
def Z5c (md : Region.Mode) (ops : Array Oper) (post : List Nat) : OT → Nat → Array Bool → Bool
 | .fin, n, listed => decide (n = post.length) && Z0p md ops post listed
 | .stop, _, _ => true
 | .take i t, n, listed => match n with | 0 => false | n + 1 => t.node && Z0q md ops post i listed && Z5c md ops post t n (listed.setIfInBounds i true)
 | .alt b, n, listed => !(Region.ready md ops listed).isEmpty && ((Region.ready md ops listed).all fun j => b.heads.contains j) && Z5c md ops post b n listed
 | .br i t r, n, listed => match n with | 0 => false | k + 1 => (!(Region.ready md ops listed).contains i || (t.node && Z5c md ops post t k (listed.setIfInBounds i true))) && Z5c md ops post r n listed
theorem Z5d {post : List Nat} (hs : Region.noSelect ops = true) (hQ : ∀ d c a v w, Q (.panic c) (Act.put a d v) w → Q (.panic c) a w) :
  ∀ (T : OT) (n : Nat) (listed : Array Bool) (a : Act) (w : World), Z0g md ops listed → C w → Z5c md ops post T n listed = true → Z5b P ops Q C (post.map fun i => ops.getD i default) T a w →
   (T.node = true → Z0d P md ops Q C (fun j => !post.contains j) n listed a w) ∧
   (∀ j ∈ T.heads, j ∈ Region.ready md ops listed → ∃ k, n = k + 1 ∧ wpOp P ops Q j (fun a' w' => ((fun j => !post.contains j) j = true → C w') ∧ Z0d P md ops Q C (fun j => !post.contains j) k (listed.setIfInBounds j true) a' w') a w)
 | .fin, n, listed, a, w, hcl, hC, hB, h => by
  simp only [Z5c, Bool.and_eq_true, decide_eq_true_eq] at hB; refine ⟨fun _ => ?_, fun j hj => by simp [OT.heads] at hj⟩
  rw [hB.1]; exact Z0t post listed a w (fun i hi => by simp [hi]) hB.2 h
 | .stop, n, listed, a, w, _, _, _, _ => ⟨fun h => by simp [OT.node] at h, fun j hj => by simp [OT.heads] at hj⟩
 | .take i t, n, listed, a, w, hcl, hC, hB, h => by
  refine ⟨fun _ => ?_, fun j hj => by simp [OT.heads] at hj⟩
  cases n with
  | zero => simp [Z5c] at hB
  | succ n =>
   simp only [Z5c, Bool.and_eq_true] at hB
   exact Z0u (post := post) hs hQ hC (o := ops.getD i default) rfl hcl hB.1.2 (fun a' => Z5b P ops Q C (post.map fun i => ops.getD i default) t a' w)
    (fun v h' => (Z5d hs hQ t n _ _ w (hcl.set (Z0v hB.1.2)) hC hB.2 h').1 hB.1.1) h
 | .alt b, n, listed, a, w, hcl, hC, hB, h => by
  refine ⟨fun _ => ?_, fun j hj => by simp [OT.heads] at hj⟩
  simp only [Z5c, Bool.and_eq_true, Bool.not_eq_true'] at hB; have ih := (Z5d hs hQ b n listed a w hcl hC hB.2 h).2
  have hall := List.all_eq_true.1 hB.1.2
  cases n with
  | zero =>
   cases hr : Region.ready md ops listed with
   | nil => rw [hr] at hB; simp at hB
   | cons j l =>
    have hj : j ∈ Region.ready md ops listed := by rw [hr]; simp
    obtain ⟨k, hk, _⟩ := ih j (by simpa using hall j hj) hj
    omega
  | succ n =>
   refine ⟨fun h0 => (by rw [h0] at hB; simp at hB), fun j hj => ?_⟩
   obtain ⟨k, hk, h2⟩ := ih j (by simpa using hall j hj) hj
   obtain rfl : n = k := by omega
   exact h2
 | .br i t r, n, listed, a, w, hcl, hC, hB, h => by
  refine ⟨fun h => by simp [OT.node] at h, fun j hj hjr => ?_⟩
  cases n with
  | zero => simp [Z5c] at hB
  | succ n =>
   simp only [Z5c, Bool.and_eq_true] at hB; simp only [OT.heads, List.mem_cons] at hj; rcases hj with rfl | hj
   ·refine ⟨n, rfl, ?_⟩
    have hb : t.node = true ∧ Z5c md ops post t n (listed.setIfInBounds j true) = true := by
     have := hB.1
     rw [Bool.or_eq_true] at this; rcases this with h1 | h1
     ·exfalso
      have : (Region.ready md ops listed).contains j = true := by simpa using hjr
      rw [this] at h1; simp at h1
     ·simpa using h1
    obtain ⟨_, o, ho, _⟩ := mem_ready.1 hjr
    have hg : ops.getD j default = o := by simp [ho]
    have h1 := h.1
    rw [hg] at h1; unfold wpOp; simp only [ho]; split
    ·rename_i hw
     rw [if_pos hw] at h1; exact .inl (Oper.wp_mono (fun a' w' h' => ⟨fun _ => h'.1, (Z5d hs hQ t n _ a' w' (hcl.set hjr) h'.1 hb.2 h'.2).1 hb.1⟩) h1)
    ·rename_i hw
     rw [if_neg hw] at h1; exact ⟨fun _ => hC, (Z5d hs hQ t n _ _ w (hcl.set hjr) hC hb.2 h1).1 hb.1⟩
   ·exact (Z5d hs hQ r (n + 1) listed a w hcl hC hB.2 h.2).2 j hj hjr
def Z5e (md : Region.Mode) (ops : Array Oper) (T : OT) (n : Nat) (post : List Nat) : List Nat → Array Bool → Bool
 | [], listed => T.node && Z5c md ops post T n listed
 | i :: r, listed => Z0q md ops post i listed && Z5e md ops T n post r (listed.setIfInBounds i true)
def Z5f (md : Region.Mode) (ops : Array Oper) (pre : List Nat) (T : OT) (post : List Nat) : Bool :=
 Region.noSelect ops && decide (pre.length ≤ ops.size) && Z5e md ops T (ops.size - pre.length) post pre (Array.replicate ops.size false)
theorem Z5g {T : OT} {n : Nat} {post : List Nat} (hs : Region.noSelect ops = true) (hQ : ∀ d c a v w, Q (.panic c) (Act.put a d v) w → Q (.panic c) a w) {w : World} (hC : C w) :
  ∀ (pre : List Nat) (listed : Array Bool) (a : Act), Z0g md ops listed → Z5e md ops T n post pre listed = true →
  wpQuiet P ops C (fun a' => Z5b P ops Q C (post.map fun i => ops.getD i default) T a' w) (pre.map fun i => ops.getD i default) a →
  Z0d P md ops Q C (fun j => !post.contains j) (pre.length + n) listed a w
 | [], listed, a, hcl, hB, h => by
  rw [List.length_nil, Nat.zero_add]; simp only [Z5e, Bool.and_eq_true] at hB; exact (Z5d hs hQ T n listed a w hcl hC hB.2 h).1 hB.1
 | i :: r, listed, a, hcl, hB, h => by
  rw [List.length_cons, show r.length + 1 + n = (r.length + n) + 1 by omega]
  simp only [Z5e, Bool.and_eq_true] at hB; simp only [List.map_cons] at h; unfold wpQuiet at h
  exact Z0u (post := post) hs hQ hC (o := ops.getD i default) rfl hcl hB.1 (fun a' => wpQuiet P ops C (fun a' => Z5b P ops Q C (post.map fun i => ops.getD i default) T a' w) (r.map fun i => ops.getD i default) a')
   (fun v h' => Z5g hs hQ hC r _ _ (hcl.set (Z0v hB.1)) hB.2 h') h
theorem Z5h {id : Nat} {a : Act} {w : World} {l : List Oper} (pre : List Nat) (T : OT) (post : List Nat) (hm : P.follows .mixedOrders = true) (hB : Z5f .any l.toArray pre T post = true)
  (hQ : ∀ d c a v w, Q (.panic c) (Act.put a d v) w → Q (.panic c) a w)
  (h : wpQuiet P l.toArray (fun w' => ∃ g : Bel w.heap.size w, w' = g.val) (fun a' => Z5b P l.toArray Q (fun w' => ∃ g : Bel w.heap.size w, w' = g.val) (post.map fun i => l.getD i default) T a' w.drew) (pre.map fun i => l.getD i default) a) :
  (Code.region id l.toArray true).wp P Q a w := by
 simp only [Z5f, Bool.and_eq_true, decide_eq_true_eq] at hB
 obtain ⟨⟨hs, hn⟩, hB'⟩ := hB
 refine wp_region_any hm (Z0e (C := fun w' => ∃ g : Bel w.heap.size w, w' = g.val) (kp := fun j => !post.contains j) _ _ _ _ ?_)
 have hn' : pre.length + (l.toArray.size - pre.length) = l.toArray.size := by omega
 have e : ∀ (xs : List Nat), (xs.map fun i => l.toArray.getD i default) = xs.map fun i => l.getD i default := fun xs => List.map_congr_left fun i _ => by simp [Array.getD_eq_getD_getElem?, List.getD_eq_getElem?_getD]
 have := Z5g (C := fun w' => ∃ g : Bel w.heap.size w, w' = g.val) hs hQ (Bel.ex (Below.refl w.heap.size w).drew) pre _ a (Z0g.start _) hB' (by rw [e, e]; exact h)
 rw [hn'] at this
 exact this
variable {B : Nat} {w0 w : World} {post : List Oper} {a : Act} {t r b : OT} {i : Nat}
theorem Z5i (h : wpList P ops Q post a w) : Z5b P ops Q C post .fin a w := h
theorem Z5j (h : Z5b P ops Q C post b a w) : Z5b P ops Q C post (.alt b) a w := h
theorem Z5k : Z5b P ops Q C post .stop a w := trivial
theorem Z5l {o : Oper} (ho : ops.getD i default = o) (hw : Region.wanted o (yielded ops a.tmps) = true)
  (h : ∀ K : Act → World → Prop, (∀ a w', Below B w0 w' → Z5b P ops Q (fun w' => ∃ g : Bel B w0, w' = g.val) post t a w' → K a w') → o.wp P a w K Q) (h2 : Z5b P ops Q (fun w' => ∃ g : Bel B w0, w' = g.val) post r a w) :
  Z5b P ops Q (fun w' => ∃ g : Bel B w0, w' = g.val) post (.br i t r) a w := by
 subst ho
 have := h (fun a' w' => (∃ g : Bel B w0, w' = g.val) ∧ Z5b P ops Q (fun w' => ∃ g : Bel B w0, w' = g.val) post t a' w') (fun a w h1 h2 => ⟨Bel.ex h1, h2⟩)
 refine ⟨?_, h2⟩
 rw [if_pos hw]
 exact this
end
attribute [irreducible] Z5b
open Go.ChangeMaps
def BelM (B : Nat) (w : World) (p : World → Prop) : Type := { x : World // Below B w x ∧ p x }
section
variable {B : Nat} {w w' : World} {p : World → Prop}
def BelM.val (g : BelM B w p) : World := g.1
theorem BelM.has (g : BelM B w p) : p g.val := g.2.2
@[go_sem] theorem BelM.cellAt (g : BelM B w p) (b o : Nat) (h : b < B) : g.val.cell? ⟨b, o, none⟩ = w.cell? ⟨b, o, none⟩ := g.2.1.cell (p := ⟨b, o, none⟩) h
@[go_sem] theorem BelM.frozenAt (g : BelM B w p) (b o : Nat) (h : b < B) : g.val.frozen? ⟨b, o, none⟩ = w.frozen? ⟨b, o, none⟩ := g.2.1.frozen (p := ⟨b, o, none⟩) h
theorem BelM.ex (h : Below B w w') (hp : p w') : ∃ g : BelM B w p, w' = g.val := ⟨⟨w', h, hp⟩, rfl⟩
theorem BelM.none_empty (h : Below B w w') (hp : p w') : Nonempty (BelM B w p) := ⟨⟨w', h, hp⟩⟩
end
section
variable {P : Program} {ops : Array Oper} {Q : Exit → Act → World → Prop} {C : World → Prop}
theorem Z5m {id : Nat} {a : Act} {w : World} {l : List Oper} (B : Nat) (p : World → Prop) (pre : List Nat) (mid : List (Nat × Bool)) (post : List Nat) (hm : P.follows .mixedOrders = true) (hB : ordB .any l.toArray pre mid post = true)
  (hQ : ∀ d c a v w, Q (.panic c) (Act.put a d v) w → Q (.panic c) a w) (hp : p w.drew)
  (h : wpQuiet P l.toArray (fun w' => ∃ g : BelM B w p, w' = g.val) (fun a' => Z0o P l.toArray Q (fun w' => ∃ g : BelM B w p, w' = g.val) (post.map fun i => l.getD i default) (mid.map fun i => (l.getD i.1 default, i.2)) a' w.drew) (pre.map fun i => l.getD i default) a) :
  (Code.region id l.toArray true).wp P Q a w := by
 simp only [ordB, Bool.and_eq_true, decide_eq_true_eq] at hB
 obtain ⟨⟨hs, hn⟩, hB'⟩ := hB
 refine wp_region_any hm (Z0e (C := fun w' => ∃ g : BelM B w p, w' = g.val) (kp := fun j => !post.contains j) _ _ _ _ ?_)
 rw [hn, Nat.add_assoc]
 refine Z0x hs hQ (BelM.ex (Below.refl B w).drew hp) pre _ a (Z0g.start _) (by simpa [hn, Nat.add_assoc] using hB') ?_
 have e : ∀ (xs : List Nat), (xs.map fun i => l.toArray.getD i default) = xs.map fun i => l.getD i default := fun xs => List.map_congr_left fun i _ => by simp [Array.getD_eq_getD_getElem?, List.getD_eq_getElem?_getD]
 have e2 : (mid.map fun i => (l.toArray.getD i.1 default, i.2)) = mid.map fun i => (l.getD i.1 default, i.2) := List.map_congr_left fun i _ => by simp [Array.getD_eq_getD_getElem?, List.getD_eq_getElem?_getD]
 rw [e, e, e2]
 exact h
unseal Z0o in
theorem Z5n {B : Nat} {p : World → Prop} {w0 : World} {post : List Oper} {o : Oper} {r : List (Oper × Bool)} {a : Act} {w : World} (hw : Region.wanted o (yielded ops a.tmps) = true)
  (h : ∀ K : Act → World → Prop, (∀ a w', Below B w0 w' → p w' → Z0o P ops Q (fun w' => ∃ g : BelM B w0 p, w' = g.val) post r a w' → K a w') → o.wp P a w K Q) :
  Z0o P ops Q (fun w' => ∃ g : BelM B w0 p, w' = g.val) post ((o, false) :: r) a w := by
 have := h (fun a w' => (∃ g : BelM B w0 p, w' = g.val) ∧ Z0o P ops Q (fun w' => ∃ g : BelM B w0 p, w' = g.val) post r a w') (fun a w h1 h2 h3 => ⟨BelM.ex h1 h2, h3⟩)
 simp only [Z0o, Bool.false_eq_true, if_false, hw, if_true]
 exact this
end
section
variable {κ : Type} [DecidableEq κ]
variable {ek : κ → Value} {w : World} {r : Nat} {m : List (κ × Nat × Nat)} {c : Nat} {P : Program} {k e t : TypeId}
def cntV (n : Nat) : Value := .int .i64 (n : Int)
end
set_option maxHeartbeats 4000000
set_option maxRecDepth 100000
section
variable {α : Type} {enc : α → List Value} {sz n c : Nat} {w : World} {A : Option Addr} {l : List α}
theorem Z5o (h : Rd enc sz w A l) (hlc : l.length ≤ c) {k : Nat} (hk : k ≤ l.length) (hc : c ≤ maxLen) : Sl enc sz w (.slice (if c = k then A else Option.map (fun x => x.add (k * sz)) A) (l.length - k) (c - k)) (l.drop k) := by
 refine ⟨_, _, by rw [List.length_drop], by rw [List.length_drop]; omega, by omega, fun i x hx => ?_⟩
 rw [List.getElem?_drop] at hx
 have hlt := (List.getElem?_eq_some_iff.1 hx).1
 obtain ⟨b, off, rfl, hb, hc2⟩ := h (k + i) x hx
 rw [if_neg (by omega)]
 refine ⟨b, off + k * sz, ?_, hb, fun j u hu => ?_⟩
 ·simp only [Option.map_some, Addr.add]
  split
  ·rename_i h0; rw [h0, Nat.add_zero]
  ·rfl
 ·have := hc2 j u hu
  rwa [show off + (k + i) * sz + j = off + k * sz + i * sz + j by rw [Nat.add_mul]; omega] at this
end
section
variable {ops : Array Oper} {rest : List Oper} {o : Oper} {a : Act} {Q : Exit → Act → World → Prop} {base : Nat} {W : World} {v : Value} {X Y S : Int}
theorem Z5p {l : List Bar} (hown : OwB base W v l) {g : Nat} (hgd : o.guard = none) (s x : Operand) (ho : o.op = .call { callee := .builtin .append, args := #[s, x], argTypes := #[65, 65] })
    (hs : a.eval s = v) (hx : a.eval x = .slice (some ⟨g, 0, none⟩) 1 1) (hg : W.heap.size = g) (hlen : l.length ≤ 1000000) (hbase : base ≤ W.heap.size)
    (h : ∀ v' w', OwB base w' v' (l ++ [(X, Y, S)]) → (W.alloc (.cells #[.int .i64 X, .int .i64 Y, .int .i64 S] 111)).grownBy w' v.ownBlock → wpList Tryz.prog ops Q rest (a.put o.dst v') w') :
    wpList Tryz.prog ops Q (o :: rest) a (W.alloc (.cells #[.int .i64 X, .int .i64 Y, .int .i64 S] 111)) := by
  subst hg; exact Z42 hown hgd s x ho hs hx hlen hbase h
end
theorem Z5q {α β : Type} (f : α → β) {l : List α} {k : Nat} (hk : k < l.length) : (l.take (k + 1)).map f = (l.take k).map f ++ [f l[k]] := by
 rw [List.take_succ_eq_append_getElem hk, List.map_append]; rfl
def shB (d : Knot) (b : Bar) : Bar := (b.1 + d.1, b.2.1 + d.2, b.2.2)
def inB (b : Bar) : Bool := !farB b.1 && !farB b.2.1 && !farB (b.1 + b.2.2) && !farB (b.2.1 + 1)
def Z5r (l : List Bar) : Bool := l.all inB
theorem Z5s {l : List Bar} {f : Bar → Bar} {k : Nat} (hk : k < l.length) : Z5r ((l.take (k + 1)).map f) = (Z5r ((l.take k).map f) && inB (f l[k])) := by
 rw [Z5q f hk]; unfold Z5r; rw [List.all_append]; simp
def RBB (w : World) (l : List Bar) (b : Bool) (e : Ending) (w' : World) : Prop := ∃ v, e = .returned (.tuple #[v, .bool b]) ∧ OwB w.heap.size w' v l ∧ Below w.heap.size w w'
theorem Z5t {v : Value} (l : List Bar) (dx dy : Int) (w : World) (h : SlB w v l) (hk : ∀ b ∈ l, Z4o b) (hlen : l.length ≤ 10000) (hdx : -500000 ≤ dx ∧ dx ≤ 500000) (hdy : -500000 ≤ dy ∧ dy ≤ 500000) :
    Calls Tryz.prog 85 #[v, .agg #[.int .i64 dx, .int .i64 dy]] w (RBB w (l.map (shB (dx, dy))) (Z5r (l.map (shB (dx, dy))))) := by
  obtain ⟨A, c, rfl, hlc, hcm, h⟩ := h; have HK := Lib.hid hk
  have hB := Blk.new w 90 #[.int .i64 dx, .int .i64 dy]
  clear hk; go_enter Tryz.func85, Tryz.ntmps85
  go_wp2; go_loopw [6, 7, 8] (fun o q i wr => ∃ k : Nat, k ≤ l.length ∧ i = .int .i64 k ∧ q = .bool (Z5r ((l.take k).map (shB (dx, dy)))) ∧ OwB w.heap.size wr o ((l.take k).map (shB (dx, dy))) ∧ Blk wr w.heap.size 90 #[.int .i64 dx, .int .i64 dy] ∧ Below w.heap.size w wr) (fun _ _ i _ => l.length - (intOf i).toNat)
  case atStart => exact ⟨0, Nat.zero_le _, rfl, rfl, Own.nil_, hB, by (repeat first|exact J0|assumption|(apply J1;assumption)|apply J2|apply J3|apply J4)⟩
  case round =>
    clear hB; obtain ⟨k, hk, rfl, rfl, hO, hBr, hbw⟩ := hrel; obtain ⟨wo, rfl⟩ : ∃ x, x = wr := ⟨_, rfl⟩
    by_cases hlt : k < l.length
    · have hr := h.below hbw
      obtain ⟨b, off, rfl, hb, e0, e1, e2⟩ := hr.bar hlt
      have hbo := HK.out _ (List.getElem_mem hlt)
      have HD := Lib.hid (Z5q (shB (dx, dy)) hlt)
      have HA := Lib.hid (Z5s (f := shB (dx, dy)) hlt)
      have fB := hBr.facts
      obtain ⟨⟨x, y, s⟩, hx⟩ : ∃ z, l[k] = z := ⟨_, rfl⟩
      rw [hx] at e0 e1 e2 hbo HD HA; simp only at e0 e1 e2
      clear hx; obtain ⟨q1, q2, q3⟩ := hbo; simp only at q1 q2 q3
      have hll : ((l.take k).map (shB (dx, dy))).length ≤ 10000 := by simp; omega
      obtain ⟨x1, hx1⟩ : ∃ x1, x + dx = x1 := ⟨_, rfl⟩
      obtain ⟨y1, hy1⟩ : ∃ y1, y + dy = y1 := ⟨_, rfl⟩
      have m1 : IntKind.i64.wrap (x + dx) = x1 := by rw [IntWalk.i64_in _ (by omega)]; omega
      have m2 : IntKind.i64.wrap (y + dy) = y1 := by rw [IntWalk.i64_in _ (by omega)]; omega
      have r1 : -1000000 ≤ x1 ∧ x1 ≤ 1000000 := by omega
      have r2 : -1000000 ≤ y1 ∧ y1 ≤ 1000000 := by omega
      have HS : Hid (shB (dx, dy) (x, y, s) = (x1, y1, s)) := by unfold Hid shB; rw [← hx1, ← hy1]
      clear hx1 hy1; rw [HS.out] at HD HA; obtain ⟨qa, hqa⟩ : ∃ qa, Z5r ((l.take k).map (shB (dx, dy))) = qa := ⟨_, rfl⟩
      rw [hqa]; have HQ := Lib.hid hqa
      clear hqa; go_wp2; refine Z0z [0, 1, 2, 3, 4, 5, 6, 7, 8, 9, 10, 11, 12, 13, 14, 15, 16, 17, 18, 19, 20, 21] [(22, false)] [23] (by kernel_rfl) (by kernel_rfl) (fun d _ _ _ _ h => by cases d <;> exact h) ?_
      simp only [List.map_cons, List.map_nil, List.getD_cons_zero, List.getD_cons_succ]; repeat (go_big_quiet_step (fail))
      refine wpQuiet_nil ?_; refine Z11 rfl (fun K hK => ?_); go_simp; refine hK _ _ (by (repeat first|exact J0|assumption|(apply J1;assumption)|apply J2|apply J3|apply J4)) ?_
      clear hK K; refine Z10 ?_; go_upto_region 7 with fail; have hBN := (Blk.new wo 111 #[.int .i64 x1, .int .i64 y1, .int .i64 s]).drew
      have hBn := (hBr.alloc (.cells #[.int .i64 x1, .int .i64 y1, .int .i64 s] 111)).drew
      have hOn := (hO.alloc (.cells #[.int .i64 x1, .int .i64 y1, .int .i64 s] 111)).drew
      have hbn : Below w.heap.size w ((wo.alloc (.cells #[.int .i64 x1, .int .i64 y1, .int .i64 s] 111)).drew) := by (repeat first|exact J0|assumption|(apply J1;assumption)|apply J2|apply J3|apply J4)
      have fBN := hBN.facts
      clear fB hO hBr; go_cut [7] from 10 to 70 (fun s7 wx => s7 = .bool (qa && inB (x1, y1, s)) ∧ Below ((wo.alloc (.cells #[.int .i64 x1, .int .i64 y1, .int .i64 s] 111)).drew).heap.size ((wo.alloc (.cells #[.int .i64 x1, .int .i64 y1, .int .i64 s] 111)).drew) wx)
      case first =>
        have HI : Hid (inB (x1, y1, s) = (!farB x1 && !farB y1 && !farB (x1 + s) && !farB (y1 + 1))) := rfl
        obtain ⟨f1, h1⟩ : ∃ f, farB x1 = f := ⟨_, rfl⟩
        obtain ⟨f2, h2⟩ : ∃ f, farB y1 = f := ⟨_, rfl⟩
        obtain ⟨f3, h3⟩ : ∃ f, farB (x1 + s) = f := ⟨_, rfl⟩
        obtain ⟨f4, h4⟩ : ∃ f, farB (y1 + 1) = f := ⟨_, rfl⟩
        have c1 := fun W => Z1j x1 W
        have c2 := fun W => Z1j y1 W
        have c3 := fun W => Z1j (x1 + s) W
        have c4 := fun W => Z1j (y1 + 1) W
        simp only [h1, h2, h3, h4] at c1 c2 c3 c4; rw [h1, h2, h3, h4] at HI; clear h1 h2 h3 h4; cases qa
        · as_aux_lemma =>
            go_wp2_with fail; go_meet; case rel => exact ⟨by rw [HI.out]; rfl, by (repeat first|exact J0|assumption|(apply J1;assumption)|apply J2|apply J3|apply J4)⟩
        · cases f1
          rotate_left
          · as_aux_lemma =>
              go_wp2_with fail; refine (c1 _).mono ?_
              rintro e w6 ⟨rfl, hb6⟩; replace hBN := hBN.below (show Below _ _ w6 by (repeat first|exact J0|assumption|(apply J1;assumption)|apply J2|apply J3|apply J4))
              replace fhBN := hBN.facts
              go_wp2_with fail; go_meet; case rel => exact ⟨by rw [HI.out]; rfl, by (repeat first|exact J0|assumption|(apply J1;assumption)|apply J2|apply J3|apply J4)⟩
          · cases f2
            rotate_left
            · as_aux_lemma =>
                go_wp2_with fail; refine (c1 _).mono ?_
                rintro e w6 ⟨rfl, hb6⟩; replace hBN := hBN.below (show Below _ _ w6 by (repeat first|exact J0|assumption|(apply J1;assumption)|apply J2|apply J3|apply J4))
                replace fhBN := hBN.facts
                go_wp2_with fail; refine (c2 _).mono ?_
                rintro e w7 ⟨rfl, hb7⟩; replace hBN := hBN.below (show Below _ _ w7 by (repeat first|exact J0|assumption|(apply J1;assumption)|apply J2|apply J3|apply J4))
                replace fhBN := hBN.facts
                go_wp2_with fail; go_meet; case rel => exact ⟨by rw [HI.out]; rfl, by (repeat first|exact J0|assumption|(apply J1;assumption)|apply J2|apply J3|apply J4)⟩
            · cases f3
              rotate_left
              · as_aux_lemma =>
                  go_wp2_with fail; refine (c1 _).mono ?_
                  rintro e w6 ⟨rfl, hb6⟩; replace hBN := hBN.below (show Below _ _ w6 by (repeat first|exact J0|assumption|(apply J1;assumption)|apply J2|apply J3|apply J4))
                  replace fhBN := hBN.facts
                  go_wp2_with fail; refine (c2 _).mono ?_
                  rintro e w7 ⟨rfl, hb7⟩; replace hBN := hBN.below (show Below _ _ w7 by (repeat first|exact J0|assumption|(apply J1;assumption)|apply J2|apply J3|apply J4))
                  replace fhBN := hBN.facts
                  go_wp2_with fail; refine (c3 _).mono ?_
                  rintro e w8 ⟨rfl, hb8⟩; replace hBN := hBN.below (show Below _ _ w8 by (repeat first|exact J0|assumption|(apply J1;assumption)|apply J2|apply J3|apply J4))
                  replace fhBN := hBN.facts
                  go_wp2_with fail; go_meet; case rel => exact ⟨by rw [HI.out]; rfl, by (repeat first|exact J0|assumption|(apply J1;assumption)|apply J2|apply J3|apply J4)⟩
              · cases f4
                · as_aux_lemma =>
                    go_wp2_with fail; refine (c1 _).mono ?_
                    rintro e w6 ⟨rfl, hb6⟩; replace hBN := hBN.below (show Below _ _ w6 by (repeat first|exact J0|assumption|(apply J1;assumption)|apply J2|apply J3|apply J4))
                    replace fhBN := hBN.facts
                    go_wp2_with fail; refine (c2 _).mono ?_
                    rintro e w7 ⟨rfl, hb7⟩; replace hBN := hBN.below (show Below _ _ w7 by (repeat first|exact J0|assumption|(apply J1;assumption)|apply J2|apply J3|apply J4))
                    replace fhBN := hBN.facts
                    go_wp2_with fail; refine (c3 _).mono ?_
                    rintro e w8 ⟨rfl, hb8⟩; replace hBN := hBN.below (show Below _ _ w8 by (repeat first|exact J0|assumption|(apply J1;assumption)|apply J2|apply J3|apply J4))
                    replace fhBN := hBN.facts
                    go_wp2_with fail; refine (c4 _).mono ?_
                    rintro e w9 ⟨rfl, hb9⟩; replace hBN := hBN.below (show Below _ _ w9 by (repeat first|exact J0|assumption|(apply J1;assumption)|apply J2|apply J3|apply J4))
                    replace fhBN := hBN.facts
                    go_wp2_with fail; go_meet; case rel => exact ⟨by rw [HI.out]; rfl, by (repeat first|exact J0|assumption|(apply J1;assumption)|apply J2|apply J3|apply J4)⟩
                · as_aux_lemma =>
                    go_wp2_with fail; refine (c1 _).mono ?_
                    rintro e w6 ⟨rfl, hb6⟩; replace hBN := hBN.below (show Below _ _ w6 by (repeat first|exact J0|assumption|(apply J1;assumption)|apply J2|apply J3|apply J4))
                    replace fhBN := hBN.facts
                    go_wp2_with fail; refine (c2 _).mono ?_
                    rintro e w7 ⟨rfl, hb7⟩; replace hBN := hBN.below (show Below _ _ w7 by (repeat first|exact J0|assumption|(apply J1;assumption)|apply J2|apply J3|apply J4))
                    replace fhBN := hBN.facts
                    go_wp2_with fail; refine (c3 _).mono ?_
                    rintro e w8 ⟨rfl, hb8⟩; replace hBN := hBN.below (show Below _ _ w8 by (repeat first|exact J0|assumption|(apply J1;assumption)|apply J2|apply J3|apply J4))
                    replace fhBN := hBN.facts
                    go_wp2_with fail; refine (c4 _).mono ?_
                    rintro e w9 ⟨rfl, hb9⟩; replace hBN := hBN.below (show Below _ _ w9 by (repeat first|exact J0|assumption|(apply J1;assumption)|apply J2|apply J3|apply J4))
                    replace fhBN := hBN.facts
                    go_wp2_with fail; go_meet; case rel => exact ⟨by rw [HI.out]; rfl, by (repeat first|exact J0|assumption|(apply J1;assumption)|apply J2|apply J3|apply J4)⟩
      case rest =>
        as_aux_lemma =>
          obtain ⟨rfl, hbc⟩ := hcut; obtain ⟨w5, rfl⟩ : ∃ x, x = wc := ⟨_, rfl⟩
          have hBN5 := hBN.below hbc
          have fBN5 := hBN5.facts
          have hBn5 := hBn.below hbc
          have hO5 := hOn.below hbc
          have hbw5 : Below w.heap.size w w5 := by (repeat first|exact J0|assumption|(apply J1;assumption)|apply J2|apply J3|apply J4)
          clear fBN hBN hBn hOn; go_wp2_with (at_builtin; refine Z5p hO5 rfl _ _ rfl rfl rfl (by simp) (by omega) hbw5.size ?_; intro v6 w6 hown6 hgr6)
          have hb6 := Z41 hO5 hgr6 (by (repeat first|exact J0|assumption|(apply J1;assumption)|apply J2|apply J3|apply J4))
          have hBn6 := (hBn5.alloc (.cells #[.int .i64 x1, .int .i64 y1, .int .i64 s] 111)).grown hgr6 (hO5.ne_blk hBn5 (by decide))
          clear hgr6; go_wp2; go_roundw; case rel => exact ⟨k + 1, by omega, by go_num, by rw [HA.out, HQ.out], by rw [HD.out]; exact hown6, hBn6, hb6⟩
          case measure => simp [intOf]; omega
    · have HE : Hid (l.map (shB (dx, dy)) = (l.take k).map (shB (dx, dy))) := by unfold Hid; rw [List.take_of_length_le (by omega)]
      go_wp2; refine bodyPost_ret (v := .tuple #[_, .bool (Z5r (l.map (shB (dx, dy))))]) (by rw [HE.out]; simp [results, Tryz.results85, go_sem]; rfl) rfl ?_
      exact ⟨_, rfl, by rw [HE.out]; exact hO, hbw⟩
@[go_sem] theorem mk_map {P : Program} (t : TypeId) (w : World) : (Instr.makeMap t none).run P w = .ok (.map (some w.heap.size)) (w.alloc (.map #[] 0)) := rfl
theorem Z5u (w : World) : (zeroValue 3).run Tryz.prog w = .ok (.int .i64 0) w := by kernel_rfl
def RBE (w : World) (l : List Bar) (n : Int) (e : Ending) (w' : World) : Prop := ∃ v, e = .returned (.tuple #[v, .int .i64 n]) ∧ OwB w.heap.size w' v l ∧ Below w.heap.size w w'
theorem Z5v {v : Value} (l : List Bar) (w : World) (h : SlB w v l) : Calls Tryz.prog 135 #[v] w (RV w (.int .i64 (netE l))) := by
 obtain ⟨A, c, rfl, hlc, hcm, h⟩ := h
 exact Z3r l A c w (Nat.le_trans hlc hcm) h
theorem Z4u.len1 {l : List Bar} (h : Z4u l) : l.length ≤ 10000 := Nat.le_trans h.len (by decide)
def Z5w {α : Type} (e : Int) (l : List α) : List α := if e = 0 then l else []
def degE (l : List Bar) (x y : Int) : Int := Z17 [netE l, Z1a x y]
end Go.Proofs.YtpcgeihemkhkjaaGreatDoor

/- A region that draws its order and holds several operations that may come in more than one order, none of which writes what was there: reads are taken, then a fact is shown of each operation's result, whatever came before, then what waits for all of these, as a plain list. Conditions: the Bool 'factsB' over the region. -/
import Derived.Test.YtpcgeihemkhkjaaGreatDoorS01
import Derived.Test.YtpcgeihemkhkjaaGreatDoorS03
import Derived.Deep.MidRow
import Derived.Sort.LotA
import Derived.Shelf.SlSortCmp.Kit1
import Derived.Shelf.SlSortCmp.Insertion
import Derived.Shelf.SlSortCmp.InsertionK
import Derived.Shelf.GgSortFunc.RowK
import Derived.Shelf.GgSortFunc.InsertionK
import Derived.Sort.Grow
import Derived.Lib.Hide
import Derived.Shelf.SlGeneric
import Derived.Shelf.SlLaysF0
import Derived.Shelf.SlLaysH0
import Derived.Shelf.SlLaysE0
import Derived.Shelf.SlLaysE
import Derived.Shelf.SlLaysQ
import Derived.Ground.SlsfProg
import Derived.Ground.SlgfProg
import Derived.Ground.SlgqProg
import Derived.Ground.SlgnProg
import Derived.Test.YtpcgeihemkhkjaaGreatDoorProg
import Derived.Maps.RangeRun
namespace Go.Proofs.YtpcgeihemkhkjaaGreatDoor
open Go.RowKit
section
variable {P : Program} {ops : Array Oper} {Q : Exit → Act → World → Prop} {md : Region.Mode} {B : Nat} {w0 : World} {a0 : Act} {F : Nat → Value → World → Prop}
def Z44 (ops : Array Oper) (vals : Nat → Value) : List Nat → Act → Act
 | [], a => a
 | i :: r, a => Z44 ops vals r (a.put (ops.getD i default).dst (vals i))
theorem Z45 (a : Act) {d e : Option Tmp} (h : d = none ∨ d ≠ e) (u v : Value) : (a.put d u).put e v = (a.put e v).put d u := by
  cases d with
  | none => rfl
  | some d =>
    cases e with
    | none => rfl
    | some e =>
      have hde : d ≠ e := by rcases h with h | h
                             · cases h
                             · simpa using h
      simp only [Act.put]; rw [Array.setIfInBounds_comm _ _ hde]
theorem Z46 (a : Act) (d : Option Tmp) (u v : Value) : (a.put d u).put d v = a.put d v := by
 cases d with
 | none => rfl
 | some d => simp [Act.put]
theorem Z47 (a : Act) (d : Option Tmp) : a.put d (match d with | some d => a.tmps.getD d undef | none => undef) = a := by
 cases d with
 | none => rfl
 | some d =>
  simp only [Act.put]
  have : a.tmps.setIfInBounds d (a.tmps.getD d undef) = a.tmps := by
   apply Array.ext
   ·simp
   ·intro i h1 h2
    rw [Array.getElem_setIfInBounds (by simpa using h1)]
    split
    ·rename_i h; subst h; simp [Array.getD_eq_getD_getElem?, h2]
    ·rfl
  rw [this]
def upd (vals : Nat → Value) (i : Nat) (u : Value) : Nat → Value := fun j => if j = i then u else vals j
def Z48 (ops : Array Oper) : List Nat → Bool
 | [] => true
 | i :: r => r.all (fun j => !(i == j) && ((ops.getD i default).dst.isNone || !((ops.getD i default).dst == (ops.getD j default).dst))) && Z48 ops r
theorem Z49 {vals : Nat → Value} : ∀ (ms : List Nat) (a : Act) (d : Option Tmp) (u : Value), (∀ j ∈ ms, d = none ∨ d ≠ (ops.getD j default).dst) → (Z44 ops vals ms a).put d u = Z44 ops vals ms (a.put d u)
 | [], _, _, _, _ => rfl
 | j :: r, a, d, u, h => by
  simp only [Z44]; rw [Z49 r _ d u (fun k hk => h k (by simp [hk]))]
  congr 1
  have := h j (by simp)
  rcases this with h1 | h1
  ·subst h1; rfl
  ·exact (Z45 a (.inr h1) u _).symm
theorem Z4a {vals vals' : Nat → Value} : ∀ (ms : List Nat) (a : Act), (∀ j ∈ ms, vals j = vals' j) → Z44 ops vals ms a = Z44 ops vals' ms a
 | [], _, _ => rfl
 | j :: r, a, h => by
  simp only [Z44]; rw [h j (by simp), Z4a r _ (fun k hk => h k (by simp [hk]))]
theorem Z4b {vals : Nat → Value} : ∀ (ms : List Nat) (a : Act) (i : Nat) (u : Value), Z48 ops ms = true → i ∈ ms → (Z44 ops vals ms a).put (ops.getD i default).dst u = Z44 ops (upd vals i u) ms a
 | [], _, _, _, _, h => by cases h
 | j :: r, a, i, u, hA, hi => by
  simp only [Z48, Bool.and_eq_true] at hA; have hall := List.all_eq_true.1 hA.1
  by_cases hij : i = j
  ·subst hij
   have hni : ∀ k ∈ r, i ≠ k := fun k hk e => by
    have := hall k hk
    subst e; simp at this
   simp only [Z44]
   rw [Z49 r _ _ u (fun k hk => by
    have := hall k hk
    simp only [Bool.and_eq_true, Bool.or_eq_true] at this; rcases this.2 with h | h
    ·exact .inl (by simpa using h)
    ·exact .inr (by simpa using h))]
   rw [Z46, show upd vals i u i = u by simp [upd]]
   exact Z4a r _ fun k hk => by simp [upd, (hni k hk).symm]
  ·have hir : i ∈ r := by simpa [hij] using hi
   simp only [Z44]; rw [Z4b r _ i u hA.2 hir, show upd vals i u j = vals j by simp [upd, Ne.symm hij]]
theorem Z4c : ∀ (ms : List Nat) (a : Act), Z44 ops (fun i => match (ops.getD i default).dst with | some d => a.tmps.getD d undef | none => undef) ms a = a
 | [], _ => rfl
 | i :: r, a => by
  simp only [Z44]; rw [Z47]; exact Z4c r a
def Z4d (md : Region.Mode) (ops : Array Oper) (ms post : List Nat) : Nat → Array Bool → Bool
 | 0, listed => (ms.all fun j => listed.getD j false) && Z0p md ops post listed
 | n + 1, listed => !(Region.ready md ops listed).isEmpty && (Region.ready md ops listed).all fun j => ms.contains j && !post.contains j && Z4d md ops ms post n (listed.setIfInBounds j true)
def Z4e (md : Region.Mode) (ops : Array Oper) (ms : List Nat) (i : Nat) : List Nat := ms.filter fun j => Z0f md ops ops.size i j
def New (D : List Nat) (i : Nat) (u : Value) (W W' : World) : Prop := i ∈ D → ∃ g, u = .pointer (some ⟨g, 0, none⟩) ∧ W.heap.size ≤ g ∧ g < W'.heap.size
def Z4f (D : List Nat) (vals : Nat → Value) (w0 W : World) : Prop := (∀ j ∈ D, ∃ g, vals j = .pointer (some ⟨g, 0, none⟩) ∧ w0.heap.size ≤ g ∧ g < W.heap.size) ∧ ∀ i ∈ D, ∀ j ∈ D, i ≠ j → vals i ≠ vals j
theorem Z4f.step {D : List Nat} {vals : Nat → Value} {w0 W W' : World} {listed : Array Bool} {i : Nat} {u : Value} (hs : w0.heap.size ≤ W.heap.size) (hs' : W.heap.size ≤ W'.heap.size) (h : Z4f (D.filter fun j => listed.getD j false) vals w0 W) (hn : New D i u W W') :
    Z4f (D.filter fun j => (listed.setIfInBounds i true).getD j false) (upd vals i u) w0 W' := by
  obtain ⟨h1, h2⟩ := h
  have old : ∀ j, j ∈ D.filter (fun j => (listed.setIfInBounds i true).getD j false) → j ≠ i → j ∈ D.filter fun j => listed.getD j false := fun j hj hji => by
    simp only [List.mem_filter] at hj ⊢; rw [getD_set_ne false (Ne.symm hji)] at hj
    exact hj
  have mem : ∀ j, j ∈ D.filter (fun j => (listed.setIfInBounds i true).getD j false) → j ∈ D := fun j hj => (List.mem_filter.1 hj).1
  have far : ∀ j, j ∈ D.filter (fun j => (listed.setIfInBounds i true).getD j false) → j ≠ i → i ∈ D → vals j ≠ u := fun j hj hji hi e => by
    obtain ⟨g, hg, _, hlt⟩ := h1 j (old j hj hji)
    obtain ⟨g', hg', hge, _⟩ := hn hi
    rw [hg, hg'] at e; simp at e
  refine ⟨fun j hj => ?_, fun k hk j hj hkj => ?_⟩
  · by_cases hji : j = i
    · subst hji
      obtain ⟨g, hg, hge, hlt⟩ := hn (mem _ hj)
      exact ⟨g, by simp [upd, hg], by omega, hlt⟩
    · obtain ⟨g, hg, hge, hlt⟩ := h1 j (old j hj hji)
      exact ⟨g, by simp [upd, hji, hg], hge, by omega⟩
  · by_cases hji : j = i
    · have hki : k ≠ i := fun e => hkj (e.trans hji.symm)
      have := far k hk hki (hji ▸ mem _ hj)
      simpa [upd, hji, hki] using this
    · by_cases hki : k = i
      · have := far j hj hji (hki ▸ mem _ hk)
        simpa [upd, hji, hki] using this.symm
      · simpa [upd, hji, hki] using h2 k (old k hk hki) j (old j hj hji) hkj
theorem Z4g {D ms post : List Nat} (hD : (D.all fun i => ms.contains i) = true) (hA : Z48 ops ms = true) (hG : (ms.all fun i => (ops.getD i default).guard == none) = true)
    (hst : ∀ i v W W', F i v W → Below W.heap.size W W' → F i v W')
    (hop : ∀ i ∈ ms, ∀ vals W, Below w0.heap.size w0 W → (∀ j ∈ Z4e md ops ms i, F j (vals j) W) →
      (ops.getD i default).wp P (Z44 ops vals ms a0) W (fun a' W' => Below W.heap.size W W' ∧ ∃ u, a' = (Z44 ops vals ms a0).put (ops.getD i default).dst u ∧ F i u W' ∧ New D i u W W') Q)
    (hend : ∀ vals W, Below w0.heap.size w0 W → (∀ j ∈ ms, F j (vals j) W) → Z4f D vals w0 W → wpList P ops Q (post.map fun i => ops.getD i default) (Z44 ops vals ms a0) W) :
    ∀ (n : Nat) (listed : Array Bool) (vals : Nat → Value) (W : World), Z0g md ops listed → Below w0.heap.size w0 W → (∀ j ∈ ms, listed.getD j false = true → F j (vals j) W) → Z4f (D.filter fun j => listed.getD j false) vals w0 W → Z4d md ops ms post n listed = true →
      Z0d P md ops Q (fun w' => ∃ g : Bel w0.heap.size w0, w' = g.val) (fun j => !post.contains j) (n + post.length) listed (Z44 ops vals ms a0) W
  | 0, listed, vals, W, hcl, hb, hF, hAp, hB => by
    rw [Nat.zero_add]; simp only [Z4d, Bool.and_eq_true] at hB; have hall := List.all_eq_true.1 hB.1
    exact Z0t post listed _ W (fun i hi => by simp [hi]) hB.2 (hend vals W hb (fun j hj => hF j hj (hall j hj)) (by
      rwa [List.filter_eq_self.2 (fun j hj => hall j (by simpa using List.all_eq_true.1 hD j hj))] at hAp))
  | n + 1, listed, vals, W, hcl, hb, hF, hAp, hB => by
    rw [show n + 1 + post.length = (n + post.length) + 1 by omega]
    simp only [Z4d, Bool.and_eq_true, Bool.not_eq_true'] at hB; have hall := List.all_eq_true.1 hB.2
    refine ⟨fun h0 => (by rw [h0] at hB; simp at hB), fun i hi => ?_⟩
    have hi2 := hall i hi
    simp only [Bool.and_eq_true] at hi2; have him : i ∈ ms := by simpa using hi2.1.1
    obtain ⟨hun, o, ho, hpre⟩ := mem_ready.1 hi
    have hg : ops.getD i default = o := by simp [ho]
    have hgu : o.guard = none := by
      have := List.all_eq_true.1 hG i him
      rw [hg] at this; simpa using this
    have h1 := hop i him vals W hb (fun j hj => by
      simp only [Z4e, List.mem_filter] at hj
      exact hF j hj.1 (Z0h hcl ops.size i hj.2 (fun oj hoj e he hbd => by
        obtain rfl : o = oj := Option.some.inj (ho.symm.trans hoj)
        exact hpre e he hbd)))
    rw [hg] at h1; unfold wpOp; simp only [ho]; have hw : Region.wanted o (yielded ops (Z44 ops vals ms a0).tmps) = true := by simp [Region.wanted, hgu]
    rw [if_pos hw]; refine .inl (Oper.wp_mono (fun a' W' h' => ?_) h1)
    obtain ⟨hbW, u, rfl, hu, hnew⟩ := h'; have hb' : Below w0.heap.size w0 W' := Z08 hbW hb
    refine ⟨fun _ => Bel.ex hb', ?_⟩
    have e := Z4b (vals := vals) ms a0 i u hA him
    rw [hg] at e; rw [e]; refine Z4g hD hA hG hst hop hend n (listed.setIfInBounds i true) (upd vals i u) W' (hcl.set hi) hb' (fun j hj hl => ?_) (Z4f.step hb.size hbW.size hAp hnew) hi2.2
    by_cases hij : j = i
    · subst hij
      simpa [upd] using hu
    · have : (upd vals i u) j = vals j := by simp [upd, hij]
      rw [this]; exact hst j _ W W' (hF j hj (by rwa [getD_set_ne false (Ne.symm hij)] at hl)) hbW
def Z4h (md : Region.Mode) (ops : Array Oper) (ms post : List Nat) : List Nat → Array Bool → Bool
 | [], listed => Z4d md ops ms post ms.length listed && ms.all fun j => !listed.getD j false
 | i :: r, listed => Z0q md ops post i listed && Z4h md ops ms post r (listed.setIfInBounds i true)
def Z4i (md : Region.Mode) (ops : Array Oper) (pre ms post : List Nat) : Bool :=
 Region.noSelect ops && decide (ops.size = pre.length + (ms.length + post.length)) && Z48 ops ms && (ms.all fun i => (ops.getD i default).guard == none) && Z4h md ops ms post pre (Array.replicate ops.size false)
theorem Z4j {D ms post : List Nat} (hD : (D.all fun i => ms.contains i) = true) {w : World} (hs : Region.noSelect ops = true) (hQ : ∀ d c a v w, Q (.panic c) (Act.put a d v) w → Q (.panic c) a w) (hA : Z48 ops ms = true) (hG : (ms.all fun i => (ops.getD i default).guard == none) = true) (hb : Below w0.heap.size w0 w)
    (hst : ∀ i v W W', F i v W → Below W.heap.size W W' → F i v W') :
    ∀ (pre : List Nat) (listed : Array Bool) (a : Act), Z0g md ops listed → Z4h md ops ms post pre listed = true →
    wpQuiet P ops (fun w' => ∃ g : Bel w0.heap.size w0, w' = g.val) (fun a' => (∀ i ∈ ms, ∀ vals W, Below w0.heap.size w0 W → (∀ j ∈ Z4e md ops ms i, F j (vals j) W) →
        (ops.getD i default).wp P (Z44 ops vals ms a') W (fun a'' W' => Below W.heap.size W W' ∧ ∃ u, a'' = (Z44 ops vals ms a').put (ops.getD i default).dst u ∧ F i u W' ∧ New D i u W W') Q) ∧
      (∀ vals W, Below w0.heap.size w0 W → (∀ j ∈ ms, F j (vals j) W) → Z4f D vals w0 W → wpList P ops Q (post.map fun i => ops.getD i default) (Z44 ops vals ms a') W)) (pre.map fun i => ops.getD i default) a →
    Z0d P md ops Q (fun w' => ∃ g : Bel w0.heap.size w0, w' = g.val) (fun j => !post.contains j) (pre.length + (ms.length + post.length)) listed a w
  | [], listed, a, hcl, hB, h => by
    rw [List.length_nil, Nat.zero_add]; simp only [Z4h, Bool.and_eq_true] at hB; have hn := List.all_eq_true.1 hB.2
    have := Z4g (md := md) (a0 := a) hD hA hG hst h.1 h.2 ms.length listed (fun i => match (ops.getD i default).dst with | some d => a.tmps.getD d undef | none => undef) w hcl hb (fun j hj hl => by have := hn j hj; rw [hl] at this; cases this) (by
      rw [List.filter_eq_nil_iff.2 (fun j hj => by have := hn j (by simpa using List.all_eq_true.1 hD j hj); simpa using this)]
      exact ⟨fun j hj => by simp at hj, fun i hi => by simp at hi⟩) hB.1
    rw [Z4c] at this; exact this
  | i :: r, listed, a, hcl, hB, h => by
    rw [List.length_cons, show r.length + 1 + (ms.length + post.length) = (r.length + (ms.length + post.length)) + 1 by omega]
    simp only [Z4h, Bool.and_eq_true] at hB; simp only [List.map_cons] at h; unfold wpQuiet at h
    exact Z0u (post := post) hs hQ (Bel.ex hb) (o := ops.getD i default) rfl hcl hB.1 (fun a' => wpQuiet P ops _ _ (r.map fun i => ops.getD i default) a')
      (fun v h' => Z4j hD hs hQ hA hG hb hst r _ _ (hcl.set (Z0v hB.1)) hB.2 h') h
theorem Z4k {id : Nat} {a : Act} {w : World} {l : List Oper} (F : Nat → Value → World → Prop) (pre D ms post : List Nat) (hD : (D.all fun i => ms.contains i) = true) (hm : P.follows .mixedOrders = true) (hB : Z4i .any l.toArray pre ms post = true)
    (hQ : ∀ d c a v w, Q (.panic c) (Act.put a d v) w → Q (.panic c) a w) (hst : ∀ i v W W', F i v W → Below W.heap.size W W' → F i v W')
    (h : wpQuiet P l.toArray (fun w' => ∃ g : Bel w.heap.size w, w' = g.val) (fun a' => (∀ i ∈ ms, ∀ vals W, Below w.heap.size w W → (∀ j ∈ Z4e .any l.toArray ms i, F j (vals j) W) →
        (l.getD i default).wp P (Z44 l.toArray vals ms a') W (fun a'' W' => Below W.heap.size W W' ∧ ∃ u, a'' = (Z44 l.toArray vals ms a').put (l.getD i default).dst u ∧ F i u W' ∧ New D i u W W') Q) ∧
      (∀ vals W, Below w.heap.size w W → (∀ j ∈ ms, F j (vals j) W) → Z4f D vals w W → wpList P l.toArray Q (post.map fun i => l.getD i default) (Z44 l.toArray vals ms a') W)) (pre.map fun i => l.getD i default) a) :
    (Code.region id l.toArray true).wp P Q a w := by
  simp only [Z4i, Bool.and_eq_true, decide_eq_true_eq] at hB; obtain ⟨⟨⟨⟨hs, hn⟩, hA⟩, hG⟩, hB'⟩ := hB; refine wp_region_any hm (Z0e (C := fun w' => ∃ g : Bel w.heap.size w, w' = g.val) (kp := fun j => !post.contains j) _ _ _ _ ?_)
  have e : ∀ (xs : List Nat), (xs.map fun i => l.toArray.getD i default) = xs.map fun i => l.getD i default := fun xs => List.map_congr_left fun i _ => by simp [Array.getD_eq_getD_getElem?, List.getD_eq_getElem?_getD]
  have e2 : ∀ i, l.toArray.getD i default = l.getD i default := fun i => by simp [Array.getD_eq_getD_getElem?, List.getD_eq_getElem?_getD]
  have := Z4j (md := .any) (w0 := w) (w := w.drew) (F := F) (ops := l.toArray) (ms := ms) (post := post) hD hs hQ hA hG (Below.refl w.heap.size w).drew hst pre _ a (Z0g.start _) hB' (by
    rw [e, e]; simp only [e2]; exact h)
  rw [← hn] at this; exact this
theorem Z4l {D : List Nat} {o : Oper} {a : Act} {W : World} {i : Nat} (h : ∀ K : Act → World → Prop, (∀ u W' a', a' = a.put o.dst u → Below W.heap.size W W' → F i u W' → New D i u W W' → K a' W') → o.wp P a W K Q) :
  o.wp P a W (fun a'' W' => Below W.heap.size W W' ∧ ∃ u, a'' = a.put o.dst u ∧ F i u W' ∧ New D i u W W') Q :=
 h _ fun u _ _ he hb hf hn => ⟨hb, u, he, hf, hn⟩
end
section
variable {P : Program} {w : World} {g : Nat} {t : TypeId} {cs cells : Array Value}
theorem Z4m : ∀ (vs : List Value) (o : Nat) (w : World) (cs : Array Value), Blk w g t cs → (∃ C, Blk (w.setCells g o vs) g t C ∧ C.size = cs.size) ∧ Chg [g] w (w.setCells g o vs)
 | [], _, w, cs, h => ⟨⟨cs, h, rfl⟩, Chg.refl⟩
 | v :: r, o, w, cs, h => by
  simp only [World.setCells]; obtain ⟨⟨C, h1, h2⟩, h3⟩ := Z4m r (o + 1) (w.setCell ⟨g, o, none⟩ v) _ (h.set_ o v)
  refine ⟨⟨C, h1, by simpa using h2⟩, Chg.trans (W := w.setCell ⟨g, o, none⟩ v) ⟨rfl, rfl, rfl, by simp, fun k _ hn => Below.heap_setCell w ⟨g, o, none⟩ v k (by simpa using hn)⟩ h3⟩
theorem Blk.store_ (h : Blk w g t cs) (ty : TypeId) (hsz : cells.size = cs.size) (hi : (P.info? ty).map (·.size) = some cells.size) (h1 : cells.all (·.oneCell') = true) :
  ∃ W', (storeVar ty ⟨g, 0, none⟩ (.agg cells)).run P w = .ok () W' ∧ Blk W' g t cells ∧ Chg [g] w W' := by
 have ht : w.there g 0 cells.size := fun j hj => by
  rw [Nat.zero_add, h.cell, h.frozen]; simp [hsz ▸ hj]
 refine ⟨_, run_storeVar_mid w g 0 ty cells ht hi h1, ?_, (Z4m _ _ _ _ h).2⟩
 obtain ⟨C, hC, hCs⟩ := (Z4m (g := g) (t := t) cells.toList 0 w cs h).1
 have hr := World.rangeAt_setCells_same w g 0 cells.toList (by simpa using ht)
 have : C = cells := by
  apply Array.ext
  ·omega
  ·intro i h1 h2
   have := hr i cells[i] (by simp [h2])
   rw [Nat.zero_add, hC.cell] at this; simpa [h1] using this
 unfold Blk at hC ⊢
 rw [hC, this]
theorem Own.chg {α : Type} {enc : α → List Value} {sz base : Nat} {e : TypeId} {w w' : World} {v : Value} {l : List α} {S : List Nat} (h : Own enc sz base e w v l) (hc : Chg S w w') (hS : ∀ k ∈ S, k < base) : Own enc sz base e w' v l := by
 obtain ⟨h1, h2⟩ := h
 refine ⟨h1, ?_⟩
 rcases h2 with h2 | ⟨g, cap, cur, hv, hg, hh, r⟩
 ·exact .inl h2
 ·exact .inr ⟨g, cap, cur, hv, hg, (hc.block g (Array.getElem?_eq_some_iff.1 hh).1 (fun hm => by have := hS g hm; omega)).trans hh, r⟩
theorem Own.shape {α : Type} {enc : α → List Value} {sz base : Nat} {e : TypeId} {w : World} {v : Value} {l : List α} (h : Own enc sz base e w v l) : ∃ A c, v = .slice A l.length c := by
 rcases h.2 with ⟨rfl, hn⟩ | ⟨g, cap, cur, rfl, _⟩
 ·exact ⟨none, 0, by rw [hn]⟩
 ·exact ⟨_, _, rfl⟩
theorem Blk.new1 (w : World) (o : Obj) (t : TypeId) (cs : Array Value) : Blk ((w.alloc o).alloc (.cells cs t)) (w.heap.size + 1) t cs := by
 have := Blk.new (w.alloc o) t cs
 simpa using this
theorem Blk.new2 (w : World) (o o' : Obj) (t : TypeId) (cs : Array Value) : Blk (((w.alloc o).alloc o').alloc (.cells cs t)) (w.heap.size + 1 + 1) t cs := by
 have := Blk.new ((w.alloc o).alloc o') t cs
 simpa using this
theorem Z4n {ops : Array Oper} {rest : List Oper} {op : Oper} {a : Act} {Q : Exit → Act → World → Prop} (h : Blk w g t cs) (hgd : op.guard = none) (ty : TypeId) (x y : Operand) (ho : op.op = .store ty x y)
  (hx : a.eval x = .pointer (some ⟨g, 0, none⟩)) (hy : a.eval y = .agg cells) (hsz : cells.size = cs.size) (hi : (P.info? ty).map (·.size) = some cells.size) (h1 : cells.all (·.oneCell') = true)
  (hK : ∀ W', Blk W' g t cells → Chg [g] w W' → wpList P ops Q rest (a.put op.dst undef) W') : wpList P ops Q (op :: rest) a w := by
 refine wpList_plain hgd fun K hK' => ?_
 obtain ⟨W', hr, h2, h3⟩ := h.store_ (P := P) ty hsz hi h1
 unfold Oper.wp execOp
 simp only [ho, hx, hy, Instr.storeAt, Instr.sureAddr, Sem.run_bind, Sem.run_pure, Result.andThen_ok, hr]
 exact hK' _ _ (hK W' h2 h3)
end
set_option maxHeartbeats 2000000
set_option maxRecDepth 100000
@[go_sem] theorem store_func (P : Program) (w : World) (p : Addr) (f : Fn) (a b : Array Value) : (store p (.func f a b)).run P w = match w.cell? p with
      | some _ => if w.frozen? p then .halt (.unsupported (.unsafePointer "a write to bytes that a string shares")) w else .ok () (w.setCell p (.func f a b))
      | none => match w.farStore P p (.func f a b) (Mode.plain == .atomic) with
        | .ok (w', _) => .ok () w'
        | .error h => .halt h w := run_store P w p (.func f a b) .plain rfl
def Z4o (b : Bar) : Prop := (-200000 ≤ b.1 ∧ b.1 ≤ 200000) ∧ (-200000 ≤ b.2.1 ∧ b.2.1 ≤ 200000) ∧ (b.2.2 = 1 ∨ b.2.2 = -1)
def bltP (a b : Bar) : Prop := Z1u a.1 a.2.1 a.2.2 b.1 b.2.1 b.2.2 = true
theorem Z4p (a b : Bar) : bltP a b ↔ a.2.1 < b.2.1 ∨ a.2.1 = b.2.1 ∧ (a.1 < b.1 ∨ a.1 = b.1 ∧ a.2.2 < b.2.2) := by simp [bltP, Z1u]
theorem Z4q {a b c : Bar} (h : bltP a b) (h' : bltP b c) : bltP a c := by
 rw [Z4p] at *
 omega
theorem Z4r (a : Bar) : ¬ bltP a a := by
 rw [Z4p]
 omega
theorem Z4s {x y s : Int} (h : barE x y s = 0) : Z4o (x, y, s) := by
 unfold barE at h
 split at h
 ·rename_i h1
  exact absurd h (by simpa using h1)
 ·rename_i h1
  obtain ⟨a1, a2, a3, a4, _⟩ := Z22 (by simpa using h1)
  split at h
  ·cases h
  ·rename_i h2
   refine ⟨⟨by show -200000 ≤ x; omega, by show x ≤ 200000; omega⟩, ⟨by show -200000 ≤ y; omega, by show y ≤ 200000; omega⟩, ?_⟩
   show s = 1 ∨ s = -1
   omega
theorem Z4t : ∀ (l : List Bar) (p : Option Bar), Z1w p l = 0 → (∀ b ∈ l, Z4o b) ∧ l.Pairwise bltP ∧ ∀ q, p = some q → ∀ b ∈ l, bltP q b
 | [], _, _ => ⟨by simp, List.Pairwise.nil, by simp⟩
 | b :: r, p, h => by
  unfold Z1w at h; split at h
  ·rename_i h1
   exact absurd h h1
  ·rename_i h1
   split at h
   ·cases h
   ·rename_i h2
    obtain ⟨i1, i2, i3⟩ := Z4t r (some b) h
    have hq : ∀ q, p = some q → bltP q b := fun q hq => by
     subst hq; simpa [bltP] using h2
    refine ⟨?_, List.Pairwise.cons (i3 b rfl) i2, fun q hp c hc => ?_⟩
    ·intro c hc
     rcases List.mem_cons.1 hc with rfl | hc
     ·exact Z4s (by simpa using h1)
     ·exact i1 c hc
    ·rcases List.mem_cons.1 hc with rfl | hc
     ·exact hq q hp
     ·exact Z4q (hq q hp) (i3 b rfl c hc)
structure Z4u (l : List Bar) : Prop where
 len : l.length ≤ 4096
 ok : ∀ b ∈ l, Z4o b
 sorted : l.Pairwise bltP
theorem Z4v {l : List Bar} (h : netE l = 0) : Z4u l := by
 unfold netE at h
 split at h
 ·cases h
 ·rename_i h1
  obtain ⟨i1, i2, _⟩ := Z4t l none h
  exact ⟨by omega, i1, i2⟩
def kltP (a b : Knot) : Prop := a.2 < b.2 ∨ a.2 = b.2 ∧ a.1 < b.1
instance (a b : Knot) : Decidable (kltP a b) := inferInstanceAs (Decidable (a.2 < b.2 ∨ a.2 = b.2 ∧ a.1 < b.1))
theorem Z4w {l : List Bar} (h : l.Pairwise bltP) : l.Nodup := h.imp fun hab e => by subst e; exact Z4r _ hab
instance (a b : Bar) : Decidable (bltP a b) := inferInstanceAs (Decidable (Z1u a.1 a.2.1 a.2.2 b.1 b.2.1 b.2.2 = true))
end Go.Proofs.YtpcgeihemkhkjaaGreatDoor
namespace Go.Proofs.YtpcgeihemkhkjaaGreatDoor
open Go.Shelf
def Z4x : Go.Shelf.Ren := ⟨fun | 41 => 242 | n => n, fun | 22 => 244 | 23 => 5 | 4 => 4 | n => n, fun | n => n⟩
theorem Z4y : Go.Proofs.SlLaysE0.n41 Tryz.prog Z4x := {
 mixed := by kernel_rfl
 f41 := ⟨Tryz.f242.name, by decide, Tryz.func242.trans (congrArg some (by kernel_rfl))⟩
 t4 := Tryz.underlying4
 a4 := Tryz.isAgg4
 z4 := Tryz.sizeOf4
 v4 := Tryz.zeroValue4
 t22 := Tryz.underlying244
 a22 := Tryz.isAgg244
 z22 := Tryz.sizeOf244
 v22 := Tryz.zeroValue244 }
def Z4z : Go.Shelf.Ren := ⟨fun | 35 => 241 | n => n, fun | 22 => 95 | 23 => 133 | 3 => 3 | 4 => 4 | 0 => 0 | n => n, fun | n => n⟩
theorem Z50 : Go.Proofs.SlLaysE0.n35 Tryz.prog Z4z := {
 mixed := by kernel_rfl
 f35 := ⟨Tryz.f241.name, by decide, Tryz.func241.trans (congrArg some (by kernel_rfl))⟩
 t0 := Tryz.underlying0
 a0 := Tryz.isAgg0
 z0 := Tryz.sizeOf0
 v0 := Tryz.zeroValue0
 t3 := Tryz.underlying3
 a3 := Tryz.isAgg3
 z3 := Tryz.sizeOf3
 v3 := Tryz.zeroValue3
 t4 := Tryz.underlying4
 a4 := Tryz.isAgg4
 z4 := Tryz.sizeOf4
 v4 := Tryz.zeroValue4
 t22 := Tryz.underlying95
 a22 := Tryz.isAgg95
 z22 := Tryz.sizeOf95
 v22 := Tryz.zeroValue95 }
def Z51 : Go.Shelf.Ren := ⟨fun | 35 => 243 | n => n, fun | 22 => 244 | 23 => 5 | 3 => 3 | 4 => 4 | 0 => 0 | n => n, fun | n => n⟩
theorem Z52 : Go.Proofs.SlLaysE.n35 Tryz.prog Z51 := {
 mixed := by kernel_rfl
 f35 := ⟨Tryz.f243.name, by decide, Tryz.func243.trans (congrArg some (by kernel_rfl))⟩
 t0 := Tryz.underlying0
 a0 := Tryz.isAgg0
 z0 := Tryz.sizeOf0
 v0 := Tryz.zeroValue0
 t3 := Tryz.underlying3
 a3 := Tryz.isAgg3
 z3 := Tryz.sizeOf3
 v3 := Tryz.zeroValue3
 t4 := Tryz.underlying4
 a4 := Tryz.isAgg4
 z4 := Tryz.sizeOf4
 v4 := Tryz.zeroValue4
 t22 := Tryz.underlying244
 a22 := Tryz.isAgg244
 z22 := Tryz.sizeOf244
 v22 := Tryz.zeroValue244
 a23 := Tryz.isAgg5
 z23 := Tryz.sizeOf5 }
open Go.RowKit Go.Sort
set_option maxHeartbeats 2000000
set_option maxRecDepth 100000
theorem Z53 {α : Type} {enc : α → List Value} {sz : Nat} (hk : ∀ x, (enc x).length = sz) : ∀ l : List α, (l.flatMap enc).length = l.length * sz
 | [] => by simp
 | x :: r => by rw [List.flatMap_cons, List.length_append, hk, Z53 hk r, List.length_cons, Nat.succ_mul]; omega
section
variable {α : Type} [Inhabited α] {enc : α → List Value} {sz : Nat} {e : TypeId} {w : World}
theorem Z54 (hk : ∀ x, (enc x).length = sz) {l : List α} {t : Nat} (ht : t < l.length * sz) : (flatK enc sz l.toArray)[t]! = (l.flatMap enc)[t]! := by
 have hpos : 0 < sz := by
  rcases Nat.eq_zero_or_pos sz with h | h
  ·rw [h] at ht; simp at ht
  ·exact h
 have hd : t / sz < l.length := Nat.div_lt_of_lt_mul (by rw [Nat.mul_comm]; exact ht)
 have hm : t % sz < (enc l[t / sz]).length := by rw [hk]; exact Nat.mod_lt _ hpos
 have h := Z00 hk l (t / sz) l[t / sz] (t % sz) _ (List.getElem?_eq_getElem hd) (List.getElem?_eq_getElem hm)
 have hdm : t / sz * sz + t % sz = t := by rw [Nat.mul_comm]; exact Nat.div_add_mod t sz
 rw [hdm] at h
 rw [get_flatK _ _ _ _ (by simpa using ht), getElem!_pos l.toArray (t / sz) (by simpa using hd)]
 simp only [List.getElem_toArray]
 simp only [List.getElem!_eq_getElem?_getD, h, List.getElem?_eq_getElem hm]
theorem Z55 (hk : ∀ x, (enc x).length = sz) {base g cap : Nat} {l : List α} (h : Own enc sz base e w (.slice (some ⟨g, 0, none⟩) l.length cap) l) : HoldsK enc sz w g 0 l.toArray ∧ g < w.heap.size := by
 obtain ⟨hl, hc⟩ := h
 rcases hc with ⟨hv, _⟩ | ⟨g', cap', cur, hv, hg, hh, hnc, hcm, hcs, htk⟩
 ·cases hv
 ·obtain ⟨rfl, rfl⟩ : g = g' ∧ cap = cap' := by simpa using hv
  have hlt := (Array.getElem?_eq_some_iff.1 hh).1
  refine ⟨fun j hj => ?_, hlt⟩
  have hj' : j < l.length * sz := by simpa using hj
  refine ⟨?_, by simp [World.frozen?, hh]⟩
  rw [Nat.zero_add, cell_of_row w g j cur e (0, 0) hh, Z54 hk hj', ← htk]
  have hj2 : j < cur.size := by rw [hcs]; exact Nat.lt_of_lt_of_le hj' (Nat.mul_le_mul_right _ hnc)
  simp [List.getElem!_eq_getElem?_getD, hj', hj2]
theorem Z56 (hk : ∀ x, (enc x).length = sz) {base g cap : Nat} {l l' : List α} (h : Own enc sz base e w (.slice (some ⟨g, 0, none⟩) l.length cap) l) (hll : l'.length = l.length) (n : Nat) (os : Array Obj) :
  Own enc sz base e (sortWorldK enc sz w g 0 n l'.toArray os) (.slice (some ⟨g, 0, none⟩) l.length cap) l' ∧ w.grownBy (sortWorldK enc sz w g 0 n l'.toArray os) (some g) := by
 obtain ⟨hl, hc⟩ := h
 rcases hc with ⟨hv, _⟩ | ⟨g', cap', cur, hv, hg, hh, hnc, hcm, hcs, htk⟩
 ·cases hv
 ·obtain ⟨rfl, rfl⟩ : g = g' ∧ cap = cap' := by simpa using hv
  have hlt := (Array.getElem?_eq_some_iff.1 hh).1
  have hheap : ∀ k, k < w.heap.size → (sortWorldK enc sz w g 0 n l'.toArray os).heap[k]? = if g = k then some (.cells (putCells id 0 (flatK enc sz l'.toArray) cur) e (0, 0)) else w.heap[k]? := by
   intro k hk'
   have e1 : (sortWorldK enc sz w g 0 n l'.toArray os).heap[k]? = (mapBlock w g (putCells id 0 (flatK enc sz l'.toArray))).heap[k]? := by
    show (_ ++ os)[k]? = _
    rw [Array.getElem?_append_left (by simpa [putRowK, putRow, mapBlock, Sort.ahead] using hk')]
    rfl
   rw [e1]; simp only [mapBlock, Array.getElem?_modify]; by_cases hgk : g = k
   ·subst hgk
    simp [hh, onCells]
   ·simp [hgk]
  refine ⟨⟨by rw [Z53 hk, hll], .inr ⟨g, cap, putCells id 0 (flatK enc sz l'.toArray) cur, by rw [hll], hg, by rw [hheap g hlt, if_pos rfl], by omega, hcm, by simpa [putCells] using hcs, ?_⟩⟩, ?_⟩
  ·apply List.ext_getElem?
   intro t; rw [List.getElem?_take]
   by_cases ht : t < l'.length * sz
   ·have ht2 : t < cur.size := by rw [hcs]; exact Nat.lt_of_lt_of_le ht (Nat.mul_le_mul_right _ (by omega))
    have h3 : t < (l'.flatMap enc).length := by rw [Z53 hk]; exact ht
    have h4 := Z54 hk ht
    rw [List.getElem!_eq_getElem?_getD, List.getElem?_eq_getElem h3] at h4
    simp only [Option.getD_some] at h4; rw [if_pos ht, List.getElem?_eq_getElem h3]
    simp only [putCells, Array.toList_mapIdx, List.getElem?_mapIdx, Array.getElem?_toList, Array.getElem?_eq_getElem ht2, Option.map_some, Nat.zero_le, true_and, Nat.zero_add, size_flatK, List.size_toArray, ht, if_true, Nat.sub_zero, id_eq]; rw [h4]
   ·rw [if_neg ht, List.getElem?_eq_none (by rw [Z53 hk]; omega)]
  ·refine ⟨rfl, rfl, rfl, ?_, fun k hk' hne => ?_⟩
   ·show w.heap.size ≤ (_ ++ os).size
    rw [Array.size_append]; simp [putRowK, putRow, mapBlock, Sort.ahead]
   ·rw [hheap k hk', if_neg (fun e => hne (by rw [e]))]
end
end Go.Proofs.YtpcgeihemkhkjaaGreatDoor
namespace Go.Proofs.YtpcgeihemkhkjaaGreatDoor
open Go.RowKit
set_option maxHeartbeats 2000000
set_option maxRecDepth 100000
theorem Z57 {α : Type} [DecidableEq α] {l r : List α} {k : Nat} (hlen : l.length = r.length) (hk : k < l.length) : decide (l.drop k = r.drop k) = (decide (l[k] = r[k]'(hlen ▸ hk)) && decide (l.drop (k + 1) = r.drop (k + 1))) := by
 rw [List.drop_eq_getElem_cons hk, List.drop_eq_getElem_cons (l := r) (show k < r.length by omega)]
 rw [Bool.eq_iff_iff, Bool.and_eq_true, decide_eq_true_eq, decide_eq_true_eq, decide_eq_true_eq, List.cons.injEq]
theorem Z58 {v u : Value} (l r : List Bar) (w : World) (h : SlB w v l) (h' : SlB w u r) : Calls Tryz.prog 49 #[v, u] w (RV w (.bool (decide (l = r)))) := by
 obtain ⟨A, c, rfl, hlc, hcm, h⟩ := h
 obtain ⟨A', c', rfl, hlc', hcm', h'⟩ := h'
 have hl : l.length ≤ maxLen := Nat.le_trans hlc hcm
 have hl' : r.length ≤ maxLen := Nat.le_trans hlc' hcm'
 unfold maxLen at hl hl'
 by_cases hlen : l.length = r.length
 ·have he : (l.length != r.length) = false := by simp [hlen]
  have he2 : ((l.length : Int) != (r.length : Int)) = false := by simp [hlen]
  go_enter Tryz.func49, Tryz.ntmps49
  go_wp2; go_loopw [5] (fun i wr => ∃ k : Nat, k ≤ l.length ∧ i = .int .i64 k ∧ Hid (decide (l = r) = decide (l.drop k = r.drop k)) ∧ Below w.heap.size w wr) (fun i _ => l.length - (intOf i).toNat)
  case atStart => exact ⟨0, Nat.zero_le _, rfl, by simp [Hid], by (repeat first|exact J0|assumption|(apply J1;assumption)|apply J2|apply J3|apply J4)⟩
  case round =>
   obtain ⟨k, hk, rfl, H, hbw⟩ := hrel; by_cases hlt : k < l.length
   ·have hr := h.below hbw
    have hr' := h'.below hbw
    obtain ⟨b, off, rfl, hb, e0, e1, e2⟩ := hr.bar hlt
    obtain ⟨b', off', rfl, hb', e0', e1', e2'⟩ := hr'.bar (hlen ▸ hlt)
    have HD := Lib.hid (Z57 hlen hlt)
    have hlt' : k < r.length := hlen ▸ hlt
    obtain ⟨g, hg⟩ : ∃ g, beqB l[k].1 l[k].2.1 l[k].2.2 r[k].1 r[k].2.1 r[k].2.2 = g := ⟨_, rfl⟩
    have hg' : decide (l[k] = r[k]) = g := hg
    cases g
    ·go_wp2
     refine Z0z [0, 1, 2, 3, 4, 5, 6, 7, 8] [] [] (by kernel_rfl) (by kernel_rfl) (fun d _ _ _ _ h => by cases d <;> exact h) ?_
     simp only [List.map_cons, List.map_nil, List.getD_cons_zero, List.getD_cons_succ]; repeat (go_big_quiet_step (fail))
     refine wpQuiet_nil ?_; refine Z10 ?_; go_wp2; go_ret; exact ⟨Z0c (by rw [H.out, HD.out, hg']; rfl), by (repeat first|exact J0|assumption|(apply J1;assumption)|apply J2|apply J3|apply J4)⟩
    ·go_wp2
     refine Z0z [0, 1, 2, 3, 4, 5, 6, 7, 8] [] [] (by kernel_rfl) (by kernel_rfl) (fun d _ _ _ _ h => by cases d <;> exact h) ?_
     simp only [List.map_cons, List.map_nil, List.getD_cons_zero, List.getD_cons_succ]; repeat (go_big_quiet_step (fail))
     refine wpQuiet_nil ?_; refine Z10 ?_; go_wp2; go_roundw; case rel => exact ⟨k + 1, by omega, by go_num, by rw [H.out, HD.out, hg']; rfl, by (repeat first|exact J0|assumption|(apply J1;assumption)|apply J2|apply J3|apply J4)⟩
     case measure => simp [intOf]; omega
   ·have hkl : k = l.length := by omega
    go_wp2; go_ret; refine ⟨Z0c ?_, by (repeat first|exact J0|assumption|(apply J1;assumption)|apply J2|apply J3|apply J4)⟩
    rw [H.out, hkl, List.drop_length, hlen, List.drop_length]; rfl
 ·have he2 : ((l.length : Int) != (r.length : Int)) = true := by simp; omega
  have hd : Hid (decide (l = r) = false) := by simp [Hid]; rintro rfl; exact hlen rfl
  go_enter Tryz.func49, Tryz.ntmps49
  go_wp2; go_ret; exact ⟨Z0c hd.out.symm, by (repeat first|exact J0|assumption|(apply J1;assumption)|apply J2|apply J3|apply J4)⟩
theorem Z59 (l : List Int) (A : Option Addr) (c : Nat) (w : World) (hl : l.length ≤ maxLen) (h : Rd ic 1 w A l) :
  Calls Tryz.prog 80 #[.slice A l.length c] w (RV w (.int .i64 (Z17 l))) := by
 unfold maxLen at hl
 go_enter Tryz.func80, Tryz.ntmps80
 go_wp2
 go_loop [3] (fun i => ∃ k : Nat, k ≤ l.length ∧ i = .int .i64 k ∧ Hid (Z17 l = Z17 (l.drop k))) (fun i => l.length - (intOf i).toNat)
 case atStart => exact ⟨0, Nat.zero_le _, rfl, rfl⟩
 case round =>
  obtain ⟨k, hk, rfl, H⟩ := hrel; by_cases hlt : k < l.length
  ·obtain ⟨b, off, rfl, hb, hc⟩ := h.int hlt
   have hd := Lib.hid (Z18 hlt)
   go_wp2
   ·have hne : (l[k] != 0) = true := by assumption
    go_ret; refine ⟨Z0b ?_, Z03⟩
    rw [H.out, hd.out, if_neg (by simpa using hne)]
   ·have hne : (l[k] != 0) = false := by assumption
    go_round
    case rel => exact ⟨k + 1, by omega, by go_num, by rw [H.out, hd.out, if_pos (by simpa using hne)]; rfl⟩
    case measure => simp [intOf]; omega
  ·have hkl : k = l.length := by omega
   go_wp2; go_ret; refine ⟨Z0b ?_, Z03⟩
   rw [H.out, hkl, List.drop_length]; rfl
theorem Z5a (n lo hi : Int) (w : World) : Calls Tryz.prog 81 #[.int .i64 n, .int .i64 lo, .int .i64 hi] w (RV w (.int .i64 (Z16 n lo hi))) := by
 go_enter Tryz.func81, Tryz.ntmps81
 go_wp2
 all_goals go_ret
 all_goals refine ⟨Z0b ?_, Z03⟩
 all_goals
  simp [Z16, Z15, *]
  try omega
open Go.ChangeMaps
section
variable {κ ν : Type} {w w' : World} {r rk : Nat} {m : List (κ × ν × Nat)} {done : List κ} {c : Nat} {ek : κ → Value} {ev : ν → Value} {P : Program}
theorem Own.ne_blk {α : Type} {enc : α → List Value} {sz base : Nat} {e : TypeId} {v : Value} {l : List α} (ho : Own enc sz base e w v l) {g : Nat} {t : TypeId} {cs : Array Value} (hB : Blk w g t cs) (ht : t ≠ e) : some g ≠ v.ownBlock := by
 rcases ho.2 with ⟨rfl, _⟩ | ⟨g', cap, cur, rfl, _, hh, _⟩
 ·simp [Value.ownBlock]
 ·intro he
  have : g = g' := by simpa [Value.ownBlock] using he
  subst this; unfold Blk at hB; rw [hh] at hB; cases hB
  exact ht rfl
theorem Own.chg1 {α : Type} {enc : α → List Value} {sz base : Nat} {e : TypeId} {v : Value} {l : List α} (ho : Own enc sz base e w v l) (hc : Chg [r] w w') (hr : v.ownBlock ≠ some r) : Own enc sz base e w' v l :=
 ho.kept (row := some r) ⟨hc.os, hc.tape, hc.output, hc.size, fun k hk hne => hc.block k hk (by simpa using hne)⟩ (.inr hr)
theorem Own.set {α : Type} {enc : α → List Value} {sz base : Nat} {e : TypeId} {v : Value} {l : List α} (ho : Own enc sz base e w v l) {p : Addr} (hp : v.ownBlock ≠ some p.block) (u : Value) : Own enc sz base e (w.setCell p u) v l :=
 ho.kept (row := some p.block) ⟨rfl, rfl, rfl, by simp [World.setCell], fun k _ hne => Below.heap_setCell w p u k (fun e => hne (by rw [e]))⟩ (.inr hp)
end
end Go.Proofs.YtpcgeihemkhkjaaGreatDoor

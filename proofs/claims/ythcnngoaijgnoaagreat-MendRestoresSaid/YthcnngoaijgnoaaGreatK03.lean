/- A region that draws its order and holds several operations that may come in more than one order, none of which writes what was there: reads are taken, then a fact is shown of each operation's result, whatever came before, then what waits for all of these, as a plain list. Conditions: the Bool 'factsB' over the region. -/
import Derived.Test.YthcnngoaijgnoaaGreatK01
import Derived.Test.YthcnngoaijgnoaaGreatK02
import Derived.Deep.MidRow
import Derived.Shelf.SlSortCmp.NoneTotal
namespace Go.Proofs.YthcnngoaijgnoaaGreat
open Go.RowKit

section
variable {P : Program} {ops : Array Oper} {Q : Exit → Act → World → Prop} {md : Region.Mode} {B : Nat} {w0 : World} {a0 : Act} {F : Nat → Value → World → Prop}

def putAll (ops : Array Oper) (vals : Nat → Value) : List Nat → Act → Act
  | [], a => a
  | i :: r, a => putAll ops vals r (a.put (ops.getD i default).dst (vals i))

theorem put_comm (a : Act) {d e : Option Tmp} (h : d = none ∨ d ≠ e) (u v : Value) : (a.put d u).put e v = (a.put e v).put d u := by
  cases d with
  | none => rfl
  | some d =>
    cases e with
    | none => rfl
    | some e =>
      have hde : d ≠ e := by rcases h with h | h
                             · cases h
                             · simpa using h
      simp only [Act.put]
      rw [Array.setIfInBounds_comm _ _ hde]
theorem put_put (a : Act) (d : Option Tmp) (u v : Value) : (a.put d u).put d v = a.put d v := by
  cases d with
  | none => rfl
  | some d => simp [Act.put]
theorem put_self (a : Act) (d : Option Tmp) : a.put d (match d with | some d => a.tmps.getD d undef | none => undef) = a := by
  cases d with
  | none => rfl
  | some d =>
    simp only [Act.put]
    have : a.tmps.setIfInBounds d (a.tmps.getD d undef) = a.tmps := by
      apply Array.ext
      · simp
      · intro i h1 h2
        rw [Array.getElem_setIfInBounds (by simpa using h1)]
        split
        · rename_i h; subst h; simp [Array.getD_eq_getD_getElem?, h2]
        · rfl
    rw [this]
def upd (vals : Nat → Value) (i : Nat) (u : Value) : Nat → Value := fun j => if j = i then u else vals j
/-- the results lie in different slots -/
def apartB (ops : Array Oper) : List Nat → Bool
  | [] => true
  | i :: r => r.all (fun j => !(i == j) && ((ops.getD i default).dst.isNone || !((ops.getD i default).dst == (ops.getD j default).dst))) && apartB ops r
theorem putAll_put {vals : Nat → Value} : ∀ (ms : List Nat) (a : Act) (d : Option Tmp) (u : Value), (∀ j ∈ ms, d = none ∨ d ≠ (ops.getD j default).dst) → (putAll ops vals ms a).put d u = putAll ops vals ms (a.put d u)
  | [], _, _, _, _ => rfl
  | j :: r, a, d, u, h => by
    simp only [putAll]
    rw [putAll_put r _ d u (fun k hk => h k (by simp [hk]))]
    congr 1
    have := h j (by simp)
    rcases this with h1 | h1
    · subst h1; rfl
    · exact (put_comm a (.inr h1) u _).symm
theorem putAll_same {vals vals' : Nat → Value} : ∀ (ms : List Nat) (a : Act), (∀ j ∈ ms, vals j = vals' j) → putAll ops vals ms a = putAll ops vals' ms a
  | [], _, _ => rfl
  | j :: r, a, h => by
    simp only [putAll]
    rw [h j (by simp), putAll_same r _ (fun k hk => h k (by simp [hk]))]
theorem putAll_upd {vals : Nat → Value} : ∀ (ms : List Nat) (a : Act) (i : Nat) (u : Value), apartB ops ms = true → i ∈ ms → (putAll ops vals ms a).put (ops.getD i default).dst u = putAll ops (upd vals i u) ms a
  | [], _, _, _, _, h => by cases h
  | j :: r, a, i, u, hA, hi => by
    simp only [apartB, Bool.and_eq_true] at hA
    have hall := List.all_eq_true.1 hA.1
    by_cases hij : i = j
    · subst hij
      have hni : ∀ k ∈ r, i ≠ k := fun k hk e => by
        have := hall k hk
        subst e
        simp at this
      simp only [putAll]
      rw [putAll_put r _ _ u (fun k hk => by
        have := hall k hk
        simp only [Bool.and_eq_true, Bool.or_eq_true] at this
        rcases this.2 with h | h
        · exact .inl (by simpa using h)
        · exact .inr (by simpa using h))]
      rw [put_put, show upd vals i u i = u by simp [upd]]
      exact putAll_same r _ fun k hk => by simp [upd, (hni k hk).symm]
    · have hir : i ∈ r := by simpa [hij] using hi
      simp only [putAll]
      rw [putAll_upd r _ i u hA.2 hir, show upd vals i u j = vals j by simp [upd, Ne.symm hij]]
theorem putAll_self : ∀ (ms : List Nat) (a : Act), putAll ops (fun i => match (ops.getD i default).dst with | some d => a.tmps.getD d undef | none => undef) ms a = a
  | [], _ => rfl
  | i :: r, a => by
    simp only [putAll]
    rw [put_self]
    exact putAll_self r a

/-- from here on only ms come up, in whatever order, then post -/
def factsOk (md : Region.Mode) (ops : Array Oper) (ms post : List Nat) : Nat → Array Bool → Bool
  | 0, listed => (ms.all fun j => listed.getD j false) && seqOne md ops post listed
  | n + 1, listed => !(Region.ready md ops listed).isEmpty && (Region.ready md ops listed).all fun j => ms.contains j && !post.contains j && factsOk md ops ms post n (listed.setIfInBounds j true)
/-- what i waits for among ms -/
def waitFor (md : Region.Mode) (ops : Array Oper) (ms : List Nat) (i : Nat) : List Nat := ms.filter fun j => waitsN md ops ops.size i j

/-- the allocations D hand back pointers to new blocks -/
def New (D : List Nat) (i : Nat) (u : Value) (W W' : World) : Prop := i ∈ D → ∃ g, u = .pointer (some ⟨g, 0, none⟩) ∧ W.heap.size ≤ g ∧ g < W'.heap.size
def Apart (D : List Nat) (vals : Nat → Value) (w0 W : World) : Prop := (∀ j ∈ D, ∃ g, vals j = .pointer (some ⟨g, 0, none⟩) ∧ w0.heap.size ≤ g ∧ g < W.heap.size) ∧ ∀ i ∈ D, ∀ j ∈ D, i ≠ j → vals i ≠ vals j

theorem Apart.step {D : List Nat} {vals : Nat → Value} {w0 W W' : World} {listed : Array Bool} {i : Nat} {u : Value} (hs : w0.heap.size ≤ W.heap.size) (hs' : W.heap.size ≤ W'.heap.size) (h : Apart (D.filter fun j => listed.getD j false) vals w0 W) (hn : New D i u W W') :
    Apart (D.filter fun j => (listed.setIfInBounds i true).getD j false) (upd vals i u) w0 W' := by
  obtain ⟨h1, h2⟩ := h
  have old : ∀ j, j ∈ D.filter (fun j => (listed.setIfInBounds i true).getD j false) → j ≠ i → j ∈ D.filter fun j => listed.getD j false := fun j hj hji => by
    simp only [List.mem_filter] at hj ⊢
    rw [getD_set_ne false (Ne.symm hji)] at hj
    exact hj
  have mem : ∀ j, j ∈ D.filter (fun j => (listed.setIfInBounds i true).getD j false) → j ∈ D := fun j hj => (List.mem_filter.1 hj).1
  have far : ∀ j, j ∈ D.filter (fun j => (listed.setIfInBounds i true).getD j false) → j ≠ i → i ∈ D → vals j ≠ u := fun j hj hji hi e => by
    obtain ⟨g, hg, _, hlt⟩ := h1 j (old j hj hji)
    obtain ⟨g', hg', hge, _⟩ := hn hi
    rw [hg, hg'] at e
    simp at e
  refine ⟨fun j hj => ?_, fun k hk j hj hkj => ?_⟩
  · by_cases hji : j = i
    · subst hji
      obtain ⟨g, hg, hge, hlt⟩ := hn (mem _ hj)
      exact ⟨g, by simp [upd, hg], by omega, hlt⟩
    · obtain ⟨g, hg, hge, hlt⟩ := h1 j (old j hj hji)
      exact ⟨g, by simp [upd, hji, hg], hge, by omega⟩
  · by_cases hji : j = i
    · have hki : k ≠ i := fun e => hkj (e.trans hji.symm)
      have := far k hk hki (hji ▸ mem _ hj)
      simpa [upd, hji, hki] using this
    · by_cases hki : k = i
      · have := far j hj hji (hki ▸ mem _ hk)
        simpa [upd, hji, hki] using this.symm
      · simpa [upd, hji, hki] using h2 k (old k hk hki) j (old j hj hji) hkj
theorem facts_go {D ms post : List Nat} (hD : (D.all fun i => ms.contains i) = true) (hA : apartB ops ms = true) (hG : (ms.all fun i => (ops.getD i default).guard == none) = true)
    (hst : ∀ i v W W', F i v W → Below W.heap.size W W' → F i v W')
    (hop : ∀ i ∈ ms, ∀ vals W, Below w0.heap.size w0 W → (∀ j ∈ waitFor md ops ms i, F j (vals j) W) →
      (ops.getD i default).wp P (putAll ops vals ms a0) W (fun a' W' => Below W.heap.size W W' ∧ ∃ u, a' = (putAll ops vals ms a0).put (ops.getD i default).dst u ∧ F i u W' ∧ New D i u W W') Q)
    (hend : ∀ vals W, Below w0.heap.size w0 W → (∀ j ∈ ms, F j (vals j) W) → Apart D vals w0 W → wpList P ops Q (post.map fun i => ops.getD i default) (putAll ops vals ms a0) W) :
    ∀ (n : Nat) (listed : Array Bool) (vals : Nat → Value) (W : World), Closed md ops listed → Below w0.heap.size w0 W → (∀ j ∈ ms, listed.getD j false = true → F j (vals j) W) → Apart (D.filter fun j => listed.getD j false) vals w0 W → factsOk md ops ms post n listed = true →
      wpAnyG P md ops Q (fun w' => ∃ g : Bel w0.heap.size w0, w' = g.val) (fun j => !post.contains j) (n + post.length) listed (putAll ops vals ms a0) W
  | 0, listed, vals, W, hcl, hb, hF, hAp, hB => by
    rw [Nat.zero_add]
    simp only [factsOk, Bool.and_eq_true] at hB
    have hall := List.all_eq_true.1 hB.1
    exact wpAnyG_one post listed _ W (fun i hi => by simp [hi]) hB.2 (hend vals W hb (fun j hj => hF j hj (hall j hj)) (by
      rwa [List.filter_eq_self.2 (fun j hj => hall j (by simpa using List.all_eq_true.1 hD j hj))] at hAp))
  | n + 1, listed, vals, W, hcl, hb, hF, hAp, hB => by
    rw [show n + 1 + post.length = (n + post.length) + 1 by omega]
    simp only [factsOk, Bool.and_eq_true, Bool.not_eq_true'] at hB
    have hall := List.all_eq_true.1 hB.2
    refine ⟨fun h0 => (by rw [h0] at hB; simp at hB), fun i hi => ?_⟩
    have hi2 := hall i hi
    simp only [Bool.and_eq_true] at hi2
    have him : i ∈ ms := by simpa using hi2.1.1
    obtain ⟨hun, o, ho, hpre⟩ := mem_ready.1 hi
    have hg : ops.getD i default = o := by simp [ho]
    have hgu : o.guard = none := by
      have := List.all_eq_true.1 hG i him
      rw [hg] at this
      simpa using this
    have h1 := hop i him vals W hb (fun j hj => by
      simp only [waitFor, List.mem_filter] at hj
      exact hF j hj.1 (waitsN_listed hcl ops.size i hj.2 (fun oj hoj e he hbd => by
        obtain rfl : o = oj := Option.some.inj (ho.symm.trans hoj)
        exact hpre e he hbd)))
    rw [hg] at h1
    unfold wpOp
    simp only [ho]
    have hw : Region.wanted o (yielded ops (putAll ops vals ms a0).tmps) = true := by simp [Region.wanted, hgu]
    rw [if_pos hw]
    refine .inl (Oper.wp_mono (fun a' W' h' => ?_) h1)
    obtain ⟨hbW, u, rfl, hu, hnew⟩ := h'
    have hb' : Below w0.heap.size w0 W' := bl_then hbW hb
    refine ⟨fun _ => Bel.ex hb', ?_⟩
    have e := putAll_upd (vals := vals) ms a0 i u hA him
    rw [hg] at e
    rw [e]
    refine facts_go hD hA hG hst hop hend n (listed.setIfInBounds i true) (upd vals i u) W' (hcl.set hi) hb' (fun j hj hl => ?_) (Apart.step hb.size hbW.size hAp hnew) hi2.2
    by_cases hij : j = i
    · subst hij
      simpa [upd] using hu
    · have : (upd vals i u) j = vals j := by simp [upd, hij]
      rw [this]
      exact hst j _ W W' (hF j hj (by rwa [getD_set_ne false (Ne.symm hij)] at hl)) hbW

def factsPre (md : Region.Mode) (ops : Array Oper) (ms post : List Nat) : List Nat → Array Bool → Bool
  | [], listed => factsOk md ops ms post ms.length listed && ms.all fun j => !listed.getD j false
  | i :: r, listed => takeB md ops post i listed && factsPre md ops ms post r (listed.setIfInBounds i true)
def factsB (md : Region.Mode) (ops : Array Oper) (pre ms post : List Nat) : Bool :=
  Region.noSelect ops && decide (ops.size = pre.length + (ms.length + post.length)) && apartB ops ms && (ms.all fun i => (ops.getD i default).guard == none) && factsPre md ops ms post pre (Array.replicate ops.size false)

theorem facts_pre {D ms post : List Nat} (hD : (D.all fun i => ms.contains i) = true) {w : World} (hs : Region.noSelect ops = true) (hQ : ∀ d c a v w, Q (.panic c) (Act.put a d v) w → Q (.panic c) a w) (hA : apartB ops ms = true) (hG : (ms.all fun i => (ops.getD i default).guard == none) = true) (hb : Below w0.heap.size w0 w)
    (hst : ∀ i v W W', F i v W → Below W.heap.size W W' → F i v W') :
    ∀ (pre : List Nat) (listed : Array Bool) (a : Act), Closed md ops listed → factsPre md ops ms post pre listed = true →
    wpQuiet P ops (fun w' => ∃ g : Bel w0.heap.size w0, w' = g.val) (fun a' => (∀ i ∈ ms, ∀ vals W, Below w0.heap.size w0 W → (∀ j ∈ waitFor md ops ms i, F j (vals j) W) →
        (ops.getD i default).wp P (putAll ops vals ms a') W (fun a'' W' => Below W.heap.size W W' ∧ ∃ u, a'' = (putAll ops vals ms a').put (ops.getD i default).dst u ∧ F i u W' ∧ New D i u W W') Q) ∧
      (∀ vals W, Below w0.heap.size w0 W → (∀ j ∈ ms, F j (vals j) W) → Apart D vals w0 W → wpList P ops Q (post.map fun i => ops.getD i default) (putAll ops vals ms a') W)) (pre.map fun i => ops.getD i default) a →
    wpAnyG P md ops Q (fun w' => ∃ g : Bel w0.heap.size w0, w' = g.val) (fun j => !post.contains j) (pre.length + (ms.length + post.length)) listed a w
  | [], listed, a, hcl, hB, h => by
    rw [List.length_nil, Nat.zero_add]
    simp only [factsPre, Bool.and_eq_true] at hB
    have hn := List.all_eq_true.1 hB.2
    have := facts_go (md := md) (a0 := a) hD hA hG hst h.1 h.2 ms.length listed (fun i => match (ops.getD i default).dst with | some d => a.tmps.getD d undef | none => undef) w hcl hb (fun j hj hl => by have := hn j hj; rw [hl] at this; cases this) (by
      rw [List.filter_eq_nil_iff.2 (fun j hj => by have := hn j (by simpa using List.all_eq_true.1 hD j hj); simpa using this)]
      exact ⟨fun j hj => by simp at hj, fun i hi => by simp at hi⟩) hB.1
    rw [putAll_self] at this
    exact this
  | i :: r, listed, a, hcl, hB, h => by
    rw [List.length_cons, show r.length + 1 + (ms.length + post.length) = (r.length + (ms.length + post.length)) + 1 by omega]
    simp only [factsPre, Bool.and_eq_true] at hB
    simp only [List.map_cons] at h
    unfold wpQuiet at h
    exact wpAnyG_take (post := post) hs hQ (Bel.ex hb) (o := ops.getD i default) rfl hcl hB.1 (fun a' => wpQuiet P ops _ _ (r.map fun i => ops.getD i default) a')
      (fun v h' => facts_pre hD hs hQ hA hG hb hst r _ _ (hcl.set (takeB_ready hB.1)) hB.2 h') h

theorem wp_region_facts {id : Nat} {a : Act} {w : World} {l : List Oper} (F : Nat → Value → World → Prop) (pre D ms post : List Nat) (hD : (D.all fun i => ms.contains i) = true) (hm : P.follows .mixedOrders = true) (hB : factsB .any l.toArray pre ms post = true)
    (hQ : ∀ d c a v w, Q (.panic c) (Act.put a d v) w → Q (.panic c) a w) (hst : ∀ i v W W', F i v W → Below W.heap.size W W' → F i v W')
    (h : wpQuiet P l.toArray (fun w' => ∃ g : Bel w.heap.size w, w' = g.val) (fun a' => (∀ i ∈ ms, ∀ vals W, Below w.heap.size w W → (∀ j ∈ waitFor .any l.toArray ms i, F j (vals j) W) →
        (l.getD i default).wp P (putAll l.toArray vals ms a') W (fun a'' W' => Below W.heap.size W W' ∧ ∃ u, a'' = (putAll l.toArray vals ms a').put (l.getD i default).dst u ∧ F i u W' ∧ New D i u W W') Q) ∧
      (∀ vals W, Below w.heap.size w W → (∀ j ∈ ms, F j (vals j) W) → Apart D vals w W → wpList P l.toArray Q (post.map fun i => l.getD i default) (putAll l.toArray vals ms a') W)) (pre.map fun i => l.getD i default) a) :
    (Code.region id l.toArray true).wp P Q a w := by
  simp only [factsB, Bool.and_eq_true, decide_eq_true_eq] at hB
  obtain ⟨⟨⟨⟨hs, hn⟩, hA⟩, hG⟩, hB'⟩ := hB
  refine wp_region_any hm (wpAny_of_G (C := fun w' => ∃ g : Bel w.heap.size w, w' = g.val) (kp := fun j => !post.contains j) _ _ _ _ ?_)
  have e : ∀ (xs : List Nat), (xs.map fun i => l.toArray.getD i default) = xs.map fun i => l.getD i default := fun xs => List.map_congr_left fun i _ => by simp [Array.getD_eq_getD_getElem?, List.getD_eq_getElem?_getD]
  have e2 : ∀ i, l.toArray.getD i default = l.getD i default := fun i => by simp [Array.getD_eq_getD_getElem?, List.getD_eq_getElem?_getD]
  have := facts_pre (md := .any) (w0 := w) (w := w.drew) (F := F) (ops := l.toArray) (ms := ms) (post := post) hD hs hQ hA hG (Below.refl w.heap.size w).drew hst pre _ a (Closed.start _) hB' (by
    rw [e, e]
    simp only [e2]
    exact h)
  rw [← hn] at this
  exact this
/-- one operation's part -/
theorem facts_step {D : List Nat} {o : Oper} {a : Act} {W : World} {i : Nat} (h : ∀ K : Act → World → Prop, (∀ u W' a', a' = a.put o.dst u → Below W.heap.size W W' → F i u W' → New D i u W W' → K a' W') → o.wp P a W K Q) :
    o.wp P a W (fun a'' W' => Below W.heap.size W W' ∧ ∃ u, a'' = a.put o.dst u ∧ F i u W' ∧ New D i u W W') Q :=
  h _ fun u _ _ he hb hf hn => ⟨hb, u, he, hf, hn⟩
end
end Go.Proofs.YthcnngoaijgnoaaGreat

/- A whole block is written: the world behind it under a name. Conditions: the block is known whole. -/
namespace Go.Proofs.YthcnngoaijgnoaaGreat
open Go.RowKit

section
variable {P : Program} {w : World} {g : Nat} {t : TypeId} {cs cells : Array Value}
theorem setCells_blk : ∀ (vs : List Value) (o : Nat) (w : World) (cs : Array Value), Blk w g t cs → (∃ C, Blk (w.setCells g o vs) g t C ∧ C.size = cs.size) ∧ Chg [g] w (w.setCells g o vs)
  | [], _, w, cs, h => ⟨⟨cs, h, rfl⟩, Chg.refl⟩
  | v :: r, o, w, cs, h => by
    simp only [World.setCells]
    obtain ⟨⟨C, h1, h2⟩, h3⟩ := setCells_blk r (o + 1) (w.setCell ⟨g, o, none⟩ v) _ (h.set_ o v)
    refine ⟨⟨C, h1, by simpa using h2⟩, Chg.trans (W := w.setCell ⟨g, o, none⟩ v) ⟨rfl, rfl, rfl, by simp, fun k _ hn => Below.heap_setCell w ⟨g, o, none⟩ v k (by simpa using hn)⟩ h3⟩
theorem Blk.store_ (h : Blk w g t cs) (ty : TypeId) (hsz : cells.size = cs.size) (hi : (P.info? ty).map (·.size) = some cells.size) (h1 : cells.all (·.oneCell') = true) :
    ∃ W', (storeVar ty ⟨g, 0, none⟩ (.agg cells)).run P w = .ok () W' ∧ Blk W' g t cells ∧ Chg [g] w W' := by
  have ht : w.there g 0 cells.size := fun j hj => by
    rw [Nat.zero_add, h.cell, h.frozen]
    simp [hsz ▸ hj]
  refine ⟨_, run_storeVar_mid w g 0 ty cells ht hi h1, ?_, (setCells_blk _ _ _ _ h).2⟩
  obtain ⟨C, hC, hCs⟩ := (setCells_blk (g := g) (t := t) cells.toList 0 w cs h).1
  have hr := World.rangeAt_setCells_same w g 0 cells.toList (by simpa using ht)
  have : C = cells := by
    apply Array.ext
    · omega
    · intro i h1 h2
      have := hr i cells[i] (by simp [h2])
      rw [Nat.zero_add, hC.cell] at this
      simpa [h1] using this
  unfold Blk at hC ⊢
  rw [hC, this]
theorem Own.chg {α : Type} {enc : α → List Value} {sz base : Nat} {e : TypeId} {w w' : World} {v : Value} {l : List α} {S : List Nat} (h : Own enc sz base e w v l) (hc : Chg S w w') (hS : ∀ k ∈ S, k < base) : Own enc sz base e w' v l := by
  obtain ⟨h1, h2⟩ := h
  refine ⟨h1, ?_⟩
  rcases h2 with h2 | ⟨g, cap, cur, hv, hg, hh, r⟩
  · exact .inl h2
  · exact .inr ⟨g, cap, cur, hv, hg, (hc.block g (Array.getElem?_eq_some_iff.1 hh).1 (fun hm => by have := hS g hm; omega)).trans hh, r⟩
theorem Own.shape {α : Type} {enc : α → List Value} {sz base : Nat} {e : TypeId} {w : World} {v : Value} {l : List α} (h : Own enc sz base e w v l) : ∃ A c, v = .slice A l.length c := by
  rcases h.2 with ⟨rfl, hn⟩ | ⟨g, cap, cur, rfl, _⟩
  · exact ⟨none, 0, by rw [hn]⟩
  · exact ⟨_, _, rfl⟩
theorem Blk.new1 (w : World) (o : Obj) (t : TypeId) (cs : Array Value) : Blk ((w.alloc o).alloc (.cells cs t)) (w.heap.size + 1) t cs := by
  have := Blk.new (w.alloc o) t cs
  simpa using this
theorem Blk.new2 (w : World) (o o' : Obj) (t : TypeId) (cs : Array Value) : Blk (((w.alloc o).alloc o').alloc (.cells cs t)) (w.heap.size + 1 + 1) t cs := by
  have := Blk.new ((w.alloc o).alloc o') t cs
  simpa using this
theorem Blk.new3 (w : World) (o o' o'' : Obj) (t : TypeId) (cs : Array Value) : Blk ((((w.alloc o).alloc o').alloc o'').alloc (.cells cs t)) (w.heap.size + 1 + 1 + 1) t cs := by
  have := Blk.new (((w.alloc o).alloc o').alloc o'') t cs
  simpa using this
theorem wpList_store_blk {ops : Array Oper} {rest : List Oper} {op : Oper} {a : Act} {Q : Exit → Act → World → Prop} (h : Blk w g t cs) (hgd : op.guard = none) (ty : TypeId) (x y : Operand) (ho : op.op = .store ty x y)
    (hx : a.eval x = .pointer (some ⟨g, 0, none⟩)) (hy : a.eval y = .agg cells) (hsz : cells.size = cs.size) (hi : (P.info? ty).map (·.size) = some cells.size) (h1 : cells.all (·.oneCell') = true)
    (hK : ∀ W', Blk W' g t cells → Chg [g] w W' → wpList P ops Q rest (a.put op.dst undef) W') : wpList P ops Q (op :: rest) a w := by
  refine wpList_plain hgd fun K hK' => ?_
  obtain ⟨W', hr, h2, h3⟩ := h.store_ (P := P) ty hsz hi h1
  unfold Oper.wp execOp
  simp only [ho, hx, hy, Instr.storeAt, Instr.sureAddr, Sem.run_bind, Sem.run_pure, Result.andThen_ok, hr]
  exact hK' _ _ (hK W' h2 h3)
end
end Go.Proofs.YthcnngoaijgnoaaGreat

/- The reference's four bars of a knot, walked. Conditions: coordinates within a million. -/
namespace Go.Proofs.YthcnngoaijgnoaaGreat
open Go.RowKit
set_option maxHeartbeats 2000000
set_option maxRecDepth 100000

theorem rupp_any (x y : Int) (w : World) : Calls Tryz.prog 133 #[.agg #[.int .i64 x, .int .i64 y]] w (RV w (.agg #[.int .i64 x, .int .i64 y, .int .i64 (-1), .int .i64 x, .int .i64 y, .int .i64 1])) := by
  go_enter Tryz.func133, Tryz.ntmps133
  go_wp2
  refine bodyPost_ret (v := .agg #[.int .i64 x, .int .i64 y, .int .i64 (-1), .int .i64 x, .int .i64 y, .int .i64 1]) (by simp [results, Tryz.results133, go_sem]) rfl ?_
  exact ⟨rfl, by (repeat (first | exact bl_refl | assumption | (apply bl_then; assumption) | refine bl_alloc ?_ _ | refine bl_drew ?_ | refine bl_drewN ?_ _))⟩
theorem rlow_any (x y : Int) (hx : -1000000 ≤ x ∧ x ≤ 1000000) (hy : -1000000 ≤ y ∧ y ≤ 1000000) (w : World) :
    Calls Tryz.prog 134 #[.agg #[.int .i64 x, .int .i64 y]] w (RV w (.agg #[.int .i64 (x - 1), .int .i64 (y - 1), .int .i64 1, .int .i64 (x + 1), .int .i64 (y - 1), .int .i64 (-1)])) := by
  go_enter Tryz.func134, Tryz.ntmps134
  go_wp2
  refine bodyPost_ret (v := .agg #[.int .i64 (x - 1), .int .i64 (y - 1), .int .i64 1, .int .i64 (x + 1), .int .i64 (y - 1), .int .i64 (-1)]) (by simp [results, Tryz.results134, go_sem]) rfl ?_
  exact ⟨rfl, by (repeat (first | exact bl_refl | assumption | (apply bl_then; assumption) | refine bl_alloc ?_ _ | refine bl_drew ?_ | refine bl_drewN ?_ _))⟩
def fourA (x y : Int) : Array Value := #[.int .i64 x, .int .i64 y, .int .i64 (-1), .int .i64 x, .int .i64 y, .int .i64 1, .int .i64 (x - 1), .int .i64 (y - 1), .int .i64 1, .int .i64 (x + 1), .int .i64 (y - 1), .int .i64 (-1)]
def fourF (x y : Int) (i : Nat) (v : Value) (W : World) : Prop :=
  (i = 1 → v = .agg #[.int .i64 x, .int .i64 y, .int .i64 (-1), .int .i64 x, .int .i64 y, .int .i64 1]) ∧
  (i = 3 → v = .agg #[.int .i64 (x - 1), .int .i64 (y - 1), .int .i64 1, .int .i64 (x + 1), .int .i64 (y - 1), .int .i64 (-1)]) ∧
  ((i = 4 ∨ i = 5) → ∃ g, v = .pointer (some ⟨g, 0, none⟩) ∧ Blk W g 165 #[.int .i64 0, .int .i64 0, .int .i64 0, .int .i64 0, .int .i64 0, .int .i64 0])
theorem fourF_st (x y : Int) : ∀ i v W W', fourF x y i v W → Below W.heap.size W W' → fourF x y i v W' := fun i v W W' h hb =>
  ⟨h.1, h.2.1, fun hi => by obtain ⟨g, h1, h2⟩ := h.2.2 hi; exact ⟨g, h1, h2.below hb⟩⟩
theorem four_any (x y : Int) (hx : -1000000 ≤ x ∧ x ≤ 1000000) (hy : -1000000 ≤ y ∧ y ≤ 1000000) (w : World) :
    Calls Tryz.prog 88 #[.agg #[.int .i64 x, .int .i64 y]] w (RV w (.agg #[.int .i64 x, .int .i64 y, .int .i64 (-1), .int .i64 x, .int .i64 y, .int .i64 1, .int .i64 (x - 1), .int .i64 (y - 1), .int .i64 1, .int .i64 (x + 1), .int .i64 (y - 1), .int .i64 (-1)])) := by
  have hB := Blk.new w 26 #[.int .i64 x, .int .i64 y]
  go_enter Tryz.func88, Tryz.ntmps88
  go_wp2
  refine wp_region_facts (fourF x y) [0, 2] [4, 5] [1, 3, 4, 5] [6, 7] (by decide) (by kernel_rfl) (by kernel_rfl) (fun d _ _ _ _ h => by cases d <;> exact h) (fourF_st x y) ?_
  simp only [List.map_cons, List.map_nil, List.getD_cons_zero, List.getD_cons_succ]
  repeat (go_big_quiet_step (fail))
  refine wpQuiet_nil ⟨List.forall_mem_cons.2 ⟨?_, List.forall_mem_cons.2 ⟨?_, List.forall_mem_cons.2 ⟨?_, List.forall_mem_cons.2 ⟨?_, List.forall_mem_nil _⟩⟩⟩⟩, ?_⟩
  · intro vals W hbW hF
    refine facts_step (fun K hK => ?_)
    simp only [putAll, Array.getD_eq_getD_getElem?, List.getElem?_toArray, List.getElem?_cons_succ, List.getElem?_cons_zero, Option.getD_some, List.getD_cons_succ, List.getD_cons_zero, Act.put, List.setIfInBounds_toArray, List.set_cons_zero, List.set_cons_succ]
    go_simp
    refine (rupp_any _ _ _).mono ?_
    rintro e w1 ⟨rfl, hb1⟩
    exact hK _ _ _ rfl hb1 ⟨fun _ => rfl, fun h => by simp at h, fun h => by simp at h⟩ (fun h => by simp at h)
  · intro vals W hbW hF
    refine facts_step (fun K hK => ?_)
    simp only [putAll, Array.getD_eq_getD_getElem?, List.getElem?_toArray, List.getElem?_cons_succ, List.getElem?_cons_zero, Option.getD_some, List.getD_cons_succ, List.getD_cons_zero, Act.put, List.setIfInBounds_toArray, List.set_cons_zero, List.set_cons_succ]
    go_simp
    refine (rlow_any _ _ hx hy _).mono ?_
    rintro e w1 ⟨rfl, hb1⟩
    exact hK _ _ _ rfl hb1 ⟨fun h => by simp at h, fun _ => rfl, fun h => by simp at h⟩ (fun h => by simp at h)
  · intro vals W hbW hF
    refine facts_step (fun K hK => ?_)
    simp only [putAll, Array.getD_eq_getD_getElem?, List.getElem?_toArray, List.getElem?_cons_succ, List.getElem?_cons_zero, Option.getD_some, List.getD_cons_succ, List.getD_cons_zero, Act.put, List.setIfInBounds_toArray, List.set_cons_zero, List.set_cons_succ]
    go_simp
    exact hK _ _ _ rfl (bl_alloc bl_refl _) ⟨fun h => by simp at h, fun h => by simp at h, fun _ => ⟨_, rfl, Blk.new _ _ _⟩⟩ (fun _ => ⟨_, rfl, Nat.le_refl _, by simp⟩)
  · intro vals W hbW hF
    refine facts_step (fun K hK => ?_)
    simp only [putAll, Array.getD_eq_getD_getElem?, List.getElem?_toArray, List.getElem?_cons_succ, List.getElem?_cons_zero, Option.getD_some, List.getD_cons_succ, List.getD_cons_zero, Act.put, List.setIfInBounds_toArray, List.set_cons_zero, List.set_cons_succ]
    go_simp
    exact hK _ _ _ rfl (bl_alloc bl_refl _) ⟨fun h => by simp at h, fun h => by simp at h, fun _ => ⟨_, rfl, Blk.new _ _ _⟩⟩ (fun _ => ⟨_, rfl, Nat.le_refl _, by simp⟩)
  · intro vals W hbW hF hAp
    simp only [putAll, Array.getD_eq_getD_getElem?, List.getElem?_toArray, List.getElem?_cons_succ, List.getElem?_cons_zero, Option.getD_some, Act.put, List.setIfInBounds_toArray, List.set_cons_zero, List.set_cons_succ]
    have h1 := (hF 1 (by simp)).1 rfl
    have h3 := (hF 3 (by simp)).2.1 rfl
    obtain ⟨g4, e4, hB4⟩ := (hF 4 (by simp)).2.2 (.inl rfl)
    obtain ⟨g5, e5, hB5⟩ := (hF 5 (by simp)).2.2 (.inr rfl)
    obtain ⟨g4', e4', hl4, _⟩ := hAp.1 4 (by simp)
    obtain ⟨g5', e5', hl5, _⟩ := hAp.1 5 (by simp)
    have hne := hAp.2 4 (by simp) 5 (by simp) (by simp)
    obtain rfl : g4 = g4' := by simpa [e4] using e4'
    obtain rfl : g5 = g5' := by simpa [e5] using e5'
    simp only [h1, h3, e4, e5] at hne ⊢
    have hne' : ¬ g4 = g5 ∧ ¬ g5 = g4 := ⟨fun e => hne (by rw [e]), fun e => hne (by rw [e])⟩
    have hR : Blk W (w.heap.size + 1) 120 #[.int .i64 0, .int .i64 0, .int .i64 0, .int .i64 0, .int .i64 0, .int .i64 0, .int .i64 0, .int .i64 0, .int .i64 0, .int .i64 0, .int .i64 0, .int .i64 0] := by
      have := (Blk.new (w.alloc (.cells #[.int .i64 x, .int .i64 y] 26)) 120 #[.int .i64 0, .int .i64 0, .int .i64 0, .int .i64 0, .int .i64 0, .int .i64 0, .int .i64 0, .int .i64 0, .int .i64 0, .int .i64 0, .int .i64 0, .int .i64 0]).below hbW
      simpa using this
    simp at hl4 hl5
    have hfar : ¬ g4 = w.heap.size + 1 ∧ ¬ w.heap.size + 1 = g4 ∧ ¬ g5 = w.heap.size + 1 ∧ ¬ w.heap.size + 1 = g5 := by omega
    clear hF hAp h1 h3 e4' e5' hne
    refine wpList_store_blk hB4 rfl _ _ _ rfl rfl rfl (by rfl) (by kernel_rfl) (by kernel_rfl) fun w2 hB4 hc2 => ?_
    refine wpList_store_blk (hB5.chg hc2 (by simp [hne'])) rfl _ _ _ rfl rfl rfl (by rfl) (by kernel_rfl) (by kernel_rfl) fun w3 hB5 hc3 => ?_
    replace hB4 := hB4.chg hc3 (by simp [hne'])
    replace hR := (hR.chg hc2 (by simp; omega)).chg hc3 (by simp; omega)
    have f4 := hB4.facts
    have f5 := hB5.facts
    have fR := hR.facts
    have hb3 : Below w.heap.size w w3 := (((Chg.of_below (bl_aa hbW)).trans (hc2.mono (S' := [g4, g5]) (by simp))).trans (hc3.mono (S' := [g4, g5]) (by simp))).below (by simp; omega) (Nat.le_refl _)
    go_wp2_with (refine wpList_store_blk hR rfl _ _ _ rfl rfl rfl (by rfl) (by kernel_rfl) (by kernel_rfl) ?_; intro w4 hR4 hc4; have fR4 := hR4.facts)
    have hb4 : Below w.heap.size w w4 := ((Chg.of_below hb3).trans (hc4.mono (S' := [w.heap.size + 1]) (by simp))).below (by simp) (Nat.le_refl _)
    refine bodyPost_ret (v := .agg #[.int .i64 x, .int .i64 y, .int .i64 (-1), .int .i64 x, .int .i64 y, .int .i64 1, .int .i64 (x - 1), .int .i64 (y - 1), .int .i64 1, .int .i64 (x + 1), .int .i64 (y - 1), .int .i64 (-1)]) (by simp [results, Tryz.results88, go_sem, fR4]) rfl ?_
    exact ⟨rfl, by (repeat (first | exact bl_refl | assumption | (apply bl_then; assumption) | refine bl_alloc ?_ _ | refine bl_drew ?_ | refine bl_drewN ?_ _))⟩
end Go.Proofs.YthcnngoaijgnoaaGreat

/- The reference's knots and bars: ends, the order, how many are missing, walked. Conditions: coordinates within a million. -/
namespace Go.Proofs.YthcnngoaijgnoaaGreat
open Go.RowKit
set_option maxHeartbeats 2000000
set_option maxRecDepth 100000

theorem low_any (x y s : Int) (w : World) : Calls Tryz.prog 104 #[.agg #[.int .i64 x, .int .i64 y, .int .i64 s]] w (RV w (.agg #[.int .i64 x, .int .i64 y])) := by
  go_enter Tryz.func104, Tryz.ntmps104
  go_wp2
  refine bodyPost_ret (v := .agg #[.int .i64 x, .int .i64 y]) (by simp [results, Tryz.results104, go_sem]) rfl ?_
  exact ⟨rfl, by (repeat (first | exact bl_refl | assumption | (apply bl_then; assumption) | refine bl_alloc ?_ _ | refine bl_drew ?_ | refine bl_drewN ?_ _))⟩
theorem high_any (x y s : Int) (hx : -1000000 ≤ x ∧ x ≤ 1000000) (hy : -1000000 ≤ y ∧ y ≤ 1000000) (hs : -10 ≤ s ∧ s ≤ 10) (w : World) :
    Calls Tryz.prog 105 #[.agg #[.int .i64 x, .int .i64 y, .int .i64 s]] w (RV w (.agg #[.int .i64 (x + s), .int .i64 (y + 1)])) := by
  go_enter Tryz.func105, Tryz.ntmps105
  go_wp2
  refine bodyPost_ret (v := .agg #[.int .i64 (x + s), .int .i64 (y + 1)]) (by simp [results, Tryz.results105, go_sem]) rfl ?_
  exact ⟨rfl, by (repeat (first | exact bl_refl | assumption | (apply bl_then; assumption) | refine bl_alloc ?_ _ | refine bl_drew ?_ | refine bl_drewN ?_ _))⟩

theorem four_get {x y : Int} {a : Nat} (ha : a < 4) : (fourA x y)[a * 3]? = some (.int .i64 (armB (x, y) a).1) ∧ (fourA x y)[a * 3 + 1]? = some (.int .i64 (armB (x, y) a).2.1) ∧ (fourA x y)[a * 3 + 2]? = some (.int .i64 (armB (x, y) a).2.2) := by
  obtain rfl | rfl | rfl | rfl : a = 0 ∨ a = 1 ∨ a = 2 ∨ a = 3 := by omega
  all_goals exact ⟨rfl, rfl, rfl⟩
theorem lget_legs (D : List Bar) (k : Knot) {a : Nat} (ha : a < 4) : lget (legsAt D k) a = hasb D (armB k a) := by
  obtain rfl | rfl | rfl | rfl : a = 0 ∨ a = 1 ∨ a = 2 ∨ a = 3 := by omega
  all_goals rfl
def missN (D : List Bar) (k : Knot) : Nat := cnt (legsAt D k)
theorem four_cells {W : World} {g : Nat} {t : TypeId} {x y : Int} (h : Blk W g t (fourA x y)) {a : Nat} (ha : a < 4) : W.cell? ⟨g, a * 3, none⟩ = some (.int .i64 (armB (x, y) a).1) ∧ W.cell? ⟨g, a * 3 + 1, none⟩ = some (.int .i64 (armB (x, y) a).2.1) ∧ W.cell? ⟨g, a * 3 + 2, none⟩ = some (.int .i64 (armB (x, y) a).2.2) := by
  rw [h.cell, h.cell, h.cell]
  exact four_get ha

theorem missing_any {v u : Value} (D : List Bar) (x y : Int) (w : World) (hD : SlB w u D) (hx : -1000000 ≤ x ∧ x ≤ 1000000) (hy : -1000000 ≤ y ∧ y ≤ 1000000) :
    Calls Tryz.prog 26 #[.agg #[v, u], .agg #[.int .i64 x, .int .i64 y]] w (RV w (.int .i64 (missN D (x, y)))) := by
  have hB0 := (Blk.new w 24 #[v, u]).alloc (.cells #[.int .i64 x, .int .i64 y] 26)
  go_enter Tryz.func26, Tryz.ntmps26
  go_wp2_with (first | (go_at_call 88; refine (four_any x y hx hy _).mono ?_; rintro e w1 ⟨rfl, hb1⟩; (first | replace hB0 := hB0.st0 hb1 | replace hB0 := hB0.st1 hb1 | replace hB0 := hB0.std hb1 | replace hB0 := hB0.std1 hb1 | replace hB0 := hB0.st2 hb1 | replace hB0 := hB0.std2 hb1 | replace hB0 := hB0.st3 hb1); have kB0 := hB0.facts) | (refine wpList_store_blk (Blk.new _ _ _) rfl _ _ _ rfl rfl rfl (by rfl) (by kernel_rfl) (by kernel_rfl) ?_; intro w2 hF2 hc2))
  have hg0 : w.heap.size < w1.heap.size := by
    have := hb1.size
    simp at this
    omega
  have hb2 : Below w.heap.size w w2 := (((Chg.of_below (bl_aa hb1)).alloc _).trans (hc2.mono (S' := [w1.heap.size]) (by simp))).below (by simp; omega) (Nat.le_refl _)
  have hT2 := (hB0.alloc (.cells #[.int .i64 0, .int .i64 0, .int .i64 0, .int .i64 0, .int .i64 0, .int .i64 0, .int .i64 0, .int .i64 0, .int .i64 0, .int .i64 0, .int .i64 0, .int .i64 0] 120)).chg hc2 (by simp; omega)
  clear kB0 hB0 hc2
  go_loopw [5, 7] (fun n i wr => ∃ a : Nat, a ≤ 4 ∧ i = .int .i64 a ∧ n = .int .i64 (cntTo (legsAt D (x, y)) a) ∧ Blk wr w.heap.size 24 #[v, u] ∧ Blk wr w1.heap.size 120 (fourA x y) ∧ Below w.heap.size w wr) (fun _ i _ => 4 - (intOf i).toNat)
  case atStart => exact ⟨0, by omega, rfl, rfl, hT2, hF2, hb2⟩
  case round =>
    clear hT2 hF2 hb2
    obtain ⟨a, ha, rfl, rfl, hT, hF, hbw⟩ := hrel
    have hcl := cntTo_le (legsAt D (x, y)) a
    by_cases hlt : a < 4
    · have fT := hT.facts
      have fF := hF.facts.2
      have f4 := four_cells hF hlt
      have hDr := hD.below hbw
      have hs : Hid (cntTo (legsAt D (x, y)) (a + 1) = cntTo (legsAt D (x, y)) a + (hasb D (armB (x, y) a)).toNat) := by rw [← lget_legs D (x, y) hlt]; rfl
      obtain ⟨g, hg⟩ : ∃ g, hasb D ((armB (x, y) a).1, (armB (x, y) a).2.1, (armB (x, y) a).2.2) = g := ⟨_, rfl⟩
      have hg' : hasb D (armB (x, y) a) = g := hg
      go_wp2
      refine wp_region_ords [0, 1, 2, 3, 4] [] [5] (by kernel_rfl) (by kernel_rfl) (fun d _ _ _ _ h => by cases d <;> exact h) ?_
      simp only [List.map_cons, List.map_nil, List.getD_cons_zero, List.getD_cons_succ]
      repeat (go_big_quiet_step (fail))
      refine wpQuiet_nil ?_
      refine wpMid_nil ?_
      cases g
      all_goals
        go_wp2_with (go_at_call 46; refine (has_any D _ _ _ _ hDr.drew).mono ?_; rintro e w1 ⟨rfl, hb1⟩; (first | replace hT := hT.st0 hb1 | replace hT := hT.st1 hb1 | replace hT := hT.std hb1 | replace hT := hT.std1 hb1 | replace hT := hT.st2 hb1 | replace hT := hT.std2 hb1 | replace hT := hT.st3 hb1); (first | replace hF := hF.st0 hb1 | replace hF := hF.st1 hb1 | replace hF := hF.std hb1 | replace hF := hF.std1 hb1 | replace hF := hF.st2 hb1 | replace hF := hF.std2 hb1 | replace hF := hF.st3 hb1))
        go_roundw
        case rel => exact ⟨a + 1, by omega, by go_num, by rw [hs.out, hg']; simp, hT, hF, by (repeat (first | exact bl_refl | assumption | (apply bl_then; assumption) | refine bl_alloc ?_ _ | refine bl_drew ?_ | refine bl_drewN ?_ _))⟩
        case measure => simp [intOf]; omega
    · obtain rfl : a = 4 := by omega
      have hc4 : Hid (cntTo (legsAt D (x, y)) 4 = missN D (x, y)) := cntTo_four _
      go_wp2
      go_ret
      exact ⟨ret_int (by rw [hc4.out]), by (repeat (first | exact bl_refl | assumption | (apply bl_then; assumption) | refine bl_alloc ?_ _ | refine bl_drew ?_ | refine bl_drewN ?_ _))⟩
end Go.Proofs.YthcnngoaijgnoaaGreat

/- Small functions of the statement's file, of the reference and of the program, walked. Conditions: what is read is known. -/
namespace Go.Proofs.YthcnngoaijgnoaaGreat
open Go.RowKit
set_option maxHeartbeats 2000000
set_option maxRecDepth 100000

theorem mwhen_any (b : Bool) (n : Int) (w : World) : Calls Tryz.prog 83 #[.bool b, .int .i64 n] w (RV w (.int .i64 (whenI b n))) := by
  cases b
  all_goals
    go_enter Tryz.func83, Tryz.ntmps83
    go_wp2
    go_ret
    exact ⟨rfl, bl_refl⟩
theorem lwhen_any (b : Bool) (n : Int) (w : World) : Calls Tryz.prog 24 #[.bool b, .int .i64 n] w (RV w (.int .i64 (whenI b n))) := by
  cases b
  all_goals
    go_enter Tryz.func24, Tryz.ntmps24
    go_wp2
    go_ret
    exact ⟨rfl, bl_refl⟩
theorem mwithin_any (n lo hi : Int) (w : World) : Calls Tryz.prog 96 #[.int .i64 n, .int .i64 lo, .int .i64 hi] w (RV w (.int .i64 (withinI n lo hi))) := by
  go_enter Tryz.func96, Tryz.ntmps96
  go_wp2_with (go_at_call 83; refine (mwhen_any _ _ _).mono ?_; rintro e w1 ⟨rfl, hb1⟩)
  all_goals go_ret
  · exact ⟨rfl, hb1⟩
  · exact ⟨ret_int (by simp [withinI, *]), hb1⟩
theorem outside_any (n lo hi : Int) (w : World) : Calls Tryz.prog 48 #[.int .i64 n, .int .i64 lo, .int .i64 hi] w (RV w (.bool (decide (n < lo) || decide (hi < n)))) := by
  go_enter Tryz.func48, Tryz.ntmps48
  go_wp2
  all_goals go_ret
  · exact ⟨ret_bool (by simp [*]), bl_refl⟩
  · exact ⟨ret_bool (by simp [*]), bl_refl⟩
theorem mfirst_any (l : List Int) (A : Option Addr) (c : Nat) (w : World) (hl : l.length ≤ maxLen) (h : Rd ic 1 w A l) :
    Calls Tryz.prog 79 #[.slice A l.length c] w (RV w (.int .i64 (firstI l))) := by
  unfold maxLen at hl
  go_enter Tryz.func79, Tryz.ntmps79
  go_wp2
  go_loop [7] (fun i => ∃ k : Nat, k ≤ l.length ∧ i = .int .i64 k ∧ Hid (firstI l = firstI (l.drop k))) (fun i => l.length - (intOf i).toNat)
  case atStart => exact ⟨0, Nat.zero_le _, rfl, rfl⟩
  case round =>
    obtain ⟨k, hk, rfl, H⟩ := hrel
    by_cases hlt : k < l.length
    · obtain ⟨b, off, rfl, hb, hc⟩ := h.int hlt
      have hd := Lib.hid (firstI_drop hlt)
      go_wp2
      · have hne : (l[k] != 0) = true := by assumption
        go_ret
        refine ⟨ret_int ?_, bl_refl⟩
        rw [H.out, hd.out, if_neg (by simpa using hne)]
      · have hne : (l[k] != 0) = false := by assumption
        go_round
        case rel => exact ⟨k + 1, by omega, by go_num, by rw [H.out, hd.out, if_pos (by simpa using hne)]; rfl⟩
        case measure => simp [intOf]; omega
    · have hkl : k = l.length := by omega
      go_wp2
      go_ret
      refine ⟨ret_int ?_, bl_refl⟩
      rw [H.out, hkl, List.drop_length]; rfl
theorem lfirst_any (l : List Int) (A : Option Addr) (c : Nat) (w : World) (hl : l.length ≤ maxLen) (h : Rd ic 1 w A l) :
    Calls Tryz.prog 22 #[.slice A l.length c] w (RV w (.int .i64 (firstI l))) := by
  unfold maxLen at hl
  go_enter Tryz.func22, Tryz.ntmps22
  go_wp2
  go_loop [7] (fun i => ∃ k : Nat, k ≤ l.length ∧ i = .int .i64 k ∧ Hid (firstI l = firstI (l.drop k))) (fun i => l.length - (intOf i).toNat)
  case atStart => exact ⟨0, Nat.zero_le _, rfl, rfl⟩
  case round =>
    obtain ⟨k, hk, rfl, H⟩ := hrel
    by_cases hlt : k < l.length
    · obtain ⟨b, off, rfl, hb, hc⟩ := h.int hlt
      have hd := Lib.hid (firstI_drop hlt)
      go_wp2
      · have hne : (l[k] != 0) = true := by assumption
        go_ret
        refine ⟨ret_int ?_, bl_refl⟩
        rw [H.out, hd.out, if_neg (by simpa using hne)]
      · have hne : (l[k] != 0) = false := by assumption
        go_round
        case rel => exact ⟨k + 1, by omega, by go_num, by rw [H.out, hd.out, if_pos (by simpa using hne)]; rfl⟩
        case measure => simp [intOf]; omega
    · have hkl : k = l.length := by omega
      go_wp2
      go_ret
      refine ⟨ret_int ?_, bl_refl⟩
      rw [H.out, hkl, List.drop_length]; rfl

def otherK (b : Bar) (k : Knot) : Knot := if lowK b = k then uppK b else lowK b
theorem other_any (x y s kx ky : Int) (hx : -1000000 ≤ x ∧ x ≤ 1000000) (hy : -1000000 ≤ y ∧ y ≤ 1000000) (hs : -10 ≤ s ∧ s ≤ 10) (w : World) :
    Calls Tryz.prog 89 #[.agg #[.int .i64 x, .int .i64 y, .int .i64 s], .agg #[.int .i64 kx, .int .i64 ky]] w (RV w (kv (otherK (x, y, s) (kx, ky)).1 (otherK (x, y, s) (kx, ky)).2)) := by
  have hB := ((Blk.new w 70 #[.int .i64 x, .int .i64 y, .int .i64 s]).alloc (.cells #[.int .i64 kx, .int .i64 ky] 26)).alloc (.cells #[.int .i64 0, .int .i64 0] 26)
  have hB2 := (Blk.new1 w (.cells #[.int .i64 x, .int .i64 y, .int .i64 s] 70) 26 #[.int .i64 kx, .int .i64 ky]).alloc (.cells #[.int .i64 0, .int .i64 0] 26)
  have hR := Blk.new2 w (.cells #[.int .i64 x, .int .i64 y, .int .i64 s] 70) (.cells #[.int .i64 kx, .int .i64 ky] 26) 26 #[.int .i64 0, .int .i64 0]
  obtain ⟨g, hg⟩ : ∃ g, beqK x y kx ky = g := ⟨_, rfl⟩
  have hb0 : Below w.heap.size w (((w.alloc (.cells #[.int .i64 x, .int .i64 y, .int .i64 s] 70)).alloc (.cells #[.int .i64 kx, .int .i64 ky] 26)).alloc (.cells #[.int .i64 0, .int .i64 0] 26)) := by (repeat (first | exact bl_refl | assumption | (apply bl_then; assumption) | refine bl_alloc ?_ _ | refine bl_drew ?_ | refine bl_drewN ?_ _))
  cases g
  · have hv : otherK (x, y, s) (kx, ky) = (x, y) := by
      unfold otherK
      rw [if_neg (fun e => by rw [beqK_true.2 e] at hg; cases hg)]; rfl
    rw [hv]
    clear hv
    go_enter Tryz.func89, Tryz.ntmps89
    go_wp2
    refine wp_region_ords [0, 2] [(1, false)] [3] (by kernel_rfl) (by kernel_rfl) (fun d _ _ _ _ h => by cases d <;> exact h) ?_
    simp only [List.map_cons, List.map_nil, List.getD_cons_zero, List.getD_cons_succ]
    repeat (go_big_quiet_step (fail))
    refine wpQuiet_nil ?_
    refine wpMid_run rfl (fun K hK => ?_)
    go_simp
    refine (low_any _ _ _ _).mono ?_
    rintro e w1 ⟨rfl, hb1⟩
    refine hK _ _ (by (repeat (first | exact bl_refl | assumption | (apply bl_then; assumption) | refine bl_alloc ?_ _ | refine bl_drew ?_ | refine bl_drewN ?_ _))) ?_
    clear hK K
    (first | replace hB := hB.st0 hb1 | replace hB := hB.st1 hb1 | replace hB := hB.std hb1 | replace hB := hB.std1 hb1 | replace hB := hB.st2 hb1 | replace hB := hB.std2 hb1 | replace hB := hB.st3 hb1)
    have kB := hB.facts
    (first | replace hB2 := hB2.st0 hb1 | replace hB2 := hB2.st1 hb1 | replace hB2 := hB2.std hb1 | replace hB2 := hB2.std1 hb1 | replace hB2 := hB2.st2 hb1 | replace hB2 := hB2.std2 hb1 | replace hB2 := hB2.st3 hb1)
    have kB2 := hB2.facts
    (first | replace hR := hR.st0 hb1 | replace hR := hR.st1 hb1 | replace hR := hR.std hb1 | replace hR := hR.std1 hb1 | replace hR := hR.st2 hb1 | replace hR := hR.std2 hb1 | replace hR := hR.st3 hb1)
    refine wpMid_nil ?_
    go_wp2_with (first | (go_at_call 104; refine (low_any _ _ _ _).mono ?_; rintro e w2 ⟨rfl, hb2⟩; (first | replace hR := hR.st0 hb2 | replace hR := hR.st1 hb2 | replace hR := hR.std hb2 | replace hR := hR.std1 hb2 | replace hR := hR.st2 hb2 | replace hR := hR.std2 hb2 | replace hR := hR.st3 hb2)) | (refine wpList_store_blk hR rfl _ _ _ rfl rfl rfl (by rfl) (by kernel_rfl) (by kernel_rfl) ?_; intro w3 hR3 hc3))
    have fR := hR3.facts
    have hbw := (((Chg.of_below (bl_then hb2 (bl_then (bl_d hb1) hb0))).trans (hc3.mono (S' := [w.heap.size + 1 + 1]) (by simp))).below (by simp; omega) (Nat.le_refl _))
    refine bodyPost_ret (v := kv x y) (by simp [results, Tryz.results89, go_sem, fR]) rfl ?_
    exact ⟨rfl, hbw⟩
  · have hv : otherK (x, y, s) (kx, ky) = (x + s, y + 1) := by
      unfold otherK
      rw [if_pos (show lowK (x, y, s) = (kx, ky) from beqK_true.1 hg)]; rfl
    rw [hv]
    clear hv
    go_enter Tryz.func89, Tryz.ntmps89
    go_wp2
    refine wp_region_ords [0, 2] [(1, false)] [3] (by kernel_rfl) (by kernel_rfl) (fun d _ _ _ _ h => by cases d <;> exact h) ?_
    simp only [List.map_cons, List.map_nil, List.getD_cons_zero, List.getD_cons_succ]
    repeat (go_big_quiet_step (fail))
    refine wpQuiet_nil ?_
    refine wpMid_run rfl (fun K hK => ?_)
    go_simp
    refine (low_any _ _ _ _).mono ?_
    rintro e w1 ⟨rfl, hb1⟩
    refine hK _ _ (by (repeat (first | exact bl_refl | assumption | (apply bl_then; assumption) | refine bl_alloc ?_ _ | refine bl_drew ?_ | refine bl_drewN ?_ _))) ?_
    clear hK K
    (first | replace hB := hB.st0 hb1 | replace hB := hB.st1 hb1 | replace hB := hB.std hb1 | replace hB := hB.std1 hb1 | replace hB := hB.st2 hb1 | replace hB := hB.std2 hb1 | replace hB := hB.st3 hb1)
    have kB := hB.facts
    (first | replace hB2 := hB2.st0 hb1 | replace hB2 := hB2.st1 hb1 | replace hB2 := hB2.std hb1 | replace hB2 := hB2.std1 hb1 | replace hB2 := hB2.st2 hb1 | replace hB2 := hB2.std2 hb1 | replace hB2 := hB2.st3 hb1)
    have kB2 := hB2.facts
    (first | replace hR := hR.st0 hb1 | replace hR := hR.st1 hb1 | replace hR := hR.std hb1 | replace hR := hR.std1 hb1 | replace hR := hR.st2 hb1 | replace hR := hR.std2 hb1 | replace hR := hR.st3 hb1)
    refine wpMid_nil ?_
    go_wp2_with (first | (go_at_call 105; refine (high_any _ _ _ hx hy hs _).mono ?_; rintro e w2 ⟨rfl, hb2⟩; (first | replace hR := hR.st0 hb2 | replace hR := hR.st1 hb2 | replace hR := hR.std hb2 | replace hR := hR.std1 hb2 | replace hR := hR.st2 hb2 | replace hR := hR.std2 hb2 | replace hR := hR.st3 hb2)) | (refine wpList_store_blk hR rfl _ _ _ rfl rfl rfl (by rfl) (by kernel_rfl) (by kernel_rfl) ?_; intro w3 hR3 hc3))
    have fR := hR3.facts
    have hbw := (((Chg.of_below (bl_then hb2 (bl_then (bl_d hb1) hb0))).trans (hc3.mono (S' := [w.heap.size + 1 + 1]) (by simp))).below (by simp; omega) (Nat.le_refl _))
    refine bodyPost_ret (v := kv (x + s) (y + 1)) (by simp [results, Tryz.results89, go_sem, fR]) rfl ?_
    exact ⟨rfl, hbw⟩
def kltB (x y x' y' : Int) : Bool := decide (y < y' ∨ y = y' ∧ x < x')
theorem before_any (x y x' y' : Int) (w : World) : Calls Tryz.prog 148 #[.agg #[.int .i64 x, .int .i64 y], .agg #[.int .i64 x', .int .i64 y']] w (RV w (.bool (kltB x y x' y'))) := by
  go_enter Tryz.func148, Tryz.ntmps148
  go_wp2
  all_goals go_ret
  all_goals refine ⟨ret_bool ?_, by (repeat (first | exact bl_refl | assumption | (apply bl_then; assumption) | refine bl_alloc ?_ _ | refine bl_drew ?_ | refine bl_drewN ?_ _))⟩
  all_goals
    unfold kltB
    rw [Bool.eq_iff_iff]
    simp [*]
    try omega

theorem bars_any {v : Value} (l : List Bar) (w : World) (h : SlB w v l) (hlen : l.length ≤ 100000) : Calls Tryz.prog 36 #[v] w (RB w l) := by
  go_enter Tryz.func36, Tryz.ntmps36
  go_wp2_with (at_builtin; refine wpList_appBS (Own.empty bc 3 w _) (h.alloc _) rfl _ _ rfl rfl rfl (by simp; omega) (by simp) ?_; intro v2 w2 hown2 hgr2)
  have hb2 : Below w.heap.size w w2 := bl_grown hgr2 (bl_alloc bl_refl _) fun k hk => by simp [Value.ownBlock] at hk; omega
  go_ret
  exact ⟨_, rfl, by simpa using hown2, hb2⟩
theorem knots_any {v : Value} (l : List Knot) (w : World) (h : SlK w v l) (hlen : l.length ≤ 100000) : Calls Tryz.prog 61 #[v] w (RK w l) := by
  go_enter Tryz.func61, Tryz.ntmps61
  go_wp2_with (at_builtin; refine wpList_appKS (Own.empty kc 2 w _) (h.alloc _) rfl _ _ rfl rfl rfl (by simp; omega) (by simp) ?_; intro v2 w2 hown2 hgr2)
  have hb2 : Below w.heap.size w w2 := bl_grown hgr2 (bl_alloc bl_refl _) fun k hk => by simp [Value.ownBlock] at hk; omega
  go_ret
  exact ⟨_, rfl, by simpa using hown2, hb2⟩
end Go.Proofs.YthcnngoaijgnoaaGreat

/- Lists told apart; the torn net copied; the reference's check of it, walked. Conditions: the slices read as lists. -/
namespace Go.Proofs.YthcnngoaijgnoaaGreat
open Go.RowKit
set_option maxHeartbeats 2000000
set_option maxRecDepth 100000

theorem same_drop {α : Type} [DecidableEq α] {l r : List α} {k : Nat} (hlen : l.length = r.length) (hk : k < l.length) : decide (l.drop k = r.drop k) = (decide (l[k] = r[k]'(hlen ▸ hk)) && decide (l.drop (k + 1) = r.drop (k + 1))) := by
  rw [List.drop_eq_getElem_cons hk, List.drop_eq_getElem_cons (l := r) (show k < r.length by omega)]
  rw [Bool.eq_iff_iff, Bool.and_eq_true, decide_eq_true_eq, decide_eq_true_eq, decide_eq_true_eq, List.cons.injEq]
theorem sameBars_any {v u : Value} (l r : List Bar) (w : World) (h : SlB w v l) (h' : SlB w u r) : Calls Tryz.prog 41 #[v, u] w (RV w (.bool (decide (l = r)))) := by
  obtain ⟨A, c, rfl, hlc, hcm, h⟩ := h
  obtain ⟨A', c', rfl, hlc', hcm', h'⟩ := h'
  have hl : l.length ≤ maxLen := Nat.le_trans hlc hcm
  have hl' : r.length ≤ maxLen := Nat.le_trans hlc' hcm'
  unfold maxLen at hl hl'
  by_cases hlen : l.length = r.length
  · have he : (l.length != r.length) = false := by simp [hlen]
    have he2 : ((l.length : Int) != (r.length : Int)) = false := by simp [hlen]
    go_enter Tryz.func41, Tryz.ntmps41
    go_wp2
    go_loopw [5] (fun i wr => ∃ k : Nat, k ≤ l.length ∧ i = .int .i64 k ∧ Hid (decide (l = r) = decide (l.drop k = r.drop k)) ∧ Below w.heap.size w wr) (fun i _ => l.length - (intOf i).toNat)
    case atStart => exact ⟨0, Nat.zero_le _, rfl, by simp [Hid], by (repeat (first | exact bl_refl | assumption | (apply bl_then; assumption) | refine bl_alloc ?_ _ | refine bl_drew ?_ | refine bl_drewN ?_ _))⟩
    case round =>
      obtain ⟨k, hk, rfl, H, hbw⟩ := hrel
      by_cases hlt : k < l.length
      · have hr := h.below hbw
        have hr' := h'.below hbw
        obtain ⟨b, off, rfl, hb, e0, e1, e2⟩ := hr.bar hlt
        obtain ⟨b', off', rfl, hb', e0', e1', e2'⟩ := hr'.bar (hlen ▸ hlt)
        have HD := Lib.hid (same_drop hlen hlt)
        have hlt' : k < r.length := hlen ▸ hlt
        obtain ⟨g, hg⟩ : ∃ g, beqB l[k].1 l[k].2.1 l[k].2.2 r[k].1 r[k].2.1 r[k].2.2 = g := ⟨_, rfl⟩
        have hg' : decide (l[k] = r[k]) = g := hg
        cases g
        · go_wp2
          refine wp_region_ords [0, 1, 2, 3, 4, 5, 6, 7, 8] [] [] (by kernel_rfl) (by kernel_rfl) (fun d _ _ _ _ h => by cases d <;> exact h) ?_
          simp only [List.map_cons, List.map_nil, List.getD_cons_zero, List.getD_cons_succ]
          repeat (go_big_quiet_step (fail))
          refine wpQuiet_nil ?_
          refine wpMid_nil ?_
          go_wp2
          go_ret
          exact ⟨ret_bool (by rw [H.out, HD.out, hg']; rfl), by (repeat (first | exact bl_refl | assumption | (apply bl_then; assumption) | refine bl_alloc ?_ _ | refine bl_drew ?_ | refine bl_drewN ?_ _))⟩
        · go_wp2
          refine wp_region_ords [0, 1, 2, 3, 4, 5, 6, 7, 8] [] [] (by kernel_rfl) (by kernel_rfl) (fun d _ _ _ _ h => by cases d <;> exact h) ?_
          simp only [List.map_cons, List.map_nil, List.getD_cons_zero, List.getD_cons_succ]
          repeat (go_big_quiet_step (fail))
          refine wpQuiet_nil ?_
          refine wpMid_nil ?_
          go_wp2
          go_roundw
          case rel => exact ⟨k + 1, by omega, by go_num, by rw [H.out, HD.out, hg']; rfl, by (repeat (first | exact bl_refl | assumption | (apply bl_then; assumption) | refine bl_alloc ?_ _ | refine bl_drew ?_ | refine bl_drewN ?_ _))⟩
          case measure => simp [intOf]; omega
      · have hkl : k = l.length := by omega
        go_wp2
        go_ret
        refine ⟨ret_bool ?_, by (repeat (first | exact bl_refl | assumption | (apply bl_then; assumption) | refine bl_alloc ?_ _ | refine bl_drew ?_ | refine bl_drewN ?_ _))⟩
        rw [H.out, hkl, List.drop_length, hlen, List.drop_length]; rfl
  · have he2 : ((l.length : Int) != (r.length : Int)) = true := by simp; omega
    have hd : Hid (decide (l = r) = false) := by simp [Hid]; rintro rfl; exact hlen rfl
    go_enter Tryz.func41, Tryz.ntmps41
    go_wp2
    go_ret
    exact ⟨ret_bool hd.out.symm, by (repeat (first | exact bl_refl | assumption | (apply bl_then; assumption) | refine bl_alloc ?_ _ | refine bl_drew ?_ | refine bl_drewN ?_ _))⟩
theorem sameKnots_any {v u : Value} (l r : List Knot) (w : World) (h : SlK w v l) (h' : SlK w u r) : Calls Tryz.prog 29 #[v, u] w (RV w (.bool (decide (l = r)))) := by
  obtain ⟨A, c, rfl, hlc, hcm, h⟩ := h
  obtain ⟨A', c', rfl, hlc', hcm', h'⟩ := h'
  have hl : l.length ≤ maxLen := Nat.le_trans hlc hcm
  have hl' : r.length ≤ maxLen := Nat.le_trans hlc' hcm'
  unfold maxLen at hl hl'
  by_cases hlen : l.length = r.length
  · have he2 : ((l.length : Int) != (r.length : Int)) = false := by simp [hlen]
    go_enter Tryz.func29, Tryz.ntmps29
    go_wp2
    go_loopw [5] (fun i wr => ∃ k : Nat, k ≤ l.length ∧ i = .int .i64 k ∧ Hid (decide (l = r) = decide (l.drop k = r.drop k)) ∧ Below w.heap.size w wr) (fun i _ => l.length - (intOf i).toNat)
    case atStart => exact ⟨0, Nat.zero_le _, rfl, by simp [Hid], by (repeat (first | exact bl_refl | assumption | (apply bl_then; assumption) | refine bl_alloc ?_ _ | refine bl_drew ?_ | refine bl_drewN ?_ _))⟩
    case round =>
      obtain ⟨k, hk, rfl, H, hbw⟩ := hrel
      by_cases hlt : k < l.length
      · have hr := h.below hbw
        have hr' := h'.below hbw
        obtain ⟨b, off, rfl, hb, e0, e1⟩ := hr.knot hlt
        obtain ⟨b', off', rfl, hb', e0', e1'⟩ := hr'.knot (hlen ▸ hlt)
        have HD := Lib.hid (same_drop hlen hlt)
        have hlt' : k < r.length := hlen ▸ hlt
        obtain ⟨g, hg⟩ : ∃ g, beqK l[k].1 l[k].2 r[k].1 r[k].2 = g := ⟨_, rfl⟩
        have hg' : decide (l[k] = r[k]) = g := hg
        cases g
        · go_wp2
          refine wp_region_ords [0, 1, 2, 3, 4, 5, 6, 7, 8] [] [] (by kernel_rfl) (by kernel_rfl) (fun d _ _ _ _ h => by cases d <;> exact h) ?_
          simp only [List.map_cons, List.map_nil, List.getD_cons_zero, List.getD_cons_succ]
          repeat (go_big_quiet_step (fail))
          refine wpQuiet_nil ?_
          refine wpMid_nil ?_
          go_wp2
          go_ret
          exact ⟨ret_bool (by rw [H.out, HD.out, hg']; rfl), by (repeat (first | exact bl_refl | assumption | (apply bl_then; assumption) | refine bl_alloc ?_ _ | refine bl_drew ?_ | refine bl_drewN ?_ _))⟩
        · go_wp2
          refine wp_region_ords [0, 1, 2, 3, 4, 5, 6, 7, 8] [] [] (by kernel_rfl) (by kernel_rfl) (fun d _ _ _ _ h => by cases d <;> exact h) ?_
          simp only [List.map_cons, List.map_nil, List.getD_cons_zero, List.getD_cons_succ]
          repeat (go_big_quiet_step (fail))
          refine wpQuiet_nil ?_
          refine wpMid_nil ?_
          go_wp2
          go_roundw
          case rel => exact ⟨k + 1, by omega, by go_num, by rw [H.out, HD.out, hg']; rfl, by (repeat (first | exact bl_refl | assumption | (apply bl_then; assumption) | refine bl_alloc ?_ _ | refine bl_drew ?_ | refine bl_drewN ?_ _))⟩
          case measure => simp [intOf]; omega
      · have hkl : k = l.length := by omega
        go_wp2
        go_ret
        refine ⟨ret_bool ?_, by (repeat (first | exact bl_refl | assumption | (apply bl_then; assumption) | refine bl_alloc ?_ _ | refine bl_drew ?_ | refine bl_drewN ?_ _))⟩
        rw [H.out, hkl, List.drop_length, hlen, List.drop_length]; rfl
  · have he2 : ((l.length : Int) != (r.length : Int)) = true := by simp; omega
    have hd : Hid (decide (l = r) = false) := by simp [Hid]; rintro rfl; exact hlen rfl
    go_enter Tryz.func29, Tryz.ntmps29
    go_wp2
    go_ret
    exact ⟨ret_bool hd.out.symm, by (repeat (first | exact bl_refl | assumption | (apply bl_then; assumption) | refine bl_alloc ?_ _ | refine bl_drew ?_ | refine bl_drewN ?_ _))⟩

/-- a torn net: its value reads as two lists -/
theorem short_any {v u : Value} (N D : List Bar) (n : Int) (w : World) (hN : SlB w v N) (hD : SlB w u D) : Calls Tryz.prog 15 #[.agg #[v, u], .int .i64 n] w (RV w (.bool (decide ((N.length : Int) ≤ n) && decide ((D.length : Int) ≤ n)))) := by
  obtain ⟨A, c, rfl, hlc, hcm, h⟩ := hN
  obtain ⟨A', c', rfl, hlc', hcm', h'⟩ := hD
  have hl : N.length ≤ maxLen := Nat.le_trans hlc hcm
  have hl' : D.length ≤ maxLen := Nat.le_trans hlc' hcm'
  unfold maxLen at hl hl'
  go_enter Tryz.func15, Tryz.ntmps15
  go_wp2
  all_goals go_ret
  all_goals refine ⟨ret_bool ?_, by (repeat (first | exact bl_refl | assumption | (apply bl_then; assumption) | refine bl_alloc ?_ _ | refine bl_drew ?_ | refine bl_drewN ?_ _))⟩
  all_goals
    simp [*]
    try omega
theorem rnet_sl {v : Value} (l : List Bar) (w : World) (h : SlB w v l) : Calls Tryz.prog 85 #[v] w (RV w (.int .i64 (netE l))) := by
  obtain ⟨A, c, rfl, hlc, hcm, h⟩ := h
  exact rnet_any l A c w (Nat.le_trans hlc hcm) h
def tornE (N D : List Bar) : Int := firstI [netE N, netE D, whenI (unk D N) 10]
theorem rtorn_any {v u : Value} (N D : List Bar) (w : World) (hN : SlB w v N) (hD : SlB w u D) : Calls Tryz.prog 21 #[.agg #[v, u]] w (RV w (.int .i64 (tornE N D))) := by
  have hB := Blk.new w 24 #[v, u]
  have hN0 := hN.alloc (.cells #[v, u] 24)
  have hD0 := hD.alloc (.cells #[v, u] 24)
  go_enter Tryz.func21, Tryz.ntmps21
  go_wp2_with (first | (go_at_call 85; refine (rnet_sl _ _ (by assumption)).mono ?_; rintro e w1 ⟨rfl, hb1⟩; (first | replace hB := hB.st0 hb1 | replace hB := hB.st1 hb1 | replace hB := hB.std hb1 | replace hB := hB.std1 hb1 | replace hB := hB.st2 hb1 | replace hB := hB.std2 hb1 | replace hB := hB.st3 hb1); have kB := hB.facts; (first | replace hN0 := hN0.st0 hb1 | replace hN0 := hN0.st1 hb1 | replace hN0 := hN0.std hb1 | replace hN0 := hN0.std1 hb1 | replace hN0 := hN0.st2 hb1 | replace hN0 := hN0.std2 hb1 | replace hN0 := hN0.st3 hb1); (first | replace hD0 := hD0.st0 hb1 | replace hD0 := hD0.st1 hb1 | replace hD0 := hD0.std hb1 | replace hD0 := hD0.std1 hb1 | replace hD0 := hD0.st2 hb1 | replace hD0 := hD0.std2 hb1 | replace hD0 := hD0.st3 hb1)) | (go_at_call 44; refine (unknown_any D N _ hD0 hN0).mono ?_; rintro e w1 ⟨rfl, hb1⟩))
  all_goals go_ret
  all_goals refine ⟨ret_int ?_, by (repeat (first | exact bl_refl | assumption | (apply bl_then; assumption) | refine bl_alloc ?_ _ | refine bl_drew ?_ | refine bl_drewN ?_ _))⟩
  all_goals simp_all [tornE, firstI, whenI]
theorem torn_any {v u : Value} (N D : List Bar) (w : World) (hN : SlB w v N) (hD : SlB w u D) (hlN : N.length ≤ 100000) (hlD : D.length ≤ 100000) : Calls Tryz.prog 18 #[.agg #[v, u]] w
    (fun e w' => ∃ v' u', e = .returned (.agg #[v', u']) ∧ OwB w.heap.size w' v' N ∧ OwB w.heap.size w' u' D ∧ Below w.heap.size w w') := by
  have hB := (Blk.new w 24 #[v, u]).alloc (.cells #[.slice none 0 0, .slice none 0 0] 32)
  have hR := Blk.new1 w (.cells #[v, u] 24) 32 #[.slice none 0 0, .slice none 0 0]
  go_enter Tryz.func18, Tryz.ntmps18
  go_wp2
  refine wp_region_ords [0, 1, 3, 4] [(2, false)] [5, 6, 7] (by kernel_rfl) (by kernel_rfl) (fun d _ _ _ _ h => by cases d <;> exact h) ?_
  simp only [List.map_cons, List.map_nil, List.getD_cons_zero, List.getD_cons_succ]
  repeat (go_big_quiet_step (fail))
  refine wpQuiet_nil ?_
  refine wpMid_run rfl (fun K hK => ?_)
  go_simp
  refine (bars_any N _ ((hN.alloc _).alloc _).drew hlN).mono ?_
  rintro e w1 ⟨v1, rfl, hown1, hb1⟩
  refine hK _ _ (by (repeat (first | exact bl_refl | assumption | (apply bl_then; assumption) | refine bl_alloc ?_ _ | refine bl_drew ?_ | refine bl_drewN ?_ _))) ?_
  clear hK K
  (first | replace hB := hB.st0 hb1 | replace hB := hB.st1 hb1 | replace hB := hB.std hb1 | replace hB := hB.std1 hb1 | replace hB := hB.st2 hb1 | replace hB := hB.std2 hb1 | replace hB := hB.st3 hb1)
  have kB := hB.facts
  (first | replace hR := hR.st0 hb1 | replace hR := hR.st1 hb1 | replace hR := hR.std hb1 | replace hR := hR.std1 hb1 | replace hR := hR.st2 hb1 | replace hR := hR.std2 hb1 | replace hR := hR.st3 hb1)
  have hD1 : SlB w1 u D := hD.below (bl_aad hb1)
  obtain ⟨A1, c1, rfl⟩ := hown1.shape
  refine wpMid_nil ?_
  go_wp2_with (first | (go_at_call 36; refine (bars_any D _ hD1 hlD).mono ?_; rintro e w2 ⟨v2, rfl, hown2, hb2⟩; (first | replace hown1 := hown1.st0 hb2 | replace hown1 := hown1.st1 hb2 | replace hown1 := hown1.std hb2 | replace hown1 := hown1.std1 hb2 | replace hown1 := hown1.st2 hb2 | replace hown1 := hown1.std2 hb2 | replace hown1 := hown1.st3 hb2); (first | replace hR := hR.st0 hb2 | replace hR := hR.st1 hb2 | replace hR := hR.std hb2 | replace hR := hR.std1 hb2 | replace hR := hR.st2 hb2 | replace hR := hR.std2 hb2 | replace hR := hR.st3 hb2); obtain ⟨A2, c2, rfl⟩ := hown2.shape) | (refine wpList_store_blk hR rfl _ _ _ rfl rfl rfl (by rfl) (by kernel_rfl) (by kernel_rfl) ?_; intro w3 hR3 hc3))
  have fR := hR3.facts
  have hsz := (bl_aad hb1).size
  have hsz2 := hb1.size
  have hbw := (((Chg.of_below (bl_then hb2 (bl_aad hb1))).trans (hc3.mono (S' := [w.heap.size + 1]) (by simp))).below (by simp) (Nat.le_refl _))
  refine bodyPost_ret (v := .agg #[.slice A1 N.length c1, .slice A2 D.length c2]) (by simp [results, Tryz.results18, go_sem, fR]) rfl ?_
  refine ⟨_, _, rfl, ?_, ?_, hbw⟩
  · exact Own.base_mono (Own.chg hown1 hc3 (by simp)) (by simp; omega)
  · exact Own.base_mono (Own.chg hown2 hc3 (by simp at hsz2 ⊢; omega)) hsz
end Go.Proofs.YthcnngoaijgnoaaGreat

/- A hole is made; membership of bars as a closure; the bars that are kept, walked. Conditions: the bars within bounds, each once. -/
namespace Go.Proofs.YthcnngoaijgnoaaGreat
open Go.RowKit
set_option maxHeartbeats 2000000
set_option maxRecDepth 100000

@[go_sem] theorem mk_map {P : Program} (t : TypeId) (w : World) : (Instr.makeMap t none).run P w = .ok (.map (some w.heap.size)) (w.alloc (.map #[] 0)) := rfl
theorem HoleAt.new (w : World) : HoleAt (((w.alloc (.map #[] 0)).alloc (.map #[] 0)).alloc (.cells #[.map (some w.heap.size), .map (some (w.heap.size + 1))] 111)) (w.heap.size + 1 + 1) w.heap.size (w.heap.size + 1) [] := by
  refine ⟨?_, ⟨[], 0, ?_, MOk.nil_, fun b => by simp [mget], rfl⟩, ⟨[], 0, ?_, MOk.nil_, fun k => by simp [mget, legsO, legsAt, noLegs]⟩, by simp, by omega⟩
  · exact Blk.new2 w _ _ _ _
  · exact ((MapAt.new w bk yes).alloc _).alloc _
  · have := (MapAt.new (w.alloc (.map #[] 0)) kk lv).alloc (.cells #[.map (some w.heap.size), .map (some (w.heap.size + 1))] 111)
    simpa using this
theorem mem_take_succ {α : Type} {l : List α} {k : Nat} (hk : k < l.length) (x : α) : x ∈ l.take (k + 1) ↔ x = l[k] ∨ x ∈ l.take k := by
  rw [List.take_succ_eq_append_getElem hk, List.mem_append, List.mem_singleton, or_comm]
theorem dset_take {D : List Bar} (hn : D.Nodup) {k : Nat} (hk : k < D.length) : dset (D.take k) (D[k].1, D[k].2.1, D[k].2.2) true = D.take (k + 1) := by
  have hni : D[k] ∉ D.take k := fun h => by
    obtain ⟨j, hj, he⟩ := List.mem_take_iff_getElem.1 h
    have := (List.getElem_inj hn).1 he
    omega
  unfold dset
  rw [if_pos rfl, if_neg (show ¬ (D[k].1, D[k].2.1, D[k].2.2) ∈ D.take k from hni), List.take_succ_eq_append_getElem hk]
def BarOk (b : Bar) : Prop := (-200000 ≤ b.1 ∧ b.1 ≤ 200000) ∧ (-200000 ≤ b.2.1 ∧ b.2.1 ≤ 200000) ∧ (b.2.2 = 1 ∨ b.2.2 = -1)
theorem add_any (h rb rk : Nat) (D : List Bar) (x y s : Int) (w : World) (H : HoleAt w h rb rk D) (hb : BarOk (x, y, s)) :
    Calls Tryz.prog 108 #[.pointer (some ⟨h, 0, none⟩), .agg #[.int .i64 x, .int .i64 y, .int .i64 s]] w
      fun e w' => e = .returned (.tuple #[]) ∧ HoleAt w' h rb rk (dset D (x, y, s) true) ∧ Chg [rb, rk] w w' := by
  obtain ⟨h1, h2, h3⟩ := hb
  go_enter Tryz.func108, Tryz.ntmps108
  go_wp2_with (go_at_call 145; refine (set_any h rb rk D x y s true _ (H.below (bl_alloc bl_refl _)) h1 h2 h3).mono ?_; rintro e w1 ⟨rfl, H1, hc1⟩)
  refine bodyPost_end (results_none Tryz.results108 _ _ _) rfl ?_
  exact ⟨rfl, H1, (Chg.of_below (bl_alloc bl_refl _)).trans hc1⟩

theorem newHole_any {v : Value} (D : List Bar) (w : World) (h : SlB w v D) (hn : D.Nodup) (hok : ∀ b ∈ D, BarOk b) : Calls Tryz.prog 77 #[v] w
    fun e w' => ∃ h rb rk, e = .returned (.pointer (some ⟨h, 0, none⟩)) ∧ w.heap.size ≤ h ∧ w.heap.size ≤ rb ∧ w.heap.size ≤ rk ∧ HoleAt w' h rb rk D ∧ Below w.heap.size w w' := by
  obtain ⟨A, c, rfl, hlc, hcm, h⟩ := h
  have hl : D.length ≤ maxLen := Nat.le_trans hlc hcm
  unfold maxLen at hl
  go_enter Tryz.func77, Tryz.ntmps77
  go_wp2
  go_loopw [12] (fun i wr => ∃ k : Nat, k ≤ D.length ∧ i = .int .i64 k ∧ HoleAt wr (w.heap.size + 1 + 1) w.heap.size (w.heap.size + 1) (D.take k) ∧ Below w.heap.size w wr) (fun i _ => D.length - (intOf i).toNat)
  case atStart => exact ⟨0, Nat.zero_le _, rfl, HoleAt.new w, by (repeat (first | exact bl_refl | assumption | (apply bl_then; assumption) | refine bl_alloc ?_ _ | refine bl_drew ?_ | refine bl_drewN ?_ _))⟩
  case round =>
    obtain ⟨k, hk, rfl, H, hbw⟩ := hrel
    by_cases hlt : k < D.length
    · have hr := h.below hbw
      obtain ⟨b, off, rfl, hb, e0, e1, e2⟩ := hr.bar hlt
      have HD := Lib.hid (dset_take hn hlt)
      have hbo := hok _ (List.getElem_mem hlt)
      go_wp2_with (go_at_call 108; refine (add_any _ _ _ _ _ _ _ _ (H.below (bl_alloc bl_refl _)) hbo).mono ?_; rintro e w1 ⟨rfl, H1, hc1⟩)
      have hbw1 : Below w.heap.size w w1 := ((Chg.of_below hbw).alloc _ |>.trans (hc1.mono (S' := [w.heap.size, w.heap.size + 1]) (by simp))).below (by simp) (Nat.le_refl _)
      go_roundw
      case rel => exact ⟨k + 1, by omega, by go_num, by rw [← HD.out]; exact H1, hbw1⟩
      case measure => simp [intOf]; omega
    · have hkl : k = D.length := by omega
      rw [hkl, List.take_length] at H
      go_wp2
      go_ret
      exact ⟨_, _, _, rfl, by omega, by omega, by omega, H, hbw⟩

/-- cell g holds the map of a closure that tells whether a bar is in L -/
def MemAt (w : World) (g : Nat) (L : List Bar) : Prop := ∃ r m c, Blk w g 108 #[.map (some r)] ∧ MapAt bk yes w r m c ∧ ∀ b, mget b m = if b ∈ L then some true else none
theorem MemAt.below {w w' : World} {g : Nat} {L : List Bar} (h : MemAt w g L) (hb : Below w.heap.size w w') : MemAt w' g L := by
  obtain ⟨r, m, c, h1, h2, h3⟩ := h
  exact ⟨r, m, c, h1.below hb, h2.below hb, h3⟩
theorem zero_bool (w : World) : (zeroValue 4).run Tryz.prog w = .ok (.bool false) w := by kernel_rfl
theorem memb_any (g : Nat) (L : List Bar) (x y s : Int) (w : World) (h : MemAt w g L) : Calls Tryz.prog 169 #[.agg #[.int .i64 x, .int .i64 y, .int .i64 s], .pointer (some ⟨g, 0, none⟩)] w (RV w (.bool (hasb L (x, y, s)))) := by
  obtain ⟨r, m, c, hB, hm, hg⟩ := h
  have hB1 := hB.alloc (.cells #[.int .i64 x, .int .i64 y, .int .i64 s] 70)
  have fB := hB.facts
  have fB1 := hB1.facts
  have hl : (Instr.lookup 108 (.map (some r)) (.agg #[.int .i64 x, .int .i64 y, .int .i64 s]) false).run Tryz.prog (w.alloc (.cells #[.int .i64 x, .int .i64 y, .int .i64 s] 70)) =
      .ok (.bool (hasb L (x, y, s))) (w.alloc (.cells #[.int .i64 x, .int .i64 y, .int .i64 s] 70)) := by
    have := (hm.alloc (.cells #[.int .i64 x, .int .i64 y, .int .i64 s] 70)).look bar_key und_bars (zero_bool _) (x, y, s)
    refine this.trans ?_
    rw [hg]
    unfold hasb
    by_cases h : (x, y, s) ∈ L <;> simp [h, yes]
  clear hm
  go_enter Tryz.func169, Tryz.ntmps169
  go_wp2
  go_ret
  exact ⟨rfl, by (repeat (first | exact bl_refl | assumption | (apply bl_then; assumption) | refine bl_alloc ?_ _ | refine bl_drew ?_ | refine bl_drewN ?_ _))⟩
theorem member_any {v : Value} (L : List Bar) (w : World) (h : SlB w v L) : Calls Tryz.prog 143 #[v] w
    fun e w' => ∃ g, e = .returned (.func (.func 169) #[] #[.pointer (some ⟨g, 0, none⟩)]) ∧ w.heap.size ≤ g ∧ MemAt w' g L ∧ Below w.heap.size w w' := by
  obtain ⟨A, c, rfl, hlc, hcm, h⟩ := h
  have hl : L.length ≤ maxLen := Nat.le_trans hlc hcm
  unfold maxLen at hl
  go_enter Tryz.func143, Tryz.ntmps143
  go_wp2
  go_loopw [9] (fun i wr => ∃ k : Nat, k ≤ L.length ∧ i = .int .i64 k ∧ Blk wr (w.heap.size + 1) 108 #[.map (some w.heap.size)] ∧ (∃ m c, MapAt bk yes wr w.heap.size m c ∧ MOk m c ∧ ∀ b, mget b m = if b ∈ L.take k then some true else none) ∧ Below w.heap.size w wr) (fun i _ => L.length - (intOf i).toNat)
  case atStart =>
    refine ⟨0, Nat.zero_le _, rfl, Blk.new1 w _ _ _, ⟨[], 0, (MapAt.new w bk yes).alloc _, MOk.nil_, fun b => by simp [mget]⟩, by (repeat (first | exact bl_refl | assumption | (apply bl_then; assumption) | refine bl_alloc ?_ _ | refine bl_drew ?_ | refine bl_drewN ?_ _))⟩
  case round =>
    obtain ⟨k, hk, rfl, hB, ⟨m, cm, hm, mok, gm⟩, hbw⟩ := hrel
    have fB := hB.facts
    have GM := Lib.hid gm
    have OM := Lib.hid mok
    clear gm mok
    by_cases hlt : k < L.length
    · have hr := h.below hbw
      obtain ⟨b, off, rfl, hb, e0, e1, e2⟩ := hr.bar hlt
      obtain ⟨w3, hput, hm3, hc3⟩ := (hm.alloc (.cells #[.int .i64 L[k].1, .int .i64 L[k].2.1, .int .i64 L[k].2.2] 70)).put_ bar_key und_bars L[k] true
      have hput' : (Instr.mapUpdate 108 (.map (some w.heap.size)) (.agg #[.int .i64 L[k].1, .int .i64 L[k].2.1, .int .i64 L[k].2.2]) (.bool true)).run Tryz.prog (wr.alloc (.cells #[.int .i64 L[k].1, .int .i64 L[k].2.1, .int .i64 L[k].2.2] 70)) = .ok () w3 := hput
      clear hput
      have hB3 := (hB.alloc (.cells #[.int .i64 L[k].1, .int .i64 L[k].2.1, .int .i64 L[k].2.2] 70)).chg hc3 (by simp)
      have hbw3 : Below w.heap.size w w3 := ((Chg.of_below hbw).alloc _ |>.trans hc3).below (by simp) (Nat.le_refl _)
      have hG : Hid (∀ x, mget x (mput L[k] true cm m) = if x ∈ L.take (k + 1) then some true else none) := fun x => by
        rw [mget_put, GM.out x]
        by_cases hx : x = L[k]
        · rw [if_pos hx, if_pos ((mem_take_succ hlt x).2 (.inl hx))]
        · rw [if_neg hx]
          by_cases hx2 : x ∈ L.take k
          · rw [if_pos hx2, if_pos ((mem_take_succ hlt x).2 (.inr hx2))]
          · rw [if_neg hx2, if_neg (fun e => by rcases (mem_take_succ hlt x).1 e with h | h <;> contradiction)]
      go_wp2
      go_roundw
      case rel => exact ⟨k + 1, by omega, by go_num, hB3, ⟨_, _, hm3, OM.out.put _ _, hG.out⟩, hbw3⟩
      case measure => simp [intOf]; omega
    · have hkl : k = L.length := by omega
      go_wp2
      go_ret
      rw [hkl, List.take_length] at GM
      exact ⟨_, rfl, by omega, ⟨_, _, _, hB, hm, GM.out⟩, hbw⟩

theorem without1_any (q g : Nat) (L : List Bar) (x y s : Int) (w : World) (hq : Blk w q 139 #[.func (.func 169) #[] #[.pointer (some ⟨g, 0, none⟩)]]) (h : MemAt w g L) :
    Calls Tryz.prog 144 #[.agg #[.int .i64 x, .int .i64 y, .int .i64 s], .pointer (some ⟨q, 0, none⟩)] w (RV w (.bool (!hasb L (x, y, s)))) := by
  have hq1 := hq.alloc (.cells #[.int .i64 x, .int .i64 y, .int .i64 s] 70)
  have h1 := h.below (bl_alloc bl_refl (.cells #[.int .i64 x, .int .i64 y, .int .i64 s] 70))
  have fq := hq.facts
  have fq1 := hq1.facts
  go_enter Tryz.func144, Tryz.ntmps144
  go_wp2_with (go_at_call 169; refine (memb_any g L x y s _ h1).mono ?_; rintro e w1 ⟨rfl, hb1⟩)
  go_ret
  exact ⟨rfl, by (repeat (first | exact bl_refl | assumption | (apply bl_then; assumption) | refine bl_alloc ?_ _ | refine bl_drew ?_ | refine bl_drewN ?_ _))⟩

theorem kept_without {v : Value} (cap : Value) (p : Bar → Bool) (l : List Bar) (w : World) (h : SlB w v l) (hlen : l.length ≤ 100000)
    (hf : ∀ W b, Below w.heap.size w W → Calls Tryz.prog 144 #[.agg #[.int .i64 b.1, .int .i64 b.2.1, .int .i64 b.2.2], cap] W (RV W (.bool (p b)))) :
    Calls Tryz.prog 99 #[v, .func (.func 144) #[] #[cap]] w (RB w (l.filter p)) := by
  obtain ⟨A, c, rfl, hlc, hcm, h⟩ := h
  go_enter Tryz.func99, Tryz.ntmps99
  go_wp2
  go_loopw [5, 10] (fun o i wr => ∃ k : Nat, k ≤ l.length ∧ i = .int .i64 k ∧ OwB w.heap.size wr o ((l.take k).filter p) ∧ Below w.heap.size w wr) (fun _ i _ => l.length - (intOf i).toNat)
  case atStart => exact ⟨0, Nat.zero_le _, rfl, Own.nil_, by (repeat (first | exact bl_refl | assumption | (apply bl_then; assumption) | refine bl_alloc ?_ _ | refine bl_drew ?_ | refine bl_drewN ?_ _))⟩
  case round =>
    obtain ⟨k, hk, rfl, hown, hbw⟩ := hrel
    have hwl : ((l.take k).filter p).length ≤ (l.take k).length := List.length_filter_le _ _
    have htl : (l.take k).length ≤ 100000 := by simp; omega
    by_cases hlt : k < l.length
    · have hr := h.below hbw
      obtain ⟨b, off, rfl, hb, e0, e1, e2⟩ := hr.bar hlt
      have hT : Hid ((l.take (k + 1)).filter p = (l.take k).filter p ++ if p l[k] then [l[k]] else []) := by
        rw [List.take_succ_eq_append_getElem hlt, List.filter_append]
        cases h : p l[k] <;> simp [h, Hid]
      obtain ⟨g, hg⟩ : ∃ g, p l[k] = g := ⟨_, rfl⟩
      have hb1 : Below w.heap.size w (wr.alloc (.cells #[.int .i64 l[k].1, .int .i64 l[k].2.1, .int .i64 l[k].2.2] 70)) := by (repeat (first | exact bl_refl | assumption | (apply bl_then; assumption) | refine bl_alloc ?_ _ | refine bl_drew ?_ | refine bl_drewN ?_ _))
      have hB := Blk.new wr 70 #[.int .i64 l[k].1, .int .i64 l[k].2.1, .int .i64 l[k].2.2]
      have hF := hf _ l[k] hb1
      rw [hg] at hF
      cases g
      · go_wp2_with (go_at_call 144; refine hF.mono ?_; rintro e w2 ⟨rfl, hb2⟩)
        go_roundw
        case rel => exact ⟨k + 1, by omega, by go_num, by rw [hT.out, hg]; simpa using hown.below (bl_a hb2), by (repeat (first | exact bl_refl | assumption | (apply bl_then; assumption) | refine bl_alloc ?_ _ | refine bl_drew ?_ | refine bl_drewN ?_ _))⟩
        case measure => simp [intOf]; omega
      · go_wp2_with (first | (go_at_call 144; refine hF.mono ?_; rintro e w2 ⟨rfl, hb2⟩; replace hown := hown.st1 hb2; have hBB := hB.st0 hb2; have kB := hBB.facts) | (at_builtin; refine wpList_appB hown rfl _ _ rfl rfl rfl (by omega) (Below.size (by (repeat (first | exact bl_refl | assumption | (apply bl_then; assumption) | refine bl_alloc ?_ _ | refine bl_drew ?_ | refine bl_drewN ?_ _)))) ?_; intro v3 w3 hown3 hgr3))
        have hbw3 := own_step hown hgr3 (by (repeat (first | exact bl_refl | assumption | (apply bl_then; assumption) | refine bl_alloc ?_ _ | refine bl_drew ?_ | refine bl_drewN ?_ _)))
        go_roundw
        case rel => exact ⟨k + 1, by omega, by go_num, by rw [hT.out, hg]; exact hown3, hbw3⟩
        case measure => simp [intOf]; omega
    · have hkl : k = l.length := by omega
      go_wp2
      go_ret
      exact ⟨_, rfl, by rw [hkl, List.take_length] at hown; exact hown, by (repeat (first | exact bl_refl | assumption | (apply bl_then; assumption) | refine bl_alloc ?_ _ | refine bl_drew ?_ | refine bl_drewN ?_ _))⟩
theorem kept_inner {v : Value} (cap : Value) (p : Bar → Bool) (l : List Bar) (w : World) (h : SlB w v l) (hlen : l.length ≤ 100000)
    (hf : ∀ W b, b ∈ l → Below w.heap.size w W → Calls Tryz.prog 100 #[.agg #[.int .i64 b.1, .int .i64 b.2.1, .int .i64 b.2.2], cap] W (RV W (.bool (p b)))) :
    Calls Tryz.prog 99 #[v, .func (.func 100) #[] #[cap]] w (RB w (l.filter p)) := by
  obtain ⟨A, c, rfl, hlc, hcm, h⟩ := h
  go_enter Tryz.func99, Tryz.ntmps99
  go_wp2
  go_loopw [5, 10] (fun o i wr => ∃ k : Nat, k ≤ l.length ∧ i = .int .i64 k ∧ OwB w.heap.size wr o ((l.take k).filter p) ∧ Below w.heap.size w wr) (fun _ i _ => l.length - (intOf i).toNat)
  case atStart => exact ⟨0, Nat.zero_le _, rfl, Own.nil_, by (repeat (first | exact bl_refl | assumption | (apply bl_then; assumption) | refine bl_alloc ?_ _ | refine bl_drew ?_ | refine bl_drewN ?_ _))⟩
  case round =>
    obtain ⟨k, hk, rfl, hown, hbw⟩ := hrel
    have hwl : ((l.take k).filter p).length ≤ (l.take k).length := List.length_filter_le _ _
    have htl : (l.take k).length ≤ 100000 := by simp; omega
    by_cases hlt : k < l.length
    · have hr := h.below hbw
      obtain ⟨b, off, rfl, hb, e0, e1, e2⟩ := hr.bar hlt
      have hT : Hid ((l.take (k + 1)).filter p = (l.take k).filter p ++ if p l[k] then [l[k]] else []) := by
        rw [List.take_succ_eq_append_getElem hlt, List.filter_append]
        cases h : p l[k] <;> simp [h, Hid]
      obtain ⟨g, hg⟩ : ∃ g, p l[k] = g := ⟨_, rfl⟩
      have hb1 : Below w.heap.size w (wr.alloc (.cells #[.int .i64 l[k].1, .int .i64 l[k].2.1, .int .i64 l[k].2.2] 70)) := by (repeat (first | exact bl_refl | assumption | (apply bl_then; assumption) | refine bl_alloc ?_ _ | refine bl_drew ?_ | refine bl_drewN ?_ _))
      have hB := Blk.new wr 70 #[.int .i64 l[k].1, .int .i64 l[k].2.1, .int .i64 l[k].2.2]
      have hF := hf _ l[k] (List.getElem_mem hlt) hb1
      rw [hg] at hF
      cases g
      · go_wp2_with (go_at_call 100; refine hF.mono ?_; rintro e w2 ⟨rfl, hb2⟩)
        go_roundw
        case rel => exact ⟨k + 1, by omega, by go_num, by rw [hT.out, hg]; simpa using hown.below (bl_a hb2), by (repeat (first | exact bl_refl | assumption | (apply bl_then; assumption) | refine bl_alloc ?_ _ | refine bl_drew ?_ | refine bl_drewN ?_ _))⟩
        case measure => simp [intOf]; omega
      · go_wp2_with (first | (go_at_call 100; refine hF.mono ?_; rintro e w2 ⟨rfl, hb2⟩; replace hown := hown.st1 hb2; have hBB := hB.st0 hb2; have kB := hBB.facts) | (at_builtin; refine wpList_appB hown rfl _ _ rfl rfl rfl (by omega) (Below.size (by (repeat (first | exact bl_refl | assumption | (apply bl_then; assumption) | refine bl_alloc ?_ _ | refine bl_drew ?_ | refine bl_drewN ?_ _)))) ?_; intro v3 w3 hown3 hgr3))
        have hbw3 := own_step hown hgr3 (by (repeat (first | exact bl_refl | assumption | (apply bl_then; assumption) | refine bl_alloc ?_ _ | refine bl_drew ?_ | refine bl_drewN ?_ _)))
        go_roundw
        case rel => exact ⟨k + 1, by omega, by go_num, by rw [hT.out, hg]; exact hown3, hbw3⟩
        case measure => simp [intOf]; omega
    · have hkl : k = l.length := by omega
      go_wp2
      go_ret
      exact ⟨_, rfl, by rw [hkl, List.take_length] at hown; exact hown, by (repeat (first | exact bl_refl | assumption | (apply bl_then; assumption) | refine bl_alloc ?_ _ | refine bl_drew ?_ | refine bl_drewN ?_ _))⟩
end Go.Proofs.YthcnngoaijgnoaaGreat

/- The program's bars without others, and its check of a torn net, walked; what a net without an error is, plain. Conditions: the slices read as lists. -/
namespace Go.Proofs.YthcnngoaijgnoaaGreat
open Go.RowKit
set_option maxHeartbeats 2000000
set_option maxRecDepth 100000

@[go_sem] theorem store_func (P : Program) (w : World) (p : Addr) (f : Fn) (a b : Array Value) : (store p (.func f a b)).run P w = match w.cell? p with
      | some _ => if w.frozen? p then .halt (.unsupported (.unsafePointer "a write to bytes that a string shares")) w else .ok () (w.setCell p (.func f a b))
      | none => match w.farStore P p (.func f a b) (Mode.plain == .atomic) with
        | .ok (w', _) => .ok () w'
        | .error h => .halt h w := run_store P w p (.func f a b) .plain rfl
def bltP (a b : Bar) : Prop := barLt a.1 a.2.1 a.2.2 b.1 b.2.1 b.2.2 = true
theorem bltP_iff (a b : Bar) : bltP a b ↔ a.2.1 < b.2.1 ∨ a.2.1 = b.2.1 ∧ (a.1 < b.1 ∨ a.1 = b.1 ∧ a.2.2 < b.2.2) := by simp [bltP, barLt]
theorem bltP_trans {a b c : Bar} (h : bltP a b) (h' : bltP b c) : bltP a c := by
  rw [bltP_iff] at *
  omega
theorem bltP_irrefl (a : Bar) : ¬ bltP a a := by
  rw [bltP_iff]
  omega
theorem barE_ok {x y s : Int} (h : barE x y s = 0) : BarOk (x, y, s) := by
  unfold barE at h
  split at h
  · rename_i h1
    exact absurd h (by simpa using h1)
  · rename_i h1
    obtain ⟨a1, a2, a3, a4, _⟩ := knotE_zero (by simpa using h1)
    split at h
    · cases h
    · rename_i h2
      refine ⟨⟨by show -200000 ≤ x; omega, by show x ≤ 200000; omega⟩, ⟨by show -200000 ≤ y; omega, by show y ≤ 200000; omega⟩, ?_⟩
      show s = 1 ∨ s = -1
      omega
theorem netGo_ok : ∀ (l : List Bar) (p : Option Bar), netGo p l = 0 → (∀ b ∈ l, BarOk b) ∧ l.Pairwise bltP ∧ ∀ q, p = some q → ∀ b ∈ l, bltP q b
  | [], _, _ => ⟨by simp, List.Pairwise.nil, by simp⟩
  | b :: r, p, h => by
    unfold netGo at h
    split at h
    · rename_i h1
      exact absurd h h1
    · rename_i h1
      split at h
      · cases h
      · rename_i h2
        obtain ⟨i1, i2, i3⟩ := netGo_ok r (some b) h
        have hq : ∀ q, p = some q → bltP q b := fun q hq => by
          subst hq
          simpa [bltP] using h2
        refine ⟨?_, List.Pairwise.cons (i3 b rfl) i2, fun q hp c hc => ?_⟩
        · intro c hc
          rcases List.mem_cons.1 hc with rfl | hc
          · exact barE_ok (by simpa using h1)
          · exact i1 c hc
        · rcases List.mem_cons.1 hc with rfl | hc
          · exact hq q hp
          · exact bltP_trans (hq q hp) (i3 b rfl c hc)
/-- a net without an error: each bar once, in order, within bounds -/
structure NetOk (l : List Bar) : Prop where
  len : l.length ≤ 4096
  ok : ∀ b ∈ l, BarOk b
  sorted : l.Pairwise bltP
theorem NetOk.nodup {l : List Bar} (h : NetOk l) : l.Nodup := h.sorted.imp fun hab e => by subst e; exact bltP_irrefl _ hab
theorem netE_ok {l : List Bar} (h : netE l = 0) : NetOk l := by
  unfold netE at h
  split at h
  · cases h
  · rename_i h1
    obtain ⟨i1, i2, _⟩ := netGo_ok l none h
    exact ⟨by omega, i1, i2⟩
theorem wout_unk (l a : List Bar) : decide (0 < (wout l a).length) = unk l a := by
  unfold wout unk
  rw [Bool.eq_iff_iff, decide_eq_true_eq, List.length_pos_iff_exists_mem, List.any_eq_true]
  constructor
  · rintro ⟨b, hb⟩
    rw [List.mem_filter] at hb
    exact ⟨b, hb.1, hb.2⟩
  · rintro ⟨b, hb1, hb2⟩
    exact ⟨b, List.mem_filter.2 ⟨hb1, hb2⟩⟩
theorem tornE_ok {N D : List Bar} (h : tornE N D = 0) : NetOk N ∧ NetOk D ∧ ∀ b ∈ D, b ∈ N := by
  unfold tornE firstI firstI firstI firstI at h
  split at h
  · rename_i h1
    split at h
    · rename_i h2
      refine ⟨netE_ok h1, netE_ok h2, fun b hb => ?_⟩
      by_cases hN : b ∈ N
      · exact hN
      · exfalso
        have : unk D N = true := List.any_eq_true.2 ⟨b, hb, by simp [hasb, hN]⟩
        simp [whenI, this] at h
    · rename_i h2; exact absurd h h2
  · rename_i h1; exact absurd h h1

theorem without_any {v u : Value} (l a : List Bar) (w : World) (h : SlB w v l) (ha : SlB w u a) (hlen : l.length ≤ 100000) : Calls Tryz.prog 97 #[v, u] w (RB w (wout l a)) := by
  go_enter Tryz.func97, Tryz.ntmps97
  go_wp2_with (first | (go_at_call 143; refine (member_any a _ ha).mono ?_; rintro e w1 ⟨g, rfl, hg, hm, hb1⟩; have hl1 := h.st0 hb1) |
    (go_at_call 99; refine (kept_without (.pointer (some ⟨w1.heap.size, 0, none⟩)) (fun b => !hasb a b) l _ (hl1.alloc _) hlen (fun W b hb => without1_any w1.heap.size g a b.1 b.2.1 b.2.2 W ((Blk.new _ _ _).below hb) ((hm.below (bl_alloc bl_refl _)).below hb))).mono ?_; rintro e w2 ⟨v2, rfl, hown2, hb2⟩))
  go_ret
  exact ⟨_, rfl, Own.base_mono hown2 (by simp; have := hb1.size; omega), by (repeat (first | exact bl_refl | assumption | (apply bl_then; assumption) | refine bl_alloc ?_ _ | refine bl_drew ?_ | refine bl_drewN ?_ _))⟩
theorem nnet_sl {v : Value} (l : List Bar) (w : World) (h : SlB w v l) : Calls Tryz.prog 107 #[v] w (RV w (.int .i64 (netE l))) := by
  obtain ⟨A, c, rfl, hlc, hcm, h⟩ := h
  exact nnet_any l A c w (Nat.le_trans hlc hcm) h
theorem mtorn_any {v u : Value} (N D : List Bar) (w : World) (hN : SlB w v N) (hD : SlB w u D) : Calls Tryz.prog 57 #[.agg #[v, u]] w (RV w (.int .i64 (tornE N D))) := by
  have hB := Blk.new w 32 #[v, u]
  have hN0 := hN.alloc (.cells #[v, u] 32)
  have hD0 := hD.alloc (.cells #[v, u] 32)
  have HT : Hid (tornE N D = if firstI [netE N, netE D] = 0 then whenI (unk D N) 10 else firstI [netE N, netE D]) := by
    unfold Hid tornE firstI firstI firstI firstI
    by_cases h1 : netE N = 0 <;> by_cases h2 : netE D = 0 <;> simp [h1, h2]
    exact fun h => h.symm
  have hlen : firstI [netE N, netE D] = 0 → D.length ≤ 100000 := fun h => by
    unfold firstI firstI firstI at h
    split at h
    · split at h
      · rename_i h2; have := (netE_ok h2).len; omega
      · rename_i h2; exact absurd h h2
    · rename_i h1; exact absurd h h1
  go_enter Tryz.func57, Tryz.ntmps57
  go_wp2
  refine wp_region_ords [0, 1, 3, 4] [(2, false)] [5, 6, 7, 8] (by kernel_rfl) (by kernel_rfl) (fun d _ _ _ _ h => by cases d <;> exact h) ?_
  simp only [List.map_cons, List.map_nil, List.getD_cons_zero, List.getD_cons_succ]
  repeat (go_big_quiet_step (fail))
  refine wpQuiet_nil ?_
  refine wpMid_run rfl (fun K hK => ?_)
  go_simp
  refine (nnet_sl N _ hN0.drew).mono ?_
  rintro e w1 ⟨rfl, hb1⟩
  refine hK _ _ (by (repeat (first | exact bl_refl | assumption | (apply bl_then; assumption) | refine bl_alloc ?_ _ | refine bl_drew ?_ | refine bl_drewN ?_ _))) ?_
  clear hK K
  (first | replace hB := hB.st0 hb1 | replace hB := hB.st1 hb1 | replace hB := hB.std hb1 | replace hB := hB.std1 hb1 | replace hB := hB.st2 hb1 | replace hB := hB.std2 hb1 | replace hB := hB.st3 hb1)
  have kB := hB.facts
  (first | replace hN0 := hN0.st0 hb1 | replace hN0 := hN0.st1 hb1 | replace hN0 := hN0.std hb1 | replace hN0 := hN0.std1 hb1 | replace hN0 := hN0.st2 hb1 | replace hN0 := hN0.std2 hb1 | replace hN0 := hN0.st3 hb1)
  (first | replace hD0 := hD0.st0 hb1 | replace hD0 := hD0.st1 hb1 | replace hD0 := hD0.std hb1 | replace hD0 := hD0.std1 hb1 | replace hD0 := hD0.st2 hb1 | replace hD0 := hD0.std2 hb1 | replace hD0 := hD0.st3 hb1)
  refine wpMid_nil ?_
  go_wp2_with (first | (go_at_call 107; refine (nnet_sl D _ hD0).mono ?_; rintro e w2 ⟨rfl, hb2⟩; (first | replace hB := hB.st0 hb2 | replace hB := hB.st1 hb2 | replace hB := hB.std hb2 | replace hB := hB.std1 hb2 | replace hB := hB.st2 hb2 | replace hB := hB.std2 hb2 | replace hB := hB.st3 hb2); have kB := hB.facts; (first | replace hN0 := hN0.st0 hb2 | replace hN0 := hN0.st1 hb2 | replace hN0 := hN0.std hb2 | replace hN0 := hN0.std1 hb2 | replace hN0 := hN0.st2 hb2 | replace hN0 := hN0.std2 hb2 | replace hN0 := hN0.st3 hb2); (first | replace hD0 := hD0.st0 hb2 | replace hD0 := hD0.st1 hb2 | replace hD0 := hD0.std hb2 | replace hD0 := hD0.std1 hb2 | replace hD0 := hD0.st2 hb2 | replace hD0 := hD0.std2 hb2 | replace hD0 := hD0.st3 hb2)) | (go_at_call 79; refine (mfirst_any [netE N, netE D] _ _ _ (by simp [maxLen]) (Rd.ints2 (by simp) (by go_simp) (by go_simp))).mono ?_; rintro e w3 ⟨rfl, hb3⟩; (first | replace hB := hB.st0 hb3 | replace hB := hB.st1 hb3 | replace hB := hB.std hb3 | replace hB := hB.std1 hb3 | replace hB := hB.st2 hb3 | replace hB := hB.std2 hb3 | replace hB := hB.st3 hb3); have kB := hB.facts; (first | replace hN0 := hN0.st0 hb3 | replace hN0 := hN0.st1 hb3 | replace hN0 := hN0.std hb3 | replace hN0 := hN0.std1 hb3 | replace hN0 := hN0.st2 hb3 | replace hN0 := hN0.std2 hb3 | replace hN0 := hN0.st3 hb3); (first | replace hD0 := hD0.st0 hb3 | replace hD0 := hD0.st1 hb3 | replace hD0 := hD0.std hb3 | replace hD0 := hD0.std1 hb3 | replace hD0 := hD0.st2 hb3 | replace hD0 := hD0.std2 hb3 | replace hD0 := hD0.st3 hb3)) | (go_at_call 97; refine (without_any D N _ hD0 hN0 (hlen (by simpa using (by assumption : (firstI [netE N, netE D] != 0) = false)))).mono ?_; rintro e w4 ⟨v4, rfl, hown4, hb4⟩; obtain ⟨A4, c4, rfl⟩ := hown4.shape) | (go_at_call 83; refine (mwhen_any _ _ _).mono ?_; rintro e w5 ⟨rfl, hb5⟩))
  · have hne : (firstI [netE N, netE D] != 0) = true := by assumption
    go_ret
    exact ⟨ret_int (by rw [HT.out, if_neg (by simpa using hne)]), by (repeat (first | exact bl_refl | assumption | (apply bl_then; assumption) | refine bl_alloc ?_ _ | refine bl_drew ?_ | refine bl_drewN ?_ _))⟩
  · have hne : (firstI [netE N, netE D] != 0) = false := by assumption
    go_ret
    refine ⟨ret_int ?_, by (repeat (first | exact bl_refl | assumption | (apply bl_then; assumption) | refine bl_alloc ?_ _ | refine bl_drew ?_ | refine bl_drewN ?_ _))⟩
    rw [HT.out, if_pos (by simpa using hne), ← wout_unk]
end Go.Proofs.YthcnngoaijgnoaaGreat

/- What the sorts' comparing functions leave of the world: draws and new blocks. Conditions: none. -/
namespace Go.Proofs.YthcnngoaijgnoaaGreat
open Go.RowKit Go.Sort
set_option maxHeartbeats 2000000
set_option maxRecDepth 100000

def RE (w : World) (v : Value) (e : Ending) (w' : World) : Prop := e = .returned v ∧ w' = w
def Grw (w w' : World) : Prop := ∃ q os, w' = grow (w.drewN q) os
def GV (w : World) (v : Value) (e : Ending) (w' : World) : Prop := e = .returned v ∧ Grw w w'
theorem Grw.refl (w : World) : Grw w w := ⟨0, #[], by simp [grow, World.drewN]⟩
theorem Grw.alloc {w W : World} (h : Grw w W) (o : Obj) : Grw w (W.alloc o) := by
  obtain ⟨q, os, rfl⟩ := h
  exact ⟨q, os.push o, by simp [grow, World.drewN, World.alloc]⟩
theorem Grw.drew {w W : World} (h : Grw w W) : Grw w W.drew := by
  obtain ⟨q, os, rfl⟩ := h
  exact ⟨q + 1, os, by simp [grow, World.drewN, World.drew, Nat.add_assoc]⟩

theorem isNaN_ex (n : Int) (w : World) : Calls Tryz.prog 182 #[.int .i64 n] w (RE w (.bool false)) := by
  have h : (n != n) = false := by simp
  go_enter Tryz.func182, Tryz.ntmps182
  go_wp2
  go_ret
  exact ⟨ret_bool (by simp), rfl⟩
theorem cmp_ex (a b : Int) (w : World) : Calls Tryz.prog 168 #[.int .i64 a, .int .i64 b] w (RE w (.int .i64 (cmpI a b))) := by
  go_enter Tryz.func168, Tryz.ntmps168
  go_wp2_with (go_at_call 182; refine (isNaN_ex _ _).mono ?_; rintro e w1 ⟨rfl, rfl⟩)
  all_goals go_ret
  all_goals refine ⟨ret_int ?_, rfl⟩
  · have h : a < b := by assumption
    simp [cmpI, h]
  · have h : b < a := by assumption
    have h' : ¬ a < b := by omega
    simp [cmpI, h, h']
  · have h : b ≤ a := by assumption
    have h'' : a ≤ b := by assumption
    have h1 : ¬ a < b := by omega
    have h2 : ¬ b < a := by omega
    simp [cmpI, h1, h2]
theorem or_ex (l : List Int) (A : Option Addr) (c : Nat) (w : World) (hl : l.length ≤ maxLen) (h : Rd ic 1 w A l) :
    Calls Tryz.prog 167 #[.slice A l.length c] w (RE w (.int .i64 (firstI l))) := by
  unfold maxLen at hl
  go_enter Tryz.func167, Tryz.ntmps167
  go_wp2
  go_loop [8] (fun i => ∃ k : Nat, k ≤ l.length ∧ i = .int .i64 k ∧ Hid (firstI l = firstI (l.drop k))) (fun i => l.length - (intOf i).toNat)
  case atStart => exact ⟨0, Nat.zero_le _, rfl, rfl⟩
  case round =>
    obtain ⟨k, hk, rfl, H⟩ := hrel
    by_cases hlt : k < l.length
    · obtain ⟨b, off, rfl, hb, hc⟩ := h.int hlt
      have hd := Lib.hid (firstI_drop hlt)
      go_wp2
      · have hne : (l[k] != 0) = true := by assumption
        go_ret
        refine ⟨ret_int ?_, rfl⟩
        rw [H.out, hd.out, if_neg (by simpa using hne)]
      · have hne : (l[k] != 0) = false := by assumption
        go_round
        case rel => exact ⟨k + 1, by omega, by go_num, by rw [H.out, hd.out, if_pos (by simpa using hne)]; rfl⟩
        case measure => simp [intOf]; omega
    · have hkl : k = l.length := by omega
      go_wp2
      go_ret
      refine ⟨ret_int ?_, rfl⟩
      rw [H.out, hkl, List.drop_length]; rfl

def knotCmp (x y x' y' : Int) : Int := firstI [cmpI y y', cmpI x x']
theorem kcmp_ex (x y x' y' : Int) (w : World) : Calls Tryz.prog 141 #[.agg #[.int .i64 x, .int .i64 y], .agg #[.int .i64 x', .int .i64 y']] w (GV w (.int .i64 (knotCmp x y x' y'))) := by
  go_enter Tryz.func141, Tryz.ntmps141
  go_wp2
  refine wp_region_ords [0, 1, 2, 3, 5, 6, 7, 8] [(4, false)] [9, 10, 11, 12] (by kernel_rfl) (by kernel_rfl) (fun d _ _ _ _ h => by cases d <;> exact h) ?_
  simp only [List.map_cons, List.map_nil, List.getD_cons_zero, List.getD_cons_succ]
  repeat (go_big_quiet_step (fail))
  refine wpQuiet_nil ?_
  refine wpMid_run rfl (fun K hK => ?_)
  go_simp
  refine (cmp_ex _ _ _).mono ?_
  rintro e w1 ⟨rfl, rfl⟩
  refine hK _ _ (by (repeat (first | exact bl_refl | assumption | (apply bl_then; assumption) | refine bl_alloc ?_ _ | refine bl_drew ?_ | refine bl_drewN ?_ _))) ?_
  clear hK K
  refine wpMid_nil ?_
  go_wp2_with (first | (go_at_call 168; refine (cmp_ex _ _ _).mono ?_; rintro e w1 ⟨rfl, rfl⟩) | (go_at_call 167; go_must (refine (or_ex [cmpI y y', cmpI x x'] _ _ _ (by simp [maxLen]) (Rd.ints2 (by simp) (by go_simp) (by go_simp))).mono ?_); rintro e w1 ⟨rfl, rfl⟩))
  go_ret
  exact ⟨rfl, ((((Grw.refl w).alloc _).alloc _).drew).alloc _⟩
def barCmpM (x y s x' y' s' : Int) : Int := firstI [cmpI y y', cmpI x x', cmpI s s']
theorem bcmp_ex (x y s x' y' s' : Int) (w : World) : Calls Tryz.prog 152 #[.agg #[.int .i64 x, .int .i64 y, .int .i64 s], .agg #[.int .i64 x', .int .i64 y', .int .i64 s']] w (GV w (.int .i64 (barCmpM x y s x' y' s'))) := by
  go_enter Tryz.func152, Tryz.ntmps152
  go_wp2
  refine wp_region_ords [0, 1, 2, 3, 5, 6, 7, 8, 10, 11, 12, 13] [(4, false), (9, false)] [14, 15, 16, 17] (by kernel_rfl) (by kernel_rfl) (fun d _ _ _ _ h => by cases d <;> exact h) ?_
  simp only [List.map_cons, List.map_nil, List.getD_cons_zero, List.getD_cons_succ]
  repeat (go_big_quiet_step (fail))
  refine wpQuiet_nil ?_
  refine wpMid_run rfl (fun K hK => ?_)
  go_simp
  refine (cmp_ex _ _ _).mono ?_
  rintro e w1 ⟨rfl, rfl⟩
  refine hK _ _ (by (repeat (first | exact bl_refl | assumption | (apply bl_then; assumption) | refine bl_alloc ?_ _ | refine bl_drew ?_ | refine bl_drewN ?_ _))) ?_
  clear hK K
  refine wpMid_run rfl (fun K hK => ?_)
  go_simp
  refine (cmp_ex _ _ _).mono ?_
  rintro e w1 ⟨rfl, rfl⟩
  refine hK _ _ (by (repeat (first | exact bl_refl | assumption | (apply bl_then; assumption) | refine bl_alloc ?_ _ | refine bl_drew ?_ | refine bl_drewN ?_ _))) ?_
  clear hK K
  refine wpMid_nil ?_
  go_wp2_with (first | (go_at_call 168; refine (cmp_ex _ _ _).mono ?_; rintro e w1 ⟨rfl, rfl⟩) | (go_at_call 167; go_must (refine (or_ex [cmpI y y', cmpI x x', cmpI s s'] _ _ _ (by simp [maxLen]) (Rd.ints3 (by simp) (by go_simp) (by go_simp) (by go_simp))).mono ?_); rintro e w1 ⟨rfl, rfl⟩))
  go_ret
  exact ⟨rfl, ((((Grw.refl w).alloc _).alloc _).drew).alloc _⟩
end Go.Proofs.YthcnngoaijgnoaaGreat

/- Appends to a row of the call's own, of what another slice reads as. Conditions: the length within bounds. -/
import Derived.Test.YtkkefahobjlagaaGreatDoorQ04
import Derived.Laws.OwnMore
import Derived.Laws.AppendOwnNone
import Derived.OwnWalk
import Derived.Test.YtkkefahobjlagaaGreatDoorQ02
import Derived.Deep.MidRow
namespace Go.Proofs.YtkkefahobjlagaaGreatDoor
open Go.RowKit
set_option maxHeartbeats 1000000
set_option maxRecDepth 100000
structure Elem (P : Program) (t e : TypeId) (sz bytes : Nat) : Prop where
 und : P.underlying t = some (.slice e)
 row : (P.info? e).map (fun i => (i.zero.map (fun z => z.cells.size), i.size, i.bytes)) = some (some sz, sz, bytes)
 pos : 0 < sz
theorem bar_elem : Elem Tryz.prog 36 77 3 24 := ⟨by kernel_rfl, by kernel_rfl, by decide⟩
theorem knot_elem : Elem Tryz.prog 93 40 2 16 := ⟨by kernel_rfl, by kernel_rfl, by decide⟩
section
variable {α : Type} {enc : α → List Value} {sz bytes : Nat} {P : Program} {t e : TypeId} {w : World}
theorem run_app (E : Elem P t e sz bytes) (henc : ∀ x, (enc x).length = sz) (hone : ∀ x, ∀ u ∈ enc x, u.oneCell' = true) (base : Nat) (ty : TypeId) (v u : Value) (l r : List α) (hown : Own enc sz base e w v l) (hu : Sl enc sz w u r)
  (h63 : l.length + r.length ≤ maxLen) (hb : (l.length + r.length) * bytes ≤ 140737488355328) (hbase : base ≤ w.heap.size) :
  ∃ v' w', (Builtin.append_ #[t, t] ty #[v, u]).run P w = .ok v' w' ∧ Own enc sz base e w' v' (l ++ r) ∧ w.grownBy w' v.ownBlock := by
 obtain ⟨hund, hrow, hpos⟩ := E
 obtain ⟨i, hi, hrow⟩ : ∃ i, P.info? e = some i ∧ (i.zero.map (fun z => z.cells.size), i.size, i.bytes) = (some sz, sz, bytes) := by
  cases h : P.info? e with
  | none => rw [h] at hrow; cases hrow
  | some i => rw [h] at hrow; exact ⟨i, rfl, Option.some.inj hrow⟩
 have h1 := congrArg Prod.fst hrow
 have h2 := congrArg (fun x => x.2.1) hrow
 have h3 := congrArg (fun x => x.2.2) hrow
 obtain ⟨z, hz, hzs⟩ : ∃ z, i.zero = some z ∧ z.cells.size = sz := by
  cases h : i.zero with
  | none => rw [h] at h1; cases h1
  | some z => rw [h] at h1; exact ⟨z, rfl, Option.some.inj h1⟩
 obtain ⟨A, c, rfl, hlc, hcm, hr⟩ := hu
 cases A with
 | some ad =>
  have hl : (r.flatMap enc).length = r.length * sz := by
   clear hr hlc hb h63
   induction r with
   | nil => simp
   | cons x r ih => simp [henc, ih, Nat.succ_mul]; omega
  obtain ⟨v', w', q1, q2, q3, _⟩ := run_append_own (P := P) w base t ty e i z sz bytes hund hi hz h2 h3 hzs hpos v l.length (l.flatMap enc) hown ad r.length c (r.flatMap enc) hl (by
   intro j u hj
   have hjl : j < r.length * sz := by rw [← hl]; exact (List.getElem?_eq_some_iff.1 hj).1
   have hk : j / sz < r.length := Nat.div_lt_of_lt_mul (by rw [Nat.mul_comm]; exact hjl)
   obtain ⟨b, off, he, hbl, hc⟩ := hr (j / sz) r[j / sz] (List.getElem?_eq_getElem hk)
   have hm : j % sz < (enc r[j / sz]).length := by rw [henc]; exact Nat.mod_lt _ hpos
   have hj' := flat_get henc r (j / sz) r[j / sz] (j % sz) _ (List.getElem?_eq_getElem hk) (List.getElem?_eq_getElem hm)
   have hdm : j / sz * sz + j % sz = j := by rw [Nat.mul_comm]; exact Nat.div_add_mod j sz
   rw [hdm, hj] at hj'
   have hcj := hc (j % sz) u (by rw [List.getElem?_eq_getElem hm]; exact hj'.symm)
   obtain rfl : ad = ⟨b, off, none⟩ := Option.some.inj he
   rw [Nat.add_assoc, hdm] at hcj
   unfold Addr.add
   split
   ·rename_i h0
    subst h0
    exact hcj
   ·exact hcj) (by
   intro u hu
   obtain ⟨x, hx, hux⟩ := List.mem_flatMap.1 hu
   exact hone x u hux) h63 hb hbase
  refine ⟨v', w', q1, ?_, q3⟩
  unfold Own
  simpa using q2
 | none =>
  have hr0 : r = [] := by
   cases r with
   | nil => rfl
   | cons x r =>
    obtain ⟨b, off, he, _⟩ := hr 0 x rfl
    cases he
  subst hr0
  refine ⟨v, w, ?_, by simpa using hown, World.grownBy.refl _ _⟩
  rcases hown.2 with ⟨rfl, hn⟩ | ⟨g, cap, cur, rfl, _, _, hnc, _⟩
  ·simp [Builtin.append_, run_underlying hund, sizeOf, typeInfo, hi, Builtin.lenOf, Builtin.firstCells]
  ·simp [Builtin.append_, run_underlying hund, sizeOf, typeInfo, hi, Builtin.lenOf, Builtin.firstCells, hnc, storeCells]
theorem wpList_app {ops : Array Oper} {rest : List Oper} {o : Oper} {a : Act} {Q : Exit → Act → World → Prop} (hgd : o.guard = none) (E : Elem P t e sz bytes) (henc : ∀ x, (enc x).length = sz) (hone : ∀ x, ∀ u ∈ enc x, u.oneCell' = true) (s x : Operand)
  (ho : o.op = .call { callee := .builtin .append, args := #[s, x], argTypes := #[t, t] }) (base : Nat) (v u : Value) (l r : List α) (hs : a.eval s = v) (hx : a.eval x = u) (hown : Own enc sz base e w v l) (hu : Sl enc sz w u r)
  (h63 : l.length + r.length ≤ maxLen) (hb : (l.length + r.length) * bytes ≤ 140737488355328) (hbase : base ≤ w.heap.size)
  (h : ∀ v' w', Own enc sz base e w' v' (l ++ r) → w.grownBy w' v.ownBlock → wpList P ops Q rest (a.put o.dst v') w') : wpList P ops Q (o :: rest) a w := by
 refine wpList_plain hgd fun K hK' => ?_
 obtain ⟨v', w', hr, h2, h3⟩ := run_app E henc hone base o.type v u l r hown hu h63 hb hbase
 unfold Oper.wp
 simp [execOp, ho, resolve, invoke, builtin, hs, hx, hr, Result.andThen]
 exact hK' _ _ (h v' w' h2 h3)
end
theorem bc_one (b : Bar) : ∀ u ∈ bc b, u.oneCell' = true := by intro u hu; simp [bc] at hu; rcases hu with rfl | rfl | rfl <;> rfl
theorem kc_one (k : Knot) : ∀ u ∈ kc k, u.oneCell' = true := by intro u hu; simp [kc] at hu; rcases hu with rfl | rfl <;> rfl
theorem own_step {α : Type} {enc : α → List Value} {sz : Nat} {e : TypeId} {w W W' w2 : World} {v : Value} {l : List α} (hown : Own enc sz w.heap.size e W v l) (hgr : W'.grownBy w2 v.ownBlock) (hb : Below w.heap.size w W') : Below w.heap.size w w2 :=
 bl_grown hgr hb fun k hk => (hown.lt k hk).1
abbrev SlB := Sl bc 3
abbrev SlK := Sl kc 2
abbrev OwB (base : Nat) := Own bc 3 base 77
abbrev OwK (base : Nat) := Own kc 2 base 40
theorem Sl.one_bar (w : World) (x y s : Int) : SlB (w.alloc (.cells #[.int .i64 x, .int .i64 y, .int .i64 s] 77)) (.slice (some ⟨w.heap.size, 0, none⟩) 1 1) [(x, y, s)] := by
 have hB := Blk.new w 77 #[.int .i64 x, .int .i64 y, .int .i64 s]
 refine ⟨_, 1, rfl, by simp, by simp [maxLen], fun i b hb => ?_⟩
 match i, hb with
 | 0, hb =>
  obtain rfl : (x, y, s) = b := by simpa using hb
  refine ⟨_, 0, rfl, hB.lt, fun j u hj => ?_⟩
  rw [hB.cell]
  simpa [bc] using hj
theorem Sl.one_knot (w : World) (x y : Int) : SlK (w.alloc (.cells #[.int .i64 x, .int .i64 y] 40)) (.slice (some ⟨w.heap.size, 0, none⟩) 1 1) [(x, y)] := by
 have hB := Blk.new w 40 #[.int .i64 x, .int .i64 y]
 refine ⟨_, 1, rfl, by simp, by simp [maxLen], fun i b hb => ?_⟩
 match i, hb with
 | 0, hb =>
  obtain rfl : (x, y) = b := by simpa using hb
  refine ⟨_, 0, rfl, hB.lt, fun j u hj => ?_⟩
  rw [hB.cell]
  simpa [kc] using hj
section
variable {ops : Array Oper} {rest : List Oper} {o : Oper} {a : Act} {Q : Exit → Act → World → Prop} {base : Nat} {W : World} {v : Value} {X Y S : Int}
theorem wpList_appB {l : List Bar} (hown : OwB base W v l) (hgd : o.guard = none) (s x : Operand) (ho : o.op = .call { callee := .builtin .append, args := #[s, x], argTypes := #[36, 36] })
    (hs : a.eval s = v) (hx : a.eval x = .slice (some ⟨W.heap.size, 0, none⟩) 1 1) (hlen : l.length ≤ 1000000) (hbase : base ≤ W.heap.size)
    (h : ∀ v' w', OwB base w' v' (l ++ [(X, Y, S)]) → (W.alloc (.cells #[.int .i64 X, .int .i64 Y, .int .i64 S] 77)).grownBy w' v.ownBlock → wpList Tryz.prog ops Q rest (a.put o.dst v') w') :
    wpList Tryz.prog ops Q (o :: rest) a (W.alloc (.cells #[.int .i64 X, .int .i64 Y, .int .i64 S] 77)) :=
  wpList_app hgd bar_elem bc_len bc_one s x ho base v _ l [(X, Y, S)] hs hx (hown.alloc _) (Sl.one_bar W X Y S) (by simp [maxLen]; omega) (by simp; omega) (by simp; omega) h
theorem wpList_appKS {w : World} {u : Value} {l r : List Knot} (hown : OwK base w v l) (hu : SlK w u r) (hgd : o.guard = none) (s x : Operand) (ho : o.op = .call { callee := .builtin .append, args := #[s, x], argTypes := #[93, 93] })
    (hs : a.eval s = v) (hx : a.eval x = u) (hlen : l.length + r.length ≤ 1000000) (hbase : base ≤ w.heap.size)
    (h : ∀ v' w', OwK base w' v' (l ++ r) → w.grownBy w' v.ownBlock → wpList Tryz.prog ops Q rest (a.put o.dst v') w') : wpList Tryz.prog ops Q (o :: rest) a w :=
  wpList_app hgd knot_elem kc_len kc_one s x ho base v u l r hs hx hown hu (by simp [maxLen]; omega) (by omega) hbase h
end
theorem Own.empty {α : Type} (enc : α → List Value) (sz : Nat) (w : World) (e : TypeId) : Own enc sz w.heap.size e (w.alloc (.cells #[] e)) (.slice (some ⟨w.heap.size, 0, none⟩) 0 0) ([] : List α) :=
 ⟨by simp, .inr ⟨w.heap.size, 0, #[], rfl, Nat.le_refl _, heap_alloc_new w _, Nat.le_refl _, by simp [maxLen], by simp, by simp⟩⟩
def RB (w : World) (l : List Bar) (e : Ending) (w' : World) : Prop := ∃ v, e = .returned v ∧ OwB w.heap.size w' v l ∧ Below w.heap.size w w'
def RK (w : World) (l : List Knot) (e : Ending) (w' : World) : Prop := ∃ v, e = .returned v ∧ OwK w.heap.size w' v l ∧ Below w.heap.size w w'
end Go.Proofs.YtkkefahobjlagaaGreatDoor
namespace Go.Proofs.YtkkefahobjlagaaGreatDoor
open Go.RowKit
section
variable {P : Program} {ops : Array Oper} {Q : Exit → Act → World → Prop} {md : Region.Mode} {B : Nat} {w0 : World} {a0 : Act} {F : Nat → Value → World → Prop}
def upd (vals : Nat → Value) (i : Nat) (u : Value) : Nat → Value := fun j => if j = i then u else vals j
def New (D : List Nat) (i : Nat) (u : Value) (W W' : World) : Prop := i ∈ D → ∃ g, u = .pointer (some ⟨g, 0, none⟩) ∧ W.heap.size ≤ g ∧ g < W'.heap.size
def Apart (D : List Nat) (vals : Nat → Value) (w0 W : World) : Prop := (∀ j ∈ D, ∃ g, vals j = .pointer (some ⟨g, 0, none⟩) ∧ w0.heap.size ≤ g ∧ g < W.heap.size) ∧ ∀ i ∈ D, ∀ j ∈ D, i ≠ j → vals i ≠ vals j
theorem Apart.step {D : List Nat} {vals : Nat → Value} {w0 W W' : World} {listed : Array Bool} {i : Nat} {u : Value} (hs : w0.heap.size ≤ W.heap.size) (hs' : W.heap.size ≤ W'.heap.size) (h : Apart (D.filter fun j => listed.getD j false) vals w0 W) (hn : New D i u W W') :
    Apart (D.filter fun j => (listed.setIfInBounds i true).getD j false) (upd vals i u) w0 W' := by
  obtain ⟨h1, h2⟩ := h
  have old : ∀ j, j ∈ D.filter (fun j => (listed.setIfInBounds i true).getD j false) → j ≠ i → j ∈ D.filter fun j => listed.getD j false := fun j hj hji => by
    simp only [List.mem_filter] at hj ⊢
    rw [getD_set_ne false (Ne.symm hji)] at hj
    exact hj
  have mem : ∀ j, j ∈ D.filter (fun j => (listed.setIfInBounds i true).getD j false) → j ∈ D := fun j hj => (List.mem_filter.1 hj).1
  have far : ∀ j, j ∈ D.filter (fun j => (listed.setIfInBounds i true).getD j false) → j ≠ i → i ∈ D → vals j ≠ u := fun j hj hji hi e => by
    obtain ⟨g, hg, _, hlt⟩ := h1 j (old j hj hji)
    obtain ⟨g', hg', hge, _⟩ := hn hi
    rw [hg, hg'] at e
    simp at e
  refine ⟨fun j hj => ?_, fun k hk j hj hkj => ?_⟩
  · by_cases hji : j = i
    · subst hji
      obtain ⟨g, hg, hge, hlt⟩ := hn (mem _ hj)
      exact ⟨g, by simp [upd, hg], by omega, hlt⟩
    · obtain ⟨g, hg, hge, hlt⟩ := h1 j (old j hj hji)
      exact ⟨g, by simp [upd, hji, hg], hge, by omega⟩
  · by_cases hji : j = i
    · have hki : k ≠ i := fun e => hkj (e.trans hji.symm)
      have := far k hk hki (hji ▸ mem _ hj)
      simpa [upd, hji, hki] using this
    · by_cases hki : k = i
      · have := far j hj hji (hki ▸ mem _ hk)
        simpa [upd, hji, hki] using this.symm
      · simpa [upd, hji, hki] using h2 k (old k hk hki) j (old j hj hji) hkj
end
section
variable {P : Program} {w : World} {g : Nat} {t : TypeId} {cs cells : Array Value}
theorem setCells_blk : ∀ (vs : List Value) (o : Nat) (w : World) (cs : Array Value), Blk w g t cs → (∃ C, Blk (w.setCells g o vs) g t C ∧ C.size = cs.size) ∧ Chg [g] w (w.setCells g o vs)
 | [], _, w, cs, h => ⟨⟨cs, h, rfl⟩, Chg.refl⟩
 | v :: r, o, w, cs, h => by
  simp only [World.setCells]
  obtain ⟨⟨C, h1, h2⟩, h3⟩ := setCells_blk r (o + 1) (w.setCell ⟨g, o, none⟩ v) _ (h.set_ o v)
  refine ⟨⟨C, h1, by simpa using h2⟩, Chg.trans (W := w.setCell ⟨g, o, none⟩ v) ⟨rfl, rfl, rfl, by simp, fun k _ hn => Below.heap_setCell w ⟨g, o, none⟩ v k (by simpa using hn)⟩ h3⟩
theorem Blk.store_ (h : Blk w g t cs) (ty : TypeId) (hsz : cells.size = cs.size) (hi : (P.info? ty).map (·.size) = some cells.size) (h1 : cells.all (·.oneCell') = true) :
  ∃ W', (storeVar ty ⟨g, 0, none⟩ (.agg cells)).run P w = .ok () W' ∧ Blk W' g t cells ∧ Chg [g] w W' := by
 have ht : w.there g 0 cells.size := fun j hj => by
  rw [Nat.zero_add, h.cell, h.frozen]
  simp [hsz ▸ hj]
 refine ⟨_, run_storeVar_mid w g 0 ty cells ht hi h1, ?_, (setCells_blk _ _ _ _ h).2⟩
 obtain ⟨C, hC, hCs⟩ := (setCells_blk (g := g) (t := t) cells.toList 0 w cs h).1
 have hr := World.rangeAt_setCells_same w g 0 cells.toList (by simpa using ht)
 have : C = cells := by
  apply Array.ext
  ·omega
  ·intro i h1 h2
   have := hr i cells[i] (by simp [h2])
   rw [Nat.zero_add, hC.cell] at this
   simpa [h1] using this
 unfold Blk at hC ⊢
 rw [hC, this]
theorem Own.chg {α : Type} {enc : α → List Value} {sz base : Nat} {e : TypeId} {w w' : World} {v : Value} {l : List α} {S : List Nat} (h : Own enc sz base e w v l) (hc : Chg S w w') (hS : ∀ k ∈ S, k < base) : Own enc sz base e w' v l := by
 obtain ⟨h1, h2⟩ := h
 refine ⟨h1, ?_⟩
 rcases h2 with h2 | ⟨g, cap, cur, hv, hg, hh, r⟩
 ·exact .inl h2
 ·exact .inr ⟨g, cap, cur, hv, hg, (hc.block g (Array.getElem?_eq_some_iff.1 hh).1 (fun hm => by have := hS g hm; omega)).trans hh, r⟩
theorem Own.shape {α : Type} {enc : α → List Value} {sz base : Nat} {e : TypeId} {w : World} {v : Value} {l : List α} (h : Own enc sz base e w v l) : ∃ A c, v = .slice A l.length c := by
 rcases h.2 with ⟨rfl, hn⟩ | ⟨g, cap, cur, rfl, _⟩
 ·exact ⟨none, 0, by rw [hn]⟩
 ·exact ⟨_, _, rfl⟩
theorem Blk.new1 (w : World) (o : Obj) (t : TypeId) (cs : Array Value) : Blk ((w.alloc o).alloc (.cells cs t)) (w.heap.size + 1) t cs := by
 have := Blk.new (w.alloc o) t cs
 simpa using this
theorem Blk.new2 (w : World) (o o' : Obj) (t : TypeId) (cs : Array Value) : Blk (((w.alloc o).alloc o').alloc (.cells cs t)) (w.heap.size + 1 + 1) t cs := by
 have := Blk.new ((w.alloc o).alloc o') t cs
 simpa using this
theorem wpList_store_blk {ops : Array Oper} {rest : List Oper} {op : Oper} {a : Act} {Q : Exit → Act → World → Prop} (h : Blk w g t cs) (hgd : op.guard = none) (ty : TypeId) (x y : Operand) (ho : op.op = .store ty x y)
  (hx : a.eval x = .pointer (some ⟨g, 0, none⟩)) (hy : a.eval y = .agg cells) (hsz : cells.size = cs.size) (hi : (P.info? ty).map (·.size) = some cells.size) (h1 : cells.all (·.oneCell') = true)
  (hK : ∀ W', Blk W' g t cells → Chg [g] w W' → wpList P ops Q rest (a.put op.dst undef) W') : wpList P ops Q (op :: rest) a w := by
 refine wpList_plain hgd fun K hK' => ?_
 obtain ⟨W', hr, h2, h3⟩ := h.store_ (P := P) ty hsz hi h1
 unfold Oper.wp execOp
 simp only [ho, hx, hy, Instr.storeAt, Instr.sureAddr, Sem.run_bind, Sem.run_pure, Result.andThen_ok, hr]
 exact hK' _ _ (hK W' h2 h3)
end
end Go.Proofs.YtkkefahobjlagaaGreatDoor

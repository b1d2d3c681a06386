/- What a change of some blocks leaves as it was; map operations with the world behind them under a name. Conditions: none. -/
import Derived.Test.YtpoaomdpcoaolaaC02
import Derived.Test.YtpoaomdpcoaolaaC03
import Derived.Laws.OwnMore
import Derived.Laws.AppendOwnNone
import Derived.OwnWalk
import Derived.Deep.MidRow
import Derived.Shelf.SlSortCmp.NoneTotal
import Derived.Shelf.SlGeneric
import Derived.Shelf.SlLaysF0
import Derived.Shelf.SlLaysH0
import Derived.Shelf.SlLaysE0
import Derived.Shelf.SlLaysE
import Derived.Shelf.SlLaysQ
import Derived.Ground.SlsfProg
import Derived.Ground.SlgfProg
import Derived.Ground.SlgqProg
import Derived.Ground.SlgnProg
import Derived.Test.YtpoaomdpcoaolaaProg
namespace Go.Proofs.Ytpoaomdpcoaolaa
open Go.RowKit Go.ChangeMaps
set_option maxHeartbeats 2000000
set_option maxRecDepth 100000

def yes (b : Bool) : Value := .bool b
/-- below w's heap's size the blocks that are not in S are as they were -/
structure Chg (S : List Nat) (w w' : World) : Prop where
  os : w'.os = w.os
  tape : w'.tape = w.tape
  output : w'.output = w.output
  size : w.heap.size ≤ w'.heap.size
  block : ∀ k, k < w.heap.size → k ∉ S → w'.heap[k]? = w.heap[k]?
section
variable {S : List Nat} {w w' w1 W : World}
theorem Chg.refl : Chg S w w := ⟨rfl, rfl, rfl, Nat.le_refl _, fun _ _ _ => rfl⟩
theorem Chg.of_below (h : Below w.heap.size w w') : Chg S w w' := ⟨h.os, h.tape, h.output, h.size, fun k hk _ => h.block k hk⟩
theorem Chg.trans (h : Chg S w W) (h' : Chg S W w1) : Chg S w w1 :=
  ⟨h'.os.trans h.os, h'.tape.trans h.tape, h'.output.trans h.output, Nat.le_trans h.size h'.size, fun k hk hn => (h'.block k (Nat.lt_of_lt_of_le hk h.size) hn).trans (h.block k hk hn)⟩
theorem Chg.alloc (h : Chg S w W) (o : Obj) : Chg S w (W.alloc o) := h.trans (Chg.of_below (bl_alloc bl_refl o))
theorem Chg.drew (h : Chg S w W) : Chg S w W.drew := h.trans (Chg.of_below (bl_drew bl_refl))
theorem Chg.drewN (h : Chg S w W) (n : Nat) : Chg S w (W.drewN n) := h.trans (Chg.of_below (bl_drewN bl_refl n))
theorem Chg.then_ (hb : Below W.heap.size W w1) (h : Chg S w W) : Chg S w w1 := h.trans (Chg.of_below hb)
theorem Chg.set (h : Chg S w W) {p : Addr} (hp : w.heap.size ≤ p.block) (u : Value) : Chg S w (W.setCell p u) :=
  ⟨h.os, h.tape, h.output, Nat.le_trans h.size (by simp [World.setCell]), fun k hk hn => (Below.heap_setCell W p u k (by omega)).trans (h.block k hk hn)⟩
theorem heap_stb (W : World) {r k : Nat} (o : Obj) (h : k ≠ r) : (setBlock W r o).heap[k]? = W.heap[k]? := by
  simp [ChangeMaps.setBlock, Array.getElem?_setIfInBounds_ne (Ne.symm h)]
theorem Chg.setBlock (h : Chg S w W) {r : Nat} (hr : r ∈ S) (o : Obj) : Chg S w (setBlock W r o) :=
  ⟨h.os, h.tape, h.output, Nat.le_trans h.size (by simp [ChangeMaps.setBlock]), fun k hk hn => (heap_stb W o (fun e => hn (by rw [e]; exact hr))).trans (h.block k hk hn)⟩
theorem Chg.below {B : Nat} (h : Chg S w W) (hS : ∀ k ∈ S, B ≤ k) (hB : B ≤ w.heap.size) : Below B w W :=
  ⟨h.os, h.tape, h.output, h.size, fun k hk => h.block k (by omega) (fun hm => by have := hS k hm; omega)⟩
theorem Chg.mono {S' : List Nat} (h : Chg S w W) (hS : ∀ k ∈ S, k ∈ S') : Chg S' w W := ⟨h.os, h.tape, h.output, h.size, fun k hk hn => h.block k hk (fun hm => hn (hS k hm))⟩
theorem Blk.chg {g : Nat} {t : TypeId} {cs : Array Value} (h : Blk w g t cs) (hc : Chg S w w') (hg : g ∉ S) : Blk w' g t cs := (hc.block g h.lt hg).trans h
end

theorem blk_ne_map {κ ν : Type} {ek : κ → Value} {ev : ν → Value} {w : World} {g r : Nat} {t : TypeId} {cs : Array Value} {m : List (κ × ν × Nat)} {c : Nat} (h : Blk w g t cs) (hm : MapAt ek ev w r m c) : g ≠ r := by
  rintro rfl
  unfold MapAt at hm
  unfold Blk at h
  rw [h] at hm
  cases hm
/-! ## map operations with the world behind them under a name -/
section
variable {κ ν : Type} [DecidableEq κ] {ek : κ → Value} {ev : ν → Value} {w : World} {r : Nat} {m : List (κ × ν × Nat)} {c : Nat} {P : Program} {k e t : TypeId}
theorem MapAt.put_ (h : MapAt ek ev w r m c) (K : KeyLaw P k ek) (ht : P.underlying t = some (.map k e)) (a : κ) (v : ν) :
    ∃ w', (Instr.mapUpdate t (.map (some r)) (ek a) (ev v)).run P w = .ok () w' ∧ MapAt ek ev w' r (mput a v c m) (mclk a m c) ∧ Chg [r] w w' := by
  refine ⟨_, h.put K ht a v, ?_, Chg.refl.setBlock (by simp) _⟩
  unfold MapAt setBlock
  simp [h.lt]
theorem MapAt.del_ (h : MapAt ek ev w r m c) (K : KeyLaw P k ek) (ht : P.underlying t = some (.map k e)) (a : κ) (t2 : TypeId) :
    ∃ w', (∀ ty, (Builtin.delete_ #[t, t2] ty #[.map (some r), ek a]).run P w = .ok (.tuple #[]) w') ∧ MapAt ek ev w' r (mdel a m) c ∧ Chg [r] w w' := by
  refine ⟨_, fun ty => h.del K ht a ty t2, ?_, Chg.refl.setBlock (by simp) _⟩
  unfold MapAt setBlock
  simp [h.lt]
end
theorem MapAt.chg {κ ν : Type} {ek : κ → Value} {ev : ν → Value} {w w' : World} {r : Nat} {m : List (κ × ν × Nat)} {c : Nat} {S : List Nat} (h : MapAt ek ev w r m c) (hc : Chg S w w') (hr : r ∉ S) : MapAt ek ev w' r m c := (hc.block r h.lt hr).trans h

theorem mkeys_length {κ ν : Type} (m : List (κ × ν × Nat)) : (mkeys m).length = m.length := by simp [mkeys]
end Go.Proofs.Ytpoaomdpcoaolaa

/- Appends to a row of the call's own, of what another slice reads as. Conditions: the length within bounds. -/
namespace Go.Proofs.Ytpoaomdpcoaolaa
open Go.RowKit
set_option maxHeartbeats 1000000
set_option maxRecDepth 100000

/-- what the table says of an element type -/
structure Elem (P : Program) (t e : TypeId) (sz bytes : Nat) : Prop where
  und : P.underlying t = some (.slice e)
  row : (P.info? e).map (fun i => (i.zero.map (fun z => z.cells.size), i.size, i.bytes)) = some (some sz, sz, bytes)
  pos : 0 < sz

theorem bar_elem : Elem Try.prog 22 50 3 24 := ⟨by kernel_rfl, by kernel_rfl, by decide⟩
theorem knot_elem : Elem Try.prog 36 30 2 16 := ⟨by kernel_rfl, by kernel_rfl, by decide⟩

section
variable {α : Type} {enc : α → List Value} {sz bytes : Nat} {P : Program} {t e : TypeId} {w : World}
theorem run_app (E : Elem P t e sz bytes) (henc : ∀ x, (enc x).length = sz) (hone : ∀ x, ∀ u ∈ enc x, u.oneCell' = true) (base : Nat) (ty : TypeId) (v u : Value) (l r : List α) (hown : Own enc sz base e w v l) (hu : Sl enc sz w u r)
    (h63 : l.length + r.length ≤ maxLen) (hb : (l.length + r.length) * bytes ≤ 140737488355328) (hbase : base ≤ w.heap.size) :
    ∃ v' w', (Builtin.append_ #[t, t] ty #[v, u]).run P w = .ok v' w' ∧ Own enc sz base e w' v' (l ++ r) ∧ w.grownBy w' v.ownBlock := by
  obtain ⟨hund, hrow, hpos⟩ := E
  obtain ⟨i, hi, hrow⟩ : ∃ i, P.info? e = some i ∧ (i.zero.map (fun z => z.cells.size), i.size, i.bytes) = (some sz, sz, bytes) := by
    cases h : P.info? e with
    | none => rw [h] at hrow; cases hrow
    | some i => rw [h] at hrow; exact ⟨i, rfl, Option.some.inj hrow⟩
  have h1 := congrArg Prod.fst hrow
  have h2 := congrArg (fun x => x.2.1) hrow
  have h3 := congrArg (fun x => x.2.2) hrow
  obtain ⟨z, hz, hzs⟩ : ∃ z, i.zero = some z ∧ z.cells.size = sz := by
    cases h : i.zero with
    | none => rw [h] at h1; cases h1
    | some z => rw [h] at h1; exact ⟨z, rfl, Option.some.inj h1⟩
  obtain ⟨A, c, rfl, hlc, hcm, hr⟩ := hu
  cases A with
  | some ad =>
    have hl : (r.flatMap enc).length = r.length * sz := by
      clear hr hlc hb h63
      induction r with
      | nil => simp
      | cons x r ih => simp [henc, ih, Nat.succ_mul]; omega
    obtain ⟨v', w', q1, q2, q3, _⟩ := run_append_own (P := P) w base t ty e i z sz bytes hund hi hz h2 h3 hzs hpos v l.length (l.flatMap enc) hown ad r.length c (r.flatMap enc) hl (by
      intro j u hj
      have hjl : j < r.length * sz := by rw [← hl]; exact (List.getElem?_eq_some_iff.1 hj).1
      have hk : j / sz < r.length := Nat.div_lt_of_lt_mul (by rw [Nat.mul_comm]; exact hjl)
      obtain ⟨b, off, he, hbl, hc⟩ := hr (j / sz) r[j / sz] (List.getElem?_eq_getElem hk)
      have hm : j % sz < (enc r[j / sz]).length := by rw [henc]; exact Nat.mod_lt _ hpos
      have hj' := flat_get henc r (j / sz) r[j / sz] (j % sz) _ (List.getElem?_eq_getElem hk) (List.getElem?_eq_getElem hm)
      have hdm : j / sz * sz + j % sz = j := by rw [Nat.mul_comm]; exact Nat.div_add_mod j sz
      rw [hdm, hj] at hj'
      have hcj := hc (j % sz) u (by rw [List.getElem?_eq_getElem hm]; exact hj'.symm)
      obtain rfl : ad = ⟨b, off, none⟩ := Option.some.inj he
      rw [Nat.add_assoc, hdm] at hcj
      unfold Addr.add
      split
      · rename_i h0
        subst h0
        exact hcj
      · exact hcj) (by
      intro u hu
      obtain ⟨x, hx, hux⟩ := List.mem_flatMap.1 hu
      exact hone x u hux) h63 hb hbase
    refine ⟨v', w', q1, ?_, q3⟩
    unfold Own
    simpa using q2
  | none =>
    have hr0 : r = [] := by
      cases r with
      | nil => rfl
      | cons x r =>
        obtain ⟨b, off, he, _⟩ := hr 0 x rfl
        cases he
    subst hr0
    refine ⟨v, w, ?_, by simpa using hown, World.grownBy.refl _ _⟩
    rcases hown.2 with ⟨rfl, hn⟩ | ⟨g, cap, cur, rfl, _, _, hnc, _⟩
    · simp [Builtin.append_, run_underlying hund, sizeOf, typeInfo, hi, Builtin.lenOf, Builtin.firstCells]
    · simp [Builtin.append_, run_underlying hund, sizeOf, typeInfo, hi, Builtin.lenOf, Builtin.firstCells, hnc, storeCells]

theorem wpList_app {ops : Array Oper} {rest : List Oper} {o : Oper} {a : Act} {Q : Exit → Act → World → Prop} (hgd : o.guard = none) (E : Elem P t e sz bytes) (henc : ∀ x, (enc x).length = sz) (hone : ∀ x, ∀ u ∈ enc x, u.oneCell' = true) (s x : Operand)
    (ho : o.op = .call { callee := .builtin .append, args := #[s, x], argTypes := #[t, t] }) (base : Nat) (v u : Value) (l r : List α) (hs : a.eval s = v) (hx : a.eval x = u) (hown : Own enc sz base e w v l) (hu : Sl enc sz w u r)
    (h63 : l.length + r.length ≤ maxLen) (hb : (l.length + r.length) * bytes ≤ 140737488355328) (hbase : base ≤ w.heap.size)
    (h : ∀ v' w', Own enc sz base e w' v' (l ++ r) → w.grownBy w' v.ownBlock → wpList P ops Q rest (a.put o.dst v') w') : wpList P ops Q (o :: rest) a w := by
  refine wpList_plain hgd fun K hK' => ?_
  obtain ⟨v', w', hr, h2, h3⟩ := run_app E henc hone base o.type v u l r hown hu h63 hb hbase
  unfold Oper.wp
  simp [execOp, ho, resolve, invoke, builtin, hs, hx, hr, Result.andThen]
  exact hK' _ _ (h v' w' h2 h3)
end

theorem bc_one (b : Bar) : ∀ u ∈ bc b, u.oneCell' = true := by intro u hu; simp [bc] at hu; rcases hu with rfl | rfl | rfl <;> rfl
theorem kc_one (k : Knot) : ∀ u ∈ kc k, u.oneCell' = true := by intro u hu; simp [kc] at hu; rcases hu with rfl | rfl <;> rfl
theorem own_step {α : Type} {enc : α → List Value} {sz : Nat} {e : TypeId} {w W W' w2 : World} {v : Value} {l : List α} (hown : Own enc sz w.heap.size e W v l) (hgr : W'.grownBy w2 v.ownBlock) (hb : Below w.heap.size w W') : Below w.heap.size w w2 :=
  bl_grown hgr hb fun k hk => (hown.lt k hk).1
abbrev SlB := Sl bc 3
abbrev SlK := Sl kc 2
abbrev OwB (base : Nat) := Own bc 3 base 50
abbrev OwK (base : Nat) := Own kc 2 base 30
/-- one element in a block of its own, as 'append(l, x)' lays it -/
theorem Sl.one_bar (w : World) (x y s : Int) : SlB (w.alloc (.cells #[.int .i64 x, .int .i64 y, .int .i64 s] 50)) (.slice (some ⟨w.heap.size, 0, none⟩) 1 1) [(x, y, s)] := by
  have hB := Blk.new w 50 #[.int .i64 x, .int .i64 y, .int .i64 s]
  refine ⟨_, 1, rfl, by simp, by simp [maxLen], fun i b hb => ?_⟩
  match i, hb with
  | 0, hb =>
    obtain rfl : (x, y, s) = b := by simpa using hb
    refine ⟨_, 0, rfl, hB.lt, fun j u hj => ?_⟩
    rw [hB.cell]
    simpa [bc] using hj
theorem Sl.one_knot (w : World) (x y : Int) : SlK (w.alloc (.cells #[.int .i64 x, .int .i64 y] 30)) (.slice (some ⟨w.heap.size, 0, none⟩) 1 1) [(x, y)] := by
  have hB := Blk.new w 30 #[.int .i64 x, .int .i64 y]
  refine ⟨_, 1, rfl, by simp, by simp [maxLen], fun i b hb => ?_⟩
  match i, hb with
  | 0, hb =>
    obtain rfl : (x, y) = b := by simpa using hb
    refine ⟨_, 0, rfl, hB.lt, fun j u hj => ?_⟩
    rw [hB.cell]
    simpa [kc] using hj
section
variable {ops : Array Oper} {rest : List Oper} {o : Oper} {a : Act} {Q : Exit → Act → World → Prop} {base : Nat} {W : World} {v : Value} {X Y S : Int}
theorem wpList_appB {l : List Bar} (hown : OwB base W v l) (hgd : o.guard = none) (s x : Operand) (ho : o.op = .call { callee := .builtin .append, args := #[s, x], argTypes := #[22, 22] })
    (hs : a.eval s = v) (hx : a.eval x = .slice (some ⟨W.heap.size, 0, none⟩) 1 1) (hlen : l.length ≤ 1000000) (hbase : base ≤ W.heap.size)
    (h : ∀ v' w', OwB base w' v' (l ++ [(X, Y, S)]) → (W.alloc (.cells #[.int .i64 X, .int .i64 Y, .int .i64 S] 50)).grownBy w' v.ownBlock → wpList Try.prog ops Q rest (a.put o.dst v') w') :
    wpList Try.prog ops Q (o :: rest) a (W.alloc (.cells #[.int .i64 X, .int .i64 Y, .int .i64 S] 50)) :=
  wpList_app hgd bar_elem bc_len bc_one s x ho base v _ l [(X, Y, S)] hs hx (hown.alloc _) (Sl.one_bar W X Y S) (by simp [maxLen]; omega) (by simp; omega) (by simp; omega) h
theorem wpList_appK {l : List Knot} (hown : OwK base W v l) (hgd : o.guard = none) (s x : Operand) (ho : o.op = .call { callee := .builtin .append, args := #[s, x], argTypes := #[36, 36] })
    (hs : a.eval s = v) (hx : a.eval x = .slice (some ⟨W.heap.size, 0, none⟩) 1 1) (hlen : l.length ≤ 1000000) (hbase : base ≤ W.heap.size)
    (h : ∀ v' w', OwK base w' v' (l ++ [(X, Y)]) → (W.alloc (.cells #[.int .i64 X, .int .i64 Y] 30)).grownBy w' v.ownBlock → wpList Try.prog ops Q rest (a.put o.dst v') w') :
    wpList Try.prog ops Q (o :: rest) a (W.alloc (.cells #[.int .i64 X, .int .i64 Y] 30)) :=
  wpList_app hgd knot_elem kc_len kc_one s x ho base v _ l [(X, Y)] hs hx (hown.alloc _) (Sl.one_knot W X Y) (by simp [maxLen]; omega) (by simp; omega) (by simp; omega) h
theorem wpList_appBS {w : World} {u : Value} {l r : List Bar} (hown : OwB base w v l) (hu : SlB w u r) (hgd : o.guard = none) (s x : Operand) (ho : o.op = .call { callee := .builtin .append, args := #[s, x], argTypes := #[22, 22] })
    (hs : a.eval s = v) (hx : a.eval x = u) (hlen : l.length + r.length ≤ 1000000) (hbase : base ≤ w.heap.size)
    (h : ∀ v' w', OwB base w' v' (l ++ r) → w.grownBy w' v.ownBlock → wpList Try.prog ops Q rest (a.put o.dst v') w') : wpList Try.prog ops Q (o :: rest) a w :=
  wpList_app hgd bar_elem bc_len bc_one s x ho base v u l r hs hx hown hu (by simp [maxLen]; omega) (by omega) hbase h
theorem wpList_appKS {w : World} {u : Value} {l r : List Knot} (hown : OwK base w v l) (hu : SlK w u r) (hgd : o.guard = none) (s x : Operand) (ho : o.op = .call { callee := .builtin .append, args := #[s, x], argTypes := #[36, 36] })
    (hs : a.eval s = v) (hx : a.eval x = u) (hlen : l.length + r.length ≤ 1000000) (hbase : base ≤ w.heap.size)
    (h : ∀ v' w', OwK base w' v' (l ++ r) → w.grownBy w' v.ownBlock → wpList Try.prog ops Q rest (a.put o.dst v') w') : wpList Try.prog ops Q (o :: rest) a w :=
  wpList_app hgd knot_elem kc_len kc_one s x ho base v u l r hs hx hown hu (by simp [maxLen]; omega) (by omega) hbase h
end
theorem Own.empty {α : Type} (enc : α → List Value) (sz : Nat) (w : World) (e : TypeId) : Own enc sz w.heap.size e (w.alloc (.cells #[] e)) (.slice (some ⟨w.heap.size, 0, none⟩) 0 0) ([] : List α) :=
  ⟨by simp, .inr ⟨w.heap.size, 0, #[], rfl, Nat.le_refl _, heap_alloc_new w _, Nat.le_refl _, by simp [maxLen], by simp, by simp⟩⟩
/-- the call returns a fresh row of bars .. of knots -/
def RB (w : World) (l : List Bar) (e : Ending) (w' : World) : Prop := ∃ v, e = .returned v ∧ OwB w.heap.size w' v l ∧ Below w.heap.size w w'
def RK (w : World) (l : List Knot) (e : Ending) (w' : World) : Prop := ∃ v, e = .returned v ∧ OwK w.heap.size w' v l ∧ Below w.heap.size w w'
end Go.Proofs.Ytpoaomdpcoaolaa

/- A whole block is written: the world behind it under a name. Conditions: the block is known whole. -/
namespace Go.Proofs.Ytpoaomdpcoaolaa
open Go.RowKit

section
variable {P : Program} {w : World} {g : Nat} {t : TypeId} {cs cells : Array Value}
theorem setCells_blk : ∀ (vs : List Value) (o : Nat) (w : World) (cs : Array Value), Blk w g t cs → (∃ C, Blk (w.setCells g o vs) g t C ∧ C.size = cs.size) ∧ Chg [g] w (w.setCells g o vs)
  | [], _, w, cs, h => ⟨⟨cs, h, rfl⟩, Chg.refl⟩
  | v :: r, o, w, cs, h => by
    simp only [World.setCells]
    obtain ⟨⟨C, h1, h2⟩, h3⟩ := setCells_blk r (o + 1) (w.setCell ⟨g, o, none⟩ v) _ (h.set_ o v)
    refine ⟨⟨C, h1, by simpa using h2⟩, Chg.trans (W := w.setCell ⟨g, o, none⟩ v) ⟨rfl, rfl, rfl, by simp, fun k _ hn => Below.heap_setCell w ⟨g, o, none⟩ v k (by simpa using hn)⟩ h3⟩
theorem Blk.store_ (h : Blk w g t cs) (ty : TypeId) (hsz : cells.size = cs.size) (hi : (P.info? ty).map (·.size) = some cells.size) (h1 : cells.all (·.oneCell') = true) :
    ∃ W', (storeVar ty ⟨g, 0, none⟩ (.agg cells)).run P w = .ok () W' ∧ Blk W' g t cells ∧ Chg [g] w W' := by
  have ht : w.there g 0 cells.size := fun j hj => by
    rw [Nat.zero_add, h.cell, h.frozen]
    simp [hsz ▸ hj]
  refine ⟨_, run_storeVar_mid w g 0 ty cells ht hi h1, ?_, (setCells_blk _ _ _ _ h).2⟩
  obtain ⟨C, hC, hCs⟩ := (setCells_blk (g := g) (t := t) cells.toList 0 w cs h).1
  have hr := World.rangeAt_setCells_same w g 0 cells.toList (by simpa using ht)
  have : C = cells := by
    apply Array.ext
    · omega
    · intro i h1 h2
      have := hr i cells[i] (by simp [h2])
      rw [Nat.zero_add, hC.cell] at this
      simpa [h1] using this
  unfold Blk at hC ⊢
  rw [hC, this]
theorem Own.chg {α : Type} {enc : α → List Value} {sz base : Nat} {e : TypeId} {w w' : World} {v : Value} {l : List α} {S : List Nat} (h : Own enc sz base e w v l) (hc : Chg S w w') (hS : ∀ k ∈ S, k < base) : Own enc sz base e w' v l := by
  obtain ⟨h1, h2⟩ := h
  refine ⟨h1, ?_⟩
  rcases h2 with h2 | ⟨g, cap, cur, hv, hg, hh, r⟩
  · exact .inl h2
  · exact .inr ⟨g, cap, cur, hv, hg, (hc.block g (Array.getElem?_eq_some_iff.1 hh).1 (fun hm => by have := hS g hm; omega)).trans hh, r⟩
theorem Own.shape {α : Type} {enc : α → List Value} {sz base : Nat} {e : TypeId} {w : World} {v : Value} {l : List α} (h : Own enc sz base e w v l) : ∃ A c, v = .slice A l.length c := by
  rcases h.2 with ⟨rfl, hn⟩ | ⟨g, cap, cur, rfl, _⟩
  · exact ⟨none, 0, by rw [hn]⟩
  · exact ⟨_, _, rfl⟩
theorem Blk.new1 (w : World) (o : Obj) (t : TypeId) (cs : Array Value) : Blk ((w.alloc o).alloc (.cells cs t)) (w.heap.size + 1) t cs := by
  have := Blk.new (w.alloc o) t cs
  simpa using this
theorem Blk.new2 (w : World) (o o' : Obj) (t : TypeId) (cs : Array Value) : Blk (((w.alloc o).alloc o').alloc (.cells cs t)) (w.heap.size + 1 + 1) t cs := by
  have := Blk.new ((w.alloc o).alloc o') t cs
  simpa using this
theorem Blk.new3 (w : World) (o o' o'' : Obj) (t : TypeId) (cs : Array Value) : Blk ((((w.alloc o).alloc o').alloc o'').alloc (.cells cs t)) (w.heap.size + 1 + 1 + 1) t cs := by
  have := Blk.new (((w.alloc o).alloc o').alloc o'') t cs
  simpa using this
theorem wpList_store_blk {ops : Array Oper} {rest : List Oper} {op : Oper} {a : Act} {Q : Exit → Act → World → Prop} (h : Blk w g t cs) (hgd : op.guard = none) (ty : TypeId) (x y : Operand) (ho : op.op = .store ty x y)
    (hx : a.eval x = .pointer (some ⟨g, 0, none⟩)) (hy : a.eval y = .agg cells) (hsz : cells.size = cs.size) (hi : (P.info? ty).map (·.size) = some cells.size) (h1 : cells.all (·.oneCell') = true)
    (hK : ∀ W', Blk W' g t cells → Chg [g] w W' → wpList P ops Q rest (a.put op.dst undef) W') : wpList P ops Q (op :: rest) a w := by
  refine wpList_plain hgd fun K hK' => ?_
  obtain ⟨W', hr, h2, h3⟩ := h.store_ (P := P) ty hsz hi h1
  unfold Oper.wp execOp
  simp only [ho, hx, hy, Instr.storeAt, Instr.sureAddr, Sem.run_bind, Sem.run_pure, Result.andThen_ok, hr]
  exact hK' _ _ (hK W' h2 h3)
end
end Go.Proofs.Ytpoaomdpcoaolaa

/- Nets and knots in their order, plain; what a net without an error is. Conditions: none. -/
namespace Go.Proofs.Ytpoaomdpcoaolaa
open Go.RowKit
set_option maxHeartbeats 2000000
set_option maxRecDepth 100000

@[go_sem] theorem store_func (P : Program) (w : World) (p : Addr) (f : Fn) (a b : Array Value) : (store p (.func f a b)).run P w = match w.cell? p with
      | some _ => if w.frozen? p then .halt (.unsupported (.unsafePointer "a write to bytes that a string shares")) w else .ok () (w.setCell p (.func f a b))
      | none => match w.farStore P p (.func f a b) (Mode.plain == .atomic) with
        | .ok (w', _) => .ok () w'
        | .error h => .halt h w := run_store P w p (.func f a b) .plain rfl
def BarOk (b : Bar) : Prop := (-200000 ≤ b.1 ∧ b.1 ≤ 200000) ∧ (-200000 ≤ b.2.1 ∧ b.2.1 ≤ 200000) ∧ (b.2.2 = 1 ∨ b.2.2 = -1)
def bltP (a b : Bar) : Prop := barLt a.1 a.2.1 a.2.2 b.1 b.2.1 b.2.2 = true
theorem bltP_iff (a b : Bar) : bltP a b ↔ a.2.1 < b.2.1 ∨ a.2.1 = b.2.1 ∧ (a.1 < b.1 ∨ a.1 = b.1 ∧ a.2.2 < b.2.2) := by simp [bltP, barLt]
theorem bltP_trans {a b c : Bar} (h : bltP a b) (h' : bltP b c) : bltP a c := by
  rw [bltP_iff] at *
  omega
theorem bltP_irrefl (a : Bar) : ¬ bltP a a := by
  rw [bltP_iff]
  omega
theorem barE_ok {x y s : Int} (h : barE x y s = 0) : BarOk (x, y, s) := by
  unfold barE at h
  split at h
  · rename_i h1
    exact absurd h (by simpa using h1)
  · rename_i h1
    obtain ⟨a1, a2, a3, a4, _⟩ := knotE_zero (by simpa using h1)
    split at h
    · cases h
    · rename_i h2
      refine ⟨⟨by show -200000 ≤ x; omega, by show x ≤ 200000; omega⟩, ⟨by show -200000 ≤ y; omega, by show y ≤ 200000; omega⟩, ?_⟩
      show s = 1 ∨ s = -1
      omega
theorem netGo_ok : ∀ (l : List Bar) (p : Option Bar), netGo p l = 0 → (∀ b ∈ l, BarOk b) ∧ l.Pairwise bltP ∧ ∀ q, p = some q → ∀ b ∈ l, bltP q b
  | [], _, _ => ⟨by simp, List.Pairwise.nil, by simp⟩
  | b :: r, p, h => by
    unfold netGo at h
    split at h
    · rename_i h1
      exact absurd h h1
    · rename_i h1
      split at h
      · cases h
      · rename_i h2
        obtain ⟨i1, i2, i3⟩ := netGo_ok r (some b) h
        have hq : ∀ q, p = some q → bltP q b := fun q hq => by
          subst hq
          simpa [bltP] using h2
        refine ⟨?_, List.Pairwise.cons (i3 b rfl) i2, fun q hp c hc => ?_⟩
        · intro c hc
          rcases List.mem_cons.1 hc with rfl | hc
          · exact barE_ok (by simpa using h1)
          · exact i1 c hc
        · rcases List.mem_cons.1 hc with rfl | hc
          · exact hq q hp
          · exact bltP_trans (hq q hp) (i3 b rfl c hc)
/-- a net without an error: each bar once, in order, within bounds -/
structure NetOk (l : List Bar) : Prop where
  len : l.length ≤ 4096
  ok : ∀ b ∈ l, BarOk b
  sorted : l.Pairwise bltP
theorem NetOk.nodup {l : List Bar} (h : NetOk l) : l.Nodup := h.sorted.imp fun hab e => by subst e; exact bltP_irrefl _ hab
theorem netE_ok {l : List Bar} (h : netE l = 0) : NetOk l := by
  unfold netE at h
  split at h
  · cases h
  · rename_i h1
    obtain ⟨i1, i2, _⟩ := netGo_ok l none h
    exact ⟨by omega, i1, i2⟩
theorem sorted_unique {α : Type} {R : α → α → Prop} (irr : ∀ a, ¬ R a a) (tr : ∀ a b c, R a b → R b c → R a c) : ∀ {l r : List α}, l.Pairwise R → r.Pairwise R → (∀ x, x ∈ l ↔ x ∈ r) → l = r
  | [], [], _, _, _ => rfl
  | [], y :: r, _, _, h => by have := (h y).2 (by simp); simp at this
  | x :: l, [], _, _, h => by have := (h x).1 (by simp); simp at this
  | x :: l, y :: r, h1, h2, h => by
    obtain ⟨p1, p2⟩ := List.pairwise_cons.1 h1
    obtain ⟨q1, q2⟩ := List.pairwise_cons.1 h2
    have hxy : x = y := by
      rcases List.mem_cons.1 ((h x).1 (by simp)) with e | e
      · exact e
      · rcases List.mem_cons.1 ((h y).2 (by simp)) with e' | e'
        · exact e'.symm
        · exact absurd (tr _ _ _ (q1 _ e) (p1 _ e')) (irr _)
    subst hxy
    have ht : ∀ z, z ∈ l ↔ z ∈ r := fun z => by
      constructor
      · intro hz
        rcases List.mem_cons.1 ((h z).1 (by simp [hz])) with e | e
        · subst e; exact absurd (p1 _ hz) (irr _)
        · exact e
      · intro hz
        rcases List.mem_cons.1 ((h z).2 (by simp [hz])) with e | e
        · subst e; exact absurd (q1 _ hz) (irr _)
        · exact e
    rw [sorted_unique irr tr p2 q2 ht]

/-! ## the knots of a hole -/
def kltP (a b : Knot) : Prop := a.2 < b.2 ∨ a.2 = b.2 ∧ a.1 < b.1
instance (a b : Knot) : Decidable (kltP a b) := inferInstanceAs (Decidable (a.2 < b.2 ∨ a.2 = b.2 ∧ a.1 < b.1))
theorem kltP_irr (a : Knot) : ¬ kltP a a := by unfold kltP; omega
theorem kltP_tr (a b c : Knot) : kltP a b → kltP b c → kltP a c := by unfold kltP; omega
theorem kltP_tri {a b : Knot} (h : ¬ kltP a b) (hne : a ≠ b) : kltP b a := by
  unfold kltP at h ⊢
  have : ¬ (a.1 = b.1 ∧ a.2 = b.2) := fun ⟨h1, h2⟩ => hne (Prod.ext h1 h2)
  omega
/-- a knot put into a list in its place -/
def insK : List Knot → Knot → List Knot
  | [], k => [k]
  | x :: r, k => if kltP x k then x :: insK r k else if x = k then x :: r else k :: x :: r
theorem insK_mem (k y : Knot) : ∀ l, y ∈ insK l k ↔ y = k ∨ y ∈ l
  | [] => by simp [insK]
  | x :: r => by
    unfold insK
    split
    · rw [List.mem_cons, insK_mem k y r, List.mem_cons]
      constructor
      · rintro (h | h | h) <;> simp [h]
      · rintro (h | h | h) <;> simp [h]
    · split
      · rename_i h
        subst h
        simp
      · simp
theorem insK_sorted (k : Knot) : ∀ {l : List Knot}, l.Pairwise kltP → (insK l k).Pairwise kltP
  | [], _ => by simp [insK]
  | x :: r, h => by
    obtain ⟨h1, h2⟩ := List.pairwise_cons.1 h
    unfold insK
    split
    · rename_i hx
      refine List.pairwise_cons.2 ⟨fun y hy => ?_, insK_sorted k h2⟩
      rcases (insK_mem k y r).1 hy with rfl | hy
      · exact hx
      · exact h1 y hy
    · rename_i hx
      split
      · exact h
      · rename_i hne
        refine List.pairwise_cons.2 ⟨fun y hy => ?_, h⟩
        have := kltP_tri hx hne
        rcases List.mem_cons.1 hy with rfl | hy
        · exact this
        · exact kltP_tr _ _ _ this (h1 y hy)
def holeIn (o : List Knot) (D : List Bar) : List Knot := D.foldl (fun o b => insK (insK o (lowK b)) (uppK b)) o
def holeK (D : List Bar) : List Knot := holeIn [] D
theorem holeIn_mem (k : Knot) : ∀ (D : List Bar) (o : List Knot), k ∈ holeIn o D ↔ k ∈ o ∨ ∃ b ∈ D, k = lowK b ∨ k = uppK b
  | [], o => by simp [holeIn]
  | b :: D, o => by
    show k ∈ holeIn (insK (insK o (lowK b)) (uppK b)) D ↔ _
    rw [holeIn_mem k D, insK_mem, insK_mem]
    simp only [List.mem_cons, exists_eq_or_imp]
    constructor
    · rintro ((h | h | h) | h)
      · exact .inr (.inl (.inr h))
      · exact .inr (.inl (.inl h))
      · exact .inl h
      · exact .inr (.inr h)
    · rintro (h | (h | h) | h)
      · exact .inl (.inr (.inr h))
      · exact .inl (.inr (.inl h))
      · exact .inl (.inl h)
      · exact .inr h
theorem holeIn_sorted : ∀ (D : List Bar) (o : List Knot), o.Pairwise kltP → (holeIn o D).Pairwise kltP
  | [], _, h => h
  | _ :: D, _, h => holeIn_sorted D _ (insK_sorted _ (insK_sorted _ h))
theorem holeK_sorted (D : List Bar) : (holeK D).Pairwise kltP := holeIn_sorted D [] List.Pairwise.nil
theorem sortedB_eq {l r : List Bar} (h1 : l.Pairwise bltP) (h2 : r.Pairwise bltP) (h : ∀ x, x ∈ l ↔ x ∈ r) : l = r := sorted_unique bltP_irrefl (fun _ _ _ => bltP_trans) h1 h2 h
theorem sortedB_nodup {l : List Bar} (h : l.Pairwise bltP) : l.Nodup := h.imp fun hab e => by subst e; exact bltP_irrefl _ hab
theorem sortedK_eq {l r : List Knot} (h1 : l.Pairwise kltP) (h2 : r.Pairwise kltP) (h : ∀ x, x ∈ l ↔ x ∈ r) : l = r := sorted_unique kltP_irr kltP_tr h1 h2 h
theorem sortedK_nodup {l : List Knot} (h : l.Pairwise kltP) : l.Nodup := h.imp fun hab e => by subst e; exact kltP_irr _ hab
instance (a b : Bar) : Decidable (bltP a b) := inferInstanceAs (Decidable (barLt a.1 a.2.1 a.2.2 b.1 b.2.1 b.2.2 = true))
end Go.Proofs.Ytpoaomdpcoaolaa

/- What the sorts' comparing functions leave of the world: draws and new blocks. Conditions: none. -/
namespace Go.Proofs.Ytpoaomdpcoaolaa
open Go.RowKit Go.Sort
set_option maxHeartbeats 2000000
set_option maxRecDepth 100000

def RE (w : World) (v : Value) (e : Ending) (w' : World) : Prop := e = .returned v ∧ w' = w
def Grw (w w' : World) : Prop := ∃ q os, w' = grow (w.drewN q) os
def GV (w : World) (v : Value) (e : Ending) (w' : World) : Prop := e = .returned v ∧ Grw w w'
theorem Grw.refl (w : World) : Grw w w := ⟨0, #[], by simp [grow, World.drewN]⟩
theorem Grw.alloc {w W : World} (h : Grw w W) (o : Obj) : Grw w (W.alloc o) := by
  obtain ⟨q, os, rfl⟩ := h
  exact ⟨q, os.push o, by simp [grow, World.drewN, World.alloc]⟩
theorem Grw.drew {w W : World} (h : Grw w W) : Grw w W.drew := by
  obtain ⟨q, os, rfl⟩ := h
  exact ⟨q + 1, os, by simp [grow, World.drewN, World.drew, Nat.add_assoc]⟩

theorem isNaN_ex (n : Int) (w : World) : Calls Try.prog 63 #[.int .i64 n] w (RE w (.bool false)) := by
  have h : (n != n) = false := by simp
  go_enter Try.func63, Try.ntmps63
  go_wp2
  go_ret
  exact ⟨ret_bool (by simp), rfl⟩
theorem cmp_ex (a b : Int) (w : World) : Calls Try.prog 50 #[.int .i64 a, .int .i64 b] w (RE w (.int .i64 (cmpI a b))) := by
  go_enter Try.func50, Try.ntmps50
  go_wp2_with (go_at_call 63; refine (isNaN_ex _ _).mono ?_; rintro e w1 ⟨rfl, rfl⟩)
  all_goals go_ret
  all_goals refine ⟨ret_int ?_, rfl⟩
  · have h : a < b := by assumption
    simp [cmpI, h]
  · have h : b < a := by assumption
    have h' : ¬ a < b := by omega
    simp [cmpI, h, h']
  · have h : b ≤ a := by assumption
    have h'' : a ≤ b := by assumption
    have h1 : ¬ a < b := by omega
    have h2 : ¬ b < a := by omega
    simp [cmpI, h1, h2]
theorem or_ex (l : List Int) (A : Option Addr) (c : Nat) (w : World) (hl : l.length ≤ maxLen) (h : Rd ic 1 w A l) :
    Calls Try.prog 49 #[.slice A l.length c] w (RE w (.int .i64 (firstI l))) := by
  unfold maxLen at hl
  go_enter Try.func49, Try.ntmps49
  go_wp2
  go_loop [8] (fun i => ∃ k : Nat, k ≤ l.length ∧ i = .int .i64 k ∧ Hid (firstI l = firstI (l.drop k))) (fun i => l.length - (intOf i).toNat)
  case atStart => exact ⟨0, Nat.zero_le _, rfl, rfl⟩
  case round =>
    obtain ⟨k, hk, rfl, H⟩ := hrel
    by_cases hlt : k < l.length
    · obtain ⟨b, off, rfl, hb, hc⟩ := h.int hlt
      have hd := Lib.hid (firstI_drop hlt)
      go_wp2
      · have hne : (l[k] != 0) = true := by assumption
        go_ret
        refine ⟨ret_int ?_, rfl⟩
        rw [H.out, hd.out, if_neg (by simpa using hne)]
      · have hne : (l[k] != 0) = false := by assumption
        go_round
        case rel => exact ⟨k + 1, by omega, by go_num, by rw [H.out, hd.out, if_pos (by simpa using hne)]; rfl⟩
        case measure => simp [intOf]; omega
    · have hkl : k = l.length := by omega
      go_wp2
      go_ret
      refine ⟨ret_int ?_, rfl⟩
      rw [H.out, hkl, List.drop_length]; rfl

def knotCmp (x y x' y' : Int) : Int := firstI [cmpI y y', cmpI x x']
theorem kcmp_ex (x y x' y' : Int) (w : World) : Calls Try.prog 48 #[.agg #[.int .i64 x, .int .i64 y], .agg #[.int .i64 x', .int .i64 y']] w (GV w (.int .i64 (knotCmp x y x' y'))) := by
  go_enter Try.func48, Try.ntmps48
  go_wp2
  refine wp_region_ords [0, 1, 2, 3, 5, 6, 7, 8] [(4, false)] [9, 10, 11, 12] (by kernel_rfl) (by kernel_rfl) (fun d _ _ _ _ h => by cases d <;> exact h) ?_
  simp only [List.map_cons, List.map_nil, List.getD_cons_zero, List.getD_cons_succ]
  repeat (go_big_quiet_step (fail))
  refine wpQuiet_nil ?_
  refine wpMid_run rfl (fun K hK => ?_)
  go_simp
  refine (cmp_ex _ _ _).mono ?_
  rintro e w1 ⟨rfl, rfl⟩
  refine hK _ _ (by (repeat (first | exact bl_refl | assumption | (apply bl_then; assumption) | refine bl_alloc ?_ _ | refine bl_drew ?_ | refine bl_drewN ?_ _))) ?_
  clear hK K
  refine wpMid_nil ?_
  go_wp2_with (first | (go_at_call 50; refine (cmp_ex _ _ _).mono ?_; rintro e w1 ⟨rfl, rfl⟩) | (go_at_call 49; go_must (refine (or_ex [cmpI y y', cmpI x x'] _ _ _ (by simp [maxLen]) (Rd.ints2 (by simp) (by go_simp) (by go_simp))).mono ?_); rintro e w1 ⟨rfl, rfl⟩))
  go_ret
  exact ⟨rfl, ((((Grw.refl w).alloc _).alloc _).drew).alloc _⟩
def barCmpM (x y s x' y' s' : Int) : Int := firstI [cmpI y y', cmpI x x', cmpI s s']
theorem bcmp_ex (x y s x' y' s' : Int) (w : World) : Calls Try.prog 44 #[.agg #[.int .i64 x, .int .i64 y, .int .i64 s], .agg #[.int .i64 x', .int .i64 y', .int .i64 s']] w (GV w (.int .i64 (barCmpM x y s x' y' s'))) := by
  go_enter Try.func44, Try.ntmps44
  go_wp2
  refine wp_region_ords [0, 1, 2, 3, 5, 6, 7, 8, 10, 11, 12, 13] [(4, false), (9, false)] [14, 15, 16, 17] (by kernel_rfl) (by kernel_rfl) (fun d _ _ _ _ h => by cases d <;> exact h) ?_
  simp only [List.map_cons, List.map_nil, List.getD_cons_zero, List.getD_cons_succ]
  repeat (go_big_quiet_step (fail))
  refine wpQuiet_nil ?_
  refine wpMid_run rfl (fun K hK => ?_)
  go_simp
  refine (cmp_ex _ _ _).mono ?_
  rintro e w1 ⟨rfl, rfl⟩
  refine hK _ _ (by (repeat (first | exact bl_refl | assumption | (apply bl_then; assumption) | refine bl_alloc ?_ _ | refine bl_drew ?_ | refine bl_drewN ?_ _))) ?_
  clear hK K
  refine wpMid_run rfl (fun K hK => ?_)
  go_simp
  refine (cmp_ex _ _ _).mono ?_
  rintro e w1 ⟨rfl, rfl⟩
  refine hK _ _ (by (repeat (first | exact bl_refl | assumption | (apply bl_then; assumption) | refine bl_alloc ?_ _ | refine bl_drew ?_ | refine bl_drewN ?_ _))) ?_
  clear hK K
  refine wpMid_nil ?_
  go_wp2_with (first | (go_at_call 50; refine (cmp_ex _ _ _).mono ?_; rintro e w1 ⟨rfl, rfl⟩) | (go_at_call 49; go_must (refine (or_ex [cmpI y y', cmpI x x', cmpI s s'] _ _ _ (by simp [maxLen]) (Rd.ints3 (by simp) (by go_simp) (by go_simp) (by go_simp))).mono ?_); rintro e w1 ⟨rfl, rfl⟩))
  go_ret
  exact ⟨rfl, ((((Grw.refl w).alloc _).alloc _).drew).alloc _⟩
end Go.Proofs.Ytpoaomdpcoaolaa

/- Contracts of the library at this program, laid. Conditions: none. -/
namespace Go.Proofs.Ytpoaomdpcoaolaa
open Go.Shelf
def lay_sortK_ren : Go.Shelf.Ren := ⟨fun | 6 => 47 | 15 => 62 | 14 => 61 | 28 => 74 | 29 => 75 | 20 => 66 | 21 => 67 | 22 => 68 | 23 => 69 | 24 => 70 | 25 => 71 | 26 => 72 | 27 => 73 | 46 => 84 | 47 => 85 | 48 => 86 | 49 => 87 | 50 => 88 | 57 => 92 | n => n, fun | 22 => 36 | 24 => 30 | 25 => 87 | 3 => 3 | 39 => 103 | 0 => 0 | 53 => 115 | 55 => 117 | 4 => 4 | 46 => 109 | 45 => 108 | 50 => 104 | 5 => 5 | 9 => 9 | 66 => 123 | 70 => 127 | 76 => 131 | 77 => 132 | n => n, fun | n => n⟩
theorem lay_sortK : Go.Proofs.SlLaysF0.n6 Try.prog lay_sortK_ren := {
  mixed := by kernel_rfl
  f6 := ⟨Try.f47.name, by decide, Try.func47.trans (congrArg some (by kernel_rfl))⟩
  f14 := ⟨Try.f61.name, by decide, Try.func61.trans (congrArg some (by kernel_rfl))⟩
  f15 := Try.func62.trans (congrArg some (by kernel_rfl))
  f20 := ⟨Try.f66.name, by decide, Try.func66.trans (congrArg some (by kernel_rfl))⟩
  f21 := ⟨Try.f67.name, by decide, Try.func67.trans (congrArg some (by kernel_rfl))⟩
  f22 := ⟨Try.f68.name, by decide, Try.func68.trans (congrArg some (by kernel_rfl))⟩
  f23 := ⟨Try.f69.name, by decide, Try.func69.trans (congrArg some (by kernel_rfl))⟩
  f24 := ⟨Try.f70.name, by decide, Try.func70.trans (congrArg some (by kernel_rfl))⟩
  f25 := ⟨Try.f71.name, by decide, Try.func71.trans (congrArg some (by kernel_rfl))⟩
  f26 := ⟨Try.f72.name, by decide, Try.func72.trans (congrArg some (by kernel_rfl))⟩
  f27 := ⟨Try.f73.name, by decide, Try.func73.trans (congrArg some (by kernel_rfl))⟩
  f28 := Try.func74.trans (congrArg some (by kernel_rfl))
  f29 := Try.func75.trans (congrArg some (by kernel_rfl))
  f46 := ⟨Try.f84.name, by decide, Try.func84.trans (congrArg some (by kernel_rfl))⟩
  f47 := Try.func85.trans (congrArg some (by kernel_rfl))
  f48 := Try.func86.trans (congrArg some (by kernel_rfl))
  f49 := ⟨Try.f87.name, by decide, Try.func87.trans (congrArg some (by kernel_rfl))⟩
  f50 := ⟨Try.f88.name, by decide, Try.func88.trans (congrArg some (by kernel_rfl))⟩
  f57 := ⟨Try.f92.name, by decide, Try.func92.trans (congrArg some (by kernel_rfl))⟩
  t0 := Try.underlying0
  a0 := Try.isAgg0
  z0 := Try.sizeOf0
  v0 := Try.zeroValue0
  t3 := Try.underlying3
  a3 := Try.isAgg3
  z3 := Try.sizeOf3
  v3 := Try.zeroValue3
  t4 := Try.underlying4
  a4 := Try.isAgg4
  z4 := Try.sizeOf4
  v4 := Try.zeroValue4
  t5 := Try.underlying5
  a5 := Try.isAgg5
  z5 := Try.sizeOf5
  v5 := Try.zeroValue5
  t9 := Try.underlying9
  a9 := Try.isAgg9
  z9 := Try.sizeOf9
  v9 := Try.zeroValue9
  t22 := Try.underlying36
  a22 := Try.isAgg36
  z22 := Try.sizeOf36
  v22 := Try.zeroValue36
  t25 := Try.underlying87
  a25 := Try.isAgg87
  z25 := Try.sizeOf87
  v25 := Try.zeroValue87
  t39 := Try.underlying103
  a39 := Try.isAgg103
  z39 := Try.sizeOf103
  v39 := Try.zeroValue103
  t45 := Try.underlying108
  a45 := Try.isAgg108
  z45 := Try.sizeOf108
  v45 := Try.zeroValue108
  t46 := Try.underlying109
  a46 := Try.isAgg109
  z46 := Try.sizeOf109
  v46 := Try.zeroValue109
  t50 := Try.underlying104
  a50 := Try.isAgg104
  z50 := Try.sizeOf104
  v50 := Try.zeroValue104
  t53 := Try.underlying115
  a53 := Try.isAgg115
  z53 := Try.sizeOf115
  v53 := Try.zeroValue115
  t55 := Try.underlying117
  a55 := Try.isAgg117
  z55 := Try.sizeOf117
  v55 := Try.zeroValue117
  t66 := Try.underlying123
  a66 := Try.isAgg123
  z66 := Try.sizeOf123
  v66 := Try.zeroValue123
  t70 := Try.underlying127
  a70 := Try.isAgg127
  z70 := Try.sizeOf127
  v70 := Try.zeroValue127
  t76 := Try.underlying131
  a76 := Try.isAgg131
  z76 := Try.sizeOf131
  v76 := Try.zeroValue131
  t77 := Try.underlying132
  a77 := Try.isAgg132
  z77 := Try.sizeOf132
  v77 := Try.zeroValue132 }
def lay_sortB_ren : Go.Shelf.Ren := ⟨fun | 6 => 60 | 15 => 62 | 14 => 65 | 28 => 74 | 29 => 75 | 20 => 76 | 21 => 77 | 22 => 78 | 23 => 79 | 24 => 80 | 25 => 81 | 26 => 82 | 27 => 83 | 46 => 89 | 47 => 85 | 48 => 86 | 49 => 90 | 50 => 91 | 57 => 93 | n => n, fun | 22 => 22 | 24 => 50 | 25 => 80 | 3 => 3 | 39 => 103 | 0 => 0 | 53 => 115 | 55 => 117 | 4 => 4 | 46 => 109 | 45 => 108 | 50 => 104 | 5 => 5 | 9 => 9 | 66 => 123 | 70 => 127 | 76 => 131 | 77 => 132 | n => n, fun | n => n⟩
theorem lay_sortB : Go.Proofs.SlLaysF0.n6 Try.prog lay_sortB_ren := {
  mixed := by kernel_rfl
  f6 := ⟨Try.f60.name, by decide, Try.func60.trans (congrArg some (by kernel_rfl))⟩
  f14 := ⟨Try.f65.name, by decide, Try.func65.trans (congrArg some (by kernel_rfl))⟩
  f15 := Try.func62.trans (congrArg some (by kernel_rfl))
  f20 := ⟨Try.f76.name, by decide, Try.func76.trans (congrArg some (by kernel_rfl))⟩
  f21 := ⟨Try.f77.name, by decide, Try.func77.trans (congrArg some (by kernel_rfl))⟩
  f22 := ⟨Try.f78.name, by decide, Try.func78.trans (congrArg some (by kernel_rfl))⟩
  f23 := ⟨Try.f79.name, by decide, Try.func79.trans (congrArg some (by kernel_rfl))⟩
  f24 := ⟨Try.f80.name, by decide, Try.func80.trans (congrArg some (by kernel_rfl))⟩
  f25 := ⟨Try.f81.name, by decide, Try.func81.trans (congrArg some (by kernel_rfl))⟩
  f26 := ⟨Try.f82.name, by decide, Try.func82.trans (congrArg some (by kernel_rfl))⟩
  f27 := ⟨Try.f83.name, by decide, Try.func83.trans (congrArg some (by kernel_rfl))⟩
  f28 := Try.func74.trans (congrArg some (by kernel_rfl))
  f29 := Try.func75.trans (congrArg some (by kernel_rfl))
  f46 := ⟨Try.f89.name, by decide, Try.func89.trans (congrArg some (by kernel_rfl))⟩
  f47 := Try.func85.trans (congrArg some (by kernel_rfl))
  f48 := Try.func86.trans (congrArg some (by kernel_rfl))
  f49 := ⟨Try.f90.name, by decide, Try.func90.trans (congrArg some (by kernel_rfl))⟩
  f50 := ⟨Try.f91.name, by decide, Try.func91.trans (congrArg some (by kernel_rfl))⟩
  f57 := ⟨Try.f93.name, by decide, Try.func93.trans (congrArg some (by kernel_rfl))⟩
  t0 := Try.underlying0
  a0 := Try.isAgg0
  z0 := Try.sizeOf0
  v0 := Try.zeroValue0
  t3 := Try.underlying3
  a3 := Try.isAgg3
  z3 := Try.sizeOf3
  v3 := Try.zeroValue3
  t4 := Try.underlying4
  a4 := Try.isAgg4
  z4 := Try.sizeOf4
  v4 := Try.zeroValue4
  t5 := Try.underlying5
  a5 := Try.isAgg5
  z5 := Try.sizeOf5
  v5 := Try.zeroValue5
  t9 := Try.underlying9
  a9 := Try.isAgg9
  z9 := Try.sizeOf9
  v9 := Try.zeroValue9
  t22 := Try.underlying22
  a22 := Try.isAgg22
  z22 := Try.sizeOf22
  v22 := Try.zeroValue22
  t25 := Try.underlying80
  a25 := Try.isAgg80
  z25 := Try.sizeOf80
  v25 := Try.zeroValue80
  t39 := Try.underlying103
  a39 := Try.isAgg103
  z39 := Try.sizeOf103
  v39 := Try.zeroValue103
  t45 := Try.underlying108
  a45 := Try.isAgg108
  z45 := Try.sizeOf108
  v45 := Try.zeroValue108
  t46 := Try.underlying109
  a46 := Try.isAgg109
  z46 := Try.sizeOf109
  v46 := Try.zeroValue109
  t50 := Try.underlying104
  a50 := Try.isAgg104
  z50 := Try.sizeOf104
  v50 := Try.zeroValue104
  t53 := Try.underlying115
  a53 := Try.isAgg115
  z53 := Try.sizeOf115
  v53 := Try.zeroValue115
  t55 := Try.underlying117
  a55 := Try.isAgg117
  z55 := Try.sizeOf117
  v55 := Try.zeroValue117
  t66 := Try.underlying123
  a66 := Try.isAgg123
  z66 := Try.sizeOf123
  v66 := Try.zeroValue123
  t70 := Try.underlying127
  a70 := Try.isAgg127
  z70 := Try.sizeOf127
  v70 := Try.zeroValue127
  t76 := Try.underlying131
  a76 := Try.isAgg131
  z76 := Try.sizeOf131
  v76 := Try.zeroValue131
  t77 := Try.underlying132
  a77 := Try.isAgg132
  z77 := Try.sizeOf132
  v77 := Try.zeroValue132 }
end Go.Proofs.Ytpoaomdpcoaolaa

/- Sorting knots and bars: the library's sort by its contract, at a row of the call's own. Conditions: a row of at most a million elements. -/
namespace Go.Proofs.Ytpoaomdpcoaolaa
open Go.RowKit Go.Sort Go.Shelf
set_option maxHeartbeats 2000000
set_option maxRecDepth 100000

/-! ## a row that the sort has turned -/
theorem flat_len {α : Type} {enc : α → List Value} {sz : Nat} (hk : ∀ x, (enc x).length = sz) : ∀ l : List α, (l.flatMap enc).length = l.length * sz
  | [] => by simp
  | x :: r => by rw [List.flatMap_cons, List.length_append, hk, flat_len hk r, List.length_cons, Nat.succ_mul]; omega
section
variable {α : Type} [Inhabited α] {enc : α → List Value} {sz : Nat} {e : TypeId} {w : World}
theorem flatK_get (hk : ∀ x, (enc x).length = sz) {l : List α} {t : Nat} (ht : t < l.length * sz) : (flatK enc sz l.toArray)[t]! = (l.flatMap enc)[t]! := by
  have hpos : 0 < sz := by
    rcases Nat.eq_zero_or_pos sz with h | h
    · rw [h] at ht; simp at ht
    · exact h
  have hd : t / sz < l.length := Nat.div_lt_of_lt_mul (by rw [Nat.mul_comm]; exact ht)
  have hm : t % sz < (enc l[t / sz]).length := by rw [hk]; exact Nat.mod_lt _ hpos
  have h := flat_get hk l (t / sz) l[t / sz] (t % sz) _ (List.getElem?_eq_getElem hd) (List.getElem?_eq_getElem hm)
  have hdm : t / sz * sz + t % sz = t := by rw [Nat.mul_comm]; exact Nat.div_add_mod t sz
  rw [hdm] at h
  rw [get_flatK _ _ _ _ (by simpa using ht), getElem!_pos l.toArray (t / sz) (by simpa using hd)]
  simp only [List.getElem_toArray]
  simp only [List.getElem!_eq_getElem?_getD, h, List.getElem?_eq_getElem hm]
theorem own_holds (hk : ∀ x, (enc x).length = sz) {base g cap : Nat} {l : List α} (h : Own enc sz base e w (.slice (some ⟨g, 0, none⟩) l.length cap) l) : HoldsK enc sz w g 0 l.toArray ∧ g < w.heap.size := by
  obtain ⟨hl, hc⟩ := h
  rcases hc with ⟨hv, _⟩ | ⟨g', cap', cur, hv, hg, hh, hnc, hcm, hcs, htk⟩
  · cases hv
  · obtain ⟨rfl, rfl⟩ : g = g' ∧ cap = cap' := by simpa using hv
    have hlt := (Array.getElem?_eq_some_iff.1 hh).1
    refine ⟨fun j hj => ?_, hlt⟩
    have hj' : j < l.length * sz := by simpa using hj
    refine ⟨?_, by simp [World.frozen?, hh]⟩
    rw [Nat.zero_add, cell_of_row w g j cur e (0, 0) hh, flatK_get hk hj', ← htk]
    have hj2 : j < cur.size := by rw [hcs]; exact Nat.lt_of_lt_of_le hj' (Nat.mul_le_mul_right _ hnc)
    simp [List.getElem!_eq_getElem?_getD, hj', hj2]
theorem own_sorted (hk : ∀ x, (enc x).length = sz) {base g cap : Nat} {l l' : List α} (h : Own enc sz base e w (.slice (some ⟨g, 0, none⟩) l.length cap) l) (hll : l'.length = l.length) (n : Nat) (os : Array Obj) :
    Own enc sz base e (sortWorldK enc sz w g 0 n l'.toArray os) (.slice (some ⟨g, 0, none⟩) l.length cap) l' ∧ w.grownBy (sortWorldK enc sz w g 0 n l'.toArray os) (some g) := by
  obtain ⟨hl, hc⟩ := h
  rcases hc with ⟨hv, _⟩ | ⟨g', cap', cur, hv, hg, hh, hnc, hcm, hcs, htk⟩
  · cases hv
  · obtain ⟨rfl, rfl⟩ : g = g' ∧ cap = cap' := by simpa using hv
    have hlt := (Array.getElem?_eq_some_iff.1 hh).1
    have hheap : ∀ k, k < w.heap.size → (sortWorldK enc sz w g 0 n l'.toArray os).heap[k]? = if g = k then some (.cells (putCells id 0 (flatK enc sz l'.toArray) cur) e (0, 0)) else w.heap[k]? := by
      intro k hk'
      have e1 : (sortWorldK enc sz w g 0 n l'.toArray os).heap[k]? = (mapBlock w g (putCells id 0 (flatK enc sz l'.toArray))).heap[k]? := by
        show (_ ++ os)[k]? = _
        rw [Array.getElem?_append_left (by simpa [putRowK, putRow, mapBlock, Sort.ahead] using hk')]
        rfl
      rw [e1]
      simp only [mapBlock, Array.getElem?_modify]
      by_cases hgk : g = k
      · subst hgk
        simp [hh, onCells]
      · simp [hgk]
    refine ⟨⟨by rw [flat_len hk, hll], .inr ⟨g, cap, putCells id 0 (flatK enc sz l'.toArray) cur, by rw [hll], hg, by rw [hheap g hlt, if_pos rfl], by omega, hcm, by simpa [putCells] using hcs, ?_⟩⟩, ?_⟩
    · apply List.ext_getElem?
      intro t
      rw [List.getElem?_take]
      by_cases ht : t < l'.length * sz
      · have ht2 : t < cur.size := by rw [hcs]; exact Nat.lt_of_lt_of_le ht (Nat.mul_le_mul_right _ (by omega))
        have h3 : t < (l'.flatMap enc).length := by rw [flat_len hk]; exact ht
        have h4 := flatK_get hk ht
        rw [List.getElem!_eq_getElem?_getD, List.getElem?_eq_getElem h3] at h4
        simp only [Option.getD_some] at h4
        rw [if_pos ht, List.getElem?_eq_getElem h3]
        simp only [putCells, Array.toList_mapIdx, List.getElem?_mapIdx, Array.getElem?_toList, Array.getElem?_eq_getElem ht2, Option.map_some, Nat.zero_le, true_and, Nat.zero_add, size_flatK, List.size_toArray, ht, if_true, Nat.sub_zero, id_eq]
        rw [h4]
      · rw [if_neg ht, List.getElem?_eq_none (by rw [flat_len hk]; omega)]
    · refine ⟨rfl, rfl, rfl, ?_, fun k hk' hne => ?_⟩
      · show w.heap.size ≤ (_ ++ os).size
        rw [Array.size_append]
        simp [putRowK, putRow, mapBlock, Sort.ahead]
      · rw [hheap k hk', if_neg (fun e => hne (by rw [e]))]
end

/-! ## the two orders -/
def cfK (a b : Knot) : Int := knotCmp a.1 a.2 b.1 b.2
def cfB (a b : Bar) : Int := barCmpM a.1 a.2.1 a.2.2 b.1 b.2.1 b.2.2
theorem ltK_iff (a b : Knot) : ltOf cfK a b = true ↔ kltP a b := by
  unfold ltOf cfK knotCmp kltP cmpI firstI firstI firstI
  simp only [decide_eq_true_eq]
  repeat' split
  all_goals omega
theorem ltB_iff (a b : Bar) : ltOf cfB a b = true ↔ bltP a b := by
  rw [bltP_iff]
  unfold ltOf cfB barCmpM cmpI firstI firstI firstI firstI
  simp only [decide_eq_true_eq]
  repeat' split
  all_goals omega
theorem bltP_tri {a b : Bar} (h : ¬ bltP a b) (hne : a ≠ b) : bltP b a := by
  rw [bltP_iff] at h ⊢
  have : ¬ (a.1 = b.1 ∧ a.2.1 = b.2.1 ∧ a.2.2 = b.2.2) := fun ⟨h1, h2, h3⟩ => hne (Prod.ext h1 (Prod.ext h2 h3))
  omega
theorem swo_of {α : Type} {lt : α → α → Bool} {R : α → α → Prop} (hi : ∀ a b, lt a b = true ↔ R a b) (irr : ∀ a, ¬ R a a) (tr : ∀ a b c, R a b → R b c → R a c) (tri : ∀ a b, ¬ R a b → a ≠ b → R b a) : SWO lt where
  irrefl x := by
    have := irr x
    rw [← hi] at this
    simpa using this
  trans x y z h1 h2 := (hi _ _).2 (tr _ _ _ ((hi _ _).1 h1) ((hi _ _).1 h2))
  ntrans x y z h1 h2 := by
    have g1 : ¬ R x y := fun h => by rw [(hi _ _).2 h] at h1; cases h1
    have g2 : ¬ R y z := fun h => by rw [(hi _ _).2 h] at h2; cases h2
    have : ¬ R x z := fun h => by
      by_cases e : x = y
      · subst e; exact g2 h
      · by_cases e' : y = z
        · subst e'; exact g1 h
        · have r1 := tri _ _ g1 e
          have r2 := tri _ _ g2 e'
          exact irr x (tr _ _ _ h (tr _ _ _ r2 r1))
    cases hh : lt x z
    · rfl
    · exact absurd ((hi _ _).1 hh) this
theorem swoK : SWO (ltOf cfK) := swo_of ltK_iff kltP_irr kltP_tr fun _ _ => kltP_tri
theorem swoB : SWO (ltOf cfB) := swo_of ltB_iff bltP_irrefl (fun _ _ _ => bltP_trans) fun _ _ => bltP_tri
theorem total_of {α : Type} [DecidableEq α] {lt : α → α → Bool} {R : α → α → Prop} (hi : ∀ a b, lt a b = true ↔ R a b) (tri : ∀ a b, ¬ R a b → a ≠ b → R b a) (x y : α) (h1 : lt x y = false) (h2 : lt y x = false) : x = y := by
  by_cases e : x = y
  · exact e
  · have g1 : ¬ R x y := fun h => by rw [(hi _ _).2 h] at h1; cases h1
    have := (hi _ _).2 (tri _ _ g1 e)
    rw [this] at h2
    cases h2
def srtK (l : List Knot) : List Knot := l.mergeSort fun x y => !(ltOf cfK) y x
def srtB (l : List Bar) : List Bar := l.mergeSort fun x y => !(ltOf cfB) y x
theorem srtK_mem (l : List Knot) (x : Knot) : x ∈ srtK l ↔ x ∈ l := List.mem_mergeSort
theorem srtB_mem (l : List Bar) (x : Bar) : x ∈ srtB l ↔ x ∈ l := List.mem_mergeSort
theorem srtK_length (l : List Knot) : (srtK l).length = l.length := List.length_mergeSort l
theorem srtB_length (l : List Bar) : (srtB l).length = l.length := List.length_mergeSort l
theorem sorted_of {α : Type} {lt : α → α → Bool} {R : α → α → Prop} (hi : ∀ a b, lt a b = true ↔ R a b) (hS : SWO lt) (tri : ∀ a b, ¬ R a b → a ≠ b → R b a) (l : List α) :
    (l.mergeSort fun x y => !lt y x).Pairwise fun a b => a = b ∨ R a b := by
  have h := List.pairwise_mergeSort (le := fun x y => !lt y x) (fun a b c h1 h2 => by
    simp only [Bool.not_eq_eq_eq_not, Bool.not_true] at h1 h2 ⊢
    exact hS.ntrans _ _ _ h2 h1) (fun a b => by
    cases h1 : lt b a
    · simp
    · cases h2 : lt a b
      · simp
      · exact absurd (hS.trans _ _ _ h1 h2) (by rw [hS.irrefl]; simp)) l
  refine h.imp fun {a b} hab => ?_
  have g : ¬ R b a := fun hr => by rw [(hi _ _).2 hr] at hab; simp at hab
  by_cases e : a = b
  · exact .inl e
  · exact .inr (tri _ _ g (Ne.symm e))
theorem srtK_sorted {l : List Knot} (hn : l.Nodup) : (srtK l).Pairwise kltP := by
  have h1 := sorted_of ltK_iff swoK (fun _ _ => kltP_tri) l
  have h2 : (srtK l).Nodup := (List.mergeSort_perm l _).nodup_iff.2 hn
  exact (h1.and h2).imp fun ⟨h, hne⟩ => h.resolve_left hne
theorem srtB_sorted {l : List Bar} (hn : l.Nodup) : (srtB l).Pairwise bltP := by
  have h1 := sorted_of ltB_iff swoB (fun _ _ => bltP_tri) l
  have h2 : (srtB l).Nodup := (List.mergeSort_perm l _).nodup_iff.2 hn
  exact (h1.and h2).imp fun ⟨h, hne⟩ => h.resolve_left hne
theorem srtB_weak (l : List Bar) : (srtB l).Pairwise fun a b => a = b ∨ bltP a b := sorted_of ltB_iff swoB (fun _ _ => bltP_tri) l

theorem kcmpLays (blk off size : Nat) (w : World) : CmpLays Try.prog 48 #[] kc 2 cfK blk off size w := fun m os dk _ x y =>
  (kcmp_ex x.1 x.2 y.1 y.2 (sortWorldK kc 2 w blk off m dk os)).mono fun _ _ ⟨he, q, os', hw⟩ => ⟨he, q, os', hw⟩
theorem bcmpLays (blk off size : Nat) (w : World) : CmpLays Try.prog 44 #[] bc 3 cfB blk off size w := fun m os dk _ x y =>
  (bcmp_ex x.1 x.2.1 x.2.2 y.1 y.2.1 y.2.2 (sortWorldK bc 3 w blk off m dk os)).mono fun _ _ ⟨he, q, os', hw⟩ => ⟨he, q, os', hw⟩

theorem sortK_any {v : Value} {base : Nat} (l : List Knot) (w : World) (h : OwK base w v l) (hlen : l.length ≤ 1000000) :
    Calls Try.prog 47 #[v, .func (.func 48) #[] #[]] w fun e w' => e = .returned (.tuple #[]) ∧ OwK base w' v (srtK l) ∧ w.grownBy w' v.ownBlock := by
  rcases h.2 with ⟨rfl, hn⟩ | ⟨g, cap, cur, rfl, _⟩
  · obtain rfl : l = [] := List.eq_nil_of_length_eq_zero hn
    exact (AnyF.slices_SortFunc_none lay_sortK none 0 _ w).mono fun e w' ⟨he, hw⟩ => ⟨he, by subst hw; simpa [srtK] using h, by subst hw; exact World.grownBy.refl _ _⟩
  · obtain ⟨hH, hg⟩ := own_holds kc_len h
    have hcon := AnyQ.slices_SortFunc_total lay_sortK 2 Try.isAgg30 Try.sizeOf30 kc kc_len (fun x u hu => kc_one x u hu) cfK swoK 48 #[] g 0 cap l.toArray w
      (enters_of Try.func48 (by kernel_rfl) rfl) (kcmpLays g 0 _ w) hH hg (by simp; omega) (total_of ltK_iff fun _ _ => kltP_tri)
    refine Calls.mono (R := fun e w' => e = .returned (.tuple #[]) ∧ ∃ n os, w' = sortWorldK kc 2 w g 0 n (srtK l).toArray os) ?_ ?_
    · exact hcon
    · rintro e w' ⟨he, n, os, rfl⟩
      obtain ⟨h1, h2⟩ := own_sorted kc_len h (srtK_length l) n os
      exact ⟨he, h1, h2⟩
theorem sortB_any {v : Value} {base : Nat} (l : List Bar) (w : World) (h : OwB base w v l) (hlen : l.length ≤ 1000000) :
    Calls Try.prog 60 #[v, .func (.func 44) #[] #[]] w fun e w' => e = .returned (.tuple #[]) ∧ OwB base w' v (srtB l) ∧ w.grownBy w' v.ownBlock := by
  rcases h.2 with ⟨rfl, hn⟩ | ⟨g, cap, cur, rfl, _⟩
  · obtain rfl : l = [] := List.eq_nil_of_length_eq_zero hn
    exact (AnyF.slices_SortFunc_none lay_sortB none 0 _ w).mono fun e w' ⟨he, hw⟩ => ⟨he, by subst hw; simpa [srtB] using h, by subst hw; exact World.grownBy.refl _ _⟩
  · obtain ⟨hH, hg⟩ := own_holds bc_len h
    have hcon := AnyQ.slices_SortFunc_total lay_sortB 3 Try.isAgg50 Try.sizeOf50 bc bc_len (fun x u hu => bc_one x u hu) cfB swoB 44 #[] g 0 cap l.toArray w
      (enters_of Try.func44 (by kernel_rfl) rfl) (bcmpLays g 0 _ w) hH hg (by simp; omega) (total_of ltB_iff fun _ _ => bltP_tri)
    refine Calls.mono (R := fun e w' => e = .returned (.tuple #[]) ∧ ∃ n os, w' = sortWorldK bc 3 w g 0 n (srtB l).toArray os) ?_ ?_
    · exact hcon
    · rintro e w' ⟨he, n, os, rfl⟩
      obtain ⟨h1, h2⟩ := own_sorted bc_len h (srtB_length l) n os
      exact ⟨he, h1, h2⟩
end Go.Proofs.Ytpoaomdpcoaolaa

/- The reference's lists of bars: has, unknown, without, the same, walked. Conditions: the slices read as lists. -/
namespace Go.Proofs.Ytpoaomdpcoaolaa
open Go.RowKit
set_option maxHeartbeats 2000000
set_option maxRecDepth 100000

/-- a bar is in a list -/
def hasb (l : List Bar) (b : Bar) : Bool := decide (b ∈ l)
theorem hasb_nil (b : Bar) : hasb [] b = false := by simp [hasb]
theorem hasb_drop {l : List Bar} {k : Nat} (hk : k < l.length) (b : Bar) : hasb (l.drop k) b = (beqB l[k].1 l[k].2.1 l[k].2.2 b.1 b.2.1 b.2.2 || hasb (l.drop (k + 1)) b) := by
  rw [List.drop_eq_getElem_cons hk]
  unfold hasb
  rw [Bool.eq_iff_iff, Bool.or_eq_true, decide_eq_true_eq, decide_eq_true_eq, List.mem_cons, beqB_true]
  constructor
  · rintro (h | h)
    · exact .inl h.symm
    · exact .inr h
  · rintro (h | h)
    · exact .inl h.symm
    · exact .inr h

end Go.Proofs.Ytpoaomdpcoaolaa

/- A region that draws its order and turns one map: what it reads holds while the map is turned. Conditions: the Bool 'ordB' over the region; the reads hold in every world of the class. -/
import Derived.Test.YtmjfkgbbhplhcaaGreatDoorG02
import Derived.Test.YtmjfkgbbhplhcaaGreatDoorG04
import Derived.Test.YtmjfkgbbhplhcaaGreatDoorG08
import Derived.Deep.CutRange
namespace Go.Proofs.YtmjfkgbbhplhcaaGreatDoor
open Go.RowKit Go.ChangeMaps

/-- A world that is as w was below block B, and of which p holds. -/
def BelM (B : Nat) (w : World) (p : World → Prop) : Type := { x : World // Below B w x ∧ p x }
section
variable {B : Nat} {w w' : World} {p : World → Prop}
def BelM.val (g : BelM B w p) : World := g.1
theorem BelM.below (g : BelM B w p) : Below B w g.val := g.2.1
theorem BelM.has (g : BelM B w p) : p g.val := g.2.2
@[go_sem] theorem BelM.cellAt (g : BelM B w p) (b o : Nat) (h : b < B) : g.val.cell? ⟨b, o, none⟩ = w.cell? ⟨b, o, none⟩ := g.2.1.cell (p := ⟨b, o, none⟩) h
@[go_sem] theorem BelM.frozenAt (g : BelM B w p) (b o : Nat) (h : b < B) : g.val.frozen? ⟨b, o, none⟩ = w.frozen? ⟨b, o, none⟩ := g.2.1.frozen (p := ⟨b, o, none⟩) h
theorem BelM.ex (h : Below B w w') (hp : p w') : ∃ g : BelM B w p, w' = g.val := ⟨⟨w', h, hp⟩, rfl⟩
theorem BelM.none_empty (h : Below B w w') (hp : p w') : Nonempty (BelM B w p) := ⟨⟨w', h, hp⟩⟩
theorem bl_setBlock {a : World} {r : Nat} {o : Obj} (h : Below B a w) (hr : B ≤ r) : Below B a (setBlock w r o) :=
  h.trans ⟨rfl, rfl, rfl, by simp [setBlock], fun k hk => by
    show (w.heap.setIfInBounds r o)[k]? = _
    rw [Array.getElem?_setIfInBounds_ne (by omega)]⟩
end

section
variable {P : Program} {ops : Array Oper} {Q : Exit → Act → World → Prop} {C : World → Prop}
theorem wp_region_ordm {id : Nat} {a : Act} {w : World} {l : List Oper} (B : Nat) (p : World → Prop) (pre : List Nat) (mid : List (Nat × Bool)) (post : List Nat) (hm : P.follows .mixedOrders = true) (hB : ordB .any l.toArray pre mid post = true)
    (hQ : ∀ d c a v w, Q (.panic c) (Act.put a d v) w → Q (.panic c) a w) (hp : p w.drew)
    (h : wpQuiet P l.toArray (fun w' => ∃ g : BelM B w p, w' = g.val) (fun a' => wpMid P l.toArray Q (fun w' => ∃ g : BelM B w p, w' = g.val) (post.map fun i => l.getD i default) (mid.map fun i => (l.getD i.1 default, i.2)) a' w.drew) (pre.map fun i => l.getD i default) a) :
    (Code.region id l.toArray true).wp P Q a w := by
  simp only [ordB, Bool.and_eq_true, decide_eq_true_eq] at hB
  obtain ⟨⟨hs, hn⟩, hB'⟩ := hB
  refine wp_region_any hm (wpAny_of_G (C := fun w' => ∃ g : BelM B w p, w' = g.val) (kp := fun j => !post.contains j) _ _ _ _ ?_)
  rw [hn, Nat.add_assoc]
  refine wpAnyG_pre hs hQ (BelM.ex (Below.refl B w).drew hp) pre _ a (Closed.start _) (by simpa [hn, Nat.add_assoc] using hB') ?_
  have e : ∀ (xs : List Nat), (xs.map fun i => l.toArray.getD i default) = xs.map fun i => l.getD i default := fun xs => List.map_congr_left fun i _ => by simp [Array.getD_eq_getD_getElem?, List.getD_eq_getElem?_getD]
  have e2 : (mid.map fun i => (l.toArray.getD i.1 default, i.2)) = mid.map fun i => (l.getD i.1 default, i.2) := List.map_congr_left fun i _ => by simp [Array.getD_eq_getD_getElem?, List.getD_eq_getElem?_getD]
  rw [e, e, e2]
  exact h
unseal wpMid in
/-- an operation that is carried out; behind it the class is shown again -/
theorem wpMid_runm {B : Nat} {p : World → Prop} {w0 : World} {post : List Oper} {o : Oper} {r : List (Oper × Bool)} {a : Act} {w : World} (hw : Region.wanted o (yielded ops a.tmps) = true)
    (h : ∀ K : Act → World → Prop, (∀ a w', Below B w0 w' → p w' → wpMid P ops Q (fun w' => ∃ g : BelM B w0 p, w' = g.val) post r a w' → K a w') → o.wp P a w K Q) :
    wpMid P ops Q (fun w' => ∃ g : BelM B w0 p, w' = g.val) post ((o, false) :: r) a w := by
  have := h (fun a w' => (∃ g : BelM B w0 p, w' = g.val) ∧ wpMid P ops Q (fun w' => ∃ g : BelM B w0 p, w' = g.val) post r a w') (fun a w h1 h2 h3 => ⟨BelM.ex h1 h2, h3⟩)
  simp only [wpMid, Bool.false_eq_true, if_false, hw, if_true]
  exact this
end

section
variable {κ : Type} [DecidableEq κ]
variable {ek : κ → Value} {w : World} {r : Nat} {m : List (κ × Nat × Nat)} {c : Nat} {P : Program} {k e t : TypeId}
/-- how a count lies in a map -/
def cntV (n : Nat) : Value := .int .i64 (n : Int)
/-- 'm[k]++', its operations apart -/
theorem MapAt.incr (h : MapAt ek cntV w r m c) (ok : MOk m c) (K : KeyLaw P k ek) (ht : P.underlying t = some (.map k e)) (hz : ∀ u : World, (zeroValue e).run P u = .ok (.int .i64 0) u) (a : κ) {v0 : Nat} (hv : (mget a m).getD 0 = v0) :
    ∃ (w1 w2 : World) (sm c2 : Nat), (Instr.mapEntry t (.map (some r)) (ek a)).run P w = .ok (.tuple #[.int .i64 (v0 : Int), .int .i64 (sm : Int)]) w1 ∧
      (Instr.lookup t (.map (some r)) (ek a) false).run P w = .ok (.int .i64 (v0 : Int)) w ∧ (Instr.lookup t (.map (some r)) (ek a) false).run P w1 = .ok (.int .i64 (v0 : Int)) w1 ∧
      (Instr.entryStore t (.map (some r)) (.int .i64 (sm : Int)) (.int .i64 ((v0 + 1 : Nat) : Int))).run P w1 = .ok () w2 ∧
      MapAt ek cntV w2 r (mput a (v0 + 1) c m) c2 ∧ MOk (mput a (v0 + 1) c m) c2 ∧ (∀ B, B ≤ r → Below B w w1) ∧ (∀ B, B ≤ r → Below B w w2) := by
  have hlt := h.lt
  have e1 := h.entry K ht (z := 0) (hz w) a
  rw [hv] at e1
  have h1 : MapAt ek cntV (setBlock w r (.map ((mput a v0 c m).map (ment ek cntV)).toArray (mclk a m c))) r (mput a v0 c m) (mclk a m c) := by
    show (w.heap.setIfInBounds r _)[r]? = _
    rw [Array.getElem?_setIfInBounds_self_of_lt hlt]
  have ok1 := ok.put a v0
  have e2 := h.look K ht (hz w) a
  have e3 := h1.look K ht (hz _) a
  have e4 := h1.estore (t := t) ok1 a (mput_mem a v0 c m) (v0 + 1) (P := P)
  rw [mput_put, mstamp_put] at e4
  have h2 : MapAt ek cntV (setBlock (setBlock w r (.map ((mput a v0 c m).map (ment ek cntV)).toArray (mclk a m c))) r (.map ((mput a (v0 + 1) c m).map (ment ek cntV)).toArray (mclk a m c))) r (mput a (v0 + 1) c m) (mclk a m c) := by
    show ((w.heap.setIfInBounds r _).setIfInBounds r _)[r]? = _
    rw [Array.getElem?_setIfInBounds_self_of_lt (by simp; exact hlt)]
  refine ⟨_, _, mstamp a m c, mclk a m c, ?_, ?_, ?_, e4, h2, ok.put a (v0 + 1), fun B hB => bl_setBlock (Below.refl _ _) hB, fun B hB => bl_setBlock (bl_setBlock (Below.refl _ _) hB) hB⟩
  · exact e1
  · rw [e2]
    cases hm : mget a m with
    | none => rw [hm] at hv; obtain rfl : 0 = v0 := hv; rfl
    | some q => rw [hm] at hv; obtain rfl : q = v0 := hv; rfl
  · rw [e3, mget_put, if_pos rfl]; rfl
end
end Go.Proofs.YtmjfkgbbhplhcaaGreatDoor

/- Bars put into a list in their order, each once; the reference's lists sorted, walked. Conditions: the slices read as lists. -/
namespace Go.Proofs.YtmjfkgbbhplhcaaGreatDoor
open Go.RowKit Go.ChangeMaps
set_option maxHeartbeats 4000000
set_option maxRecDepth 100000

section
variable {α : Type} {enc : α → List Value} {sz bytes : Nat} {P : Program} {t e : TypeId} {w : World}
theorem op_app {o : Oper} {a : Act} {K : Act → World → Prop} {Q : Exit → Act → World → Prop} (E : Elem P t e sz bytes) (henc : ∀ x, (enc x).length = sz) (hone : ∀ x, ∀ u ∈ enc x, u.oneCell' = true) (s x : Operand)
    (ho : o.op = .call { callee := .builtin .append, args := #[s, x], argTypes := #[t, t] }) (base : Nat) (v u : Value) (l r : List α) (hs : a.eval s = v) (hx : a.eval x = u) (hown : Own enc sz base e w v l) (hu : Sl enc sz w u r)
    (h63 : l.length + r.length ≤ maxLen) (hb : (l.length + r.length) * bytes ≤ 140737488355328) (hbase : base ≤ w.heap.size)
    (h : ∀ v' w', Own enc sz base e w' v' (l ++ r) → w.grownBy w' v.ownBlock → K (a.put o.dst v') w') : o.wp P a w K Q := by
  obtain ⟨v', w', hr, h2, h3⟩ := run_app E henc hone base o.type v u l r hown hu h63 hb hbase
  unfold Oper.wp
  simp [execOp, ho, resolve, invoke, builtin, hs, hx, hr, Result.andThen]
  exact h v' w' h2 h3
end
theorem opB_app {o : Oper} {a : Act} {K : Act → World → Prop} {Q : Exit → Act → World → Prop} {w : World} {base : Nat} {v u : Value} {l r : List Bar} (hown : OwB base w v l) (hu : SlB w u r) (s x : Operand)
    (ho : o.op = .call { callee := .builtin .append, args := #[s, x], argTypes := #[57, 57] }) (hs : a.eval s = v) (hx : a.eval x = u) (hlen : l.length + r.length ≤ 1000000) (hbase : base ≤ w.heap.size)
    (h : ∀ v' w', OwB base w' v' (l ++ r) → w.grownBy w' v.ownBlock → K (a.put o.dst v') w') : o.wp Tryz.prog a w K Q :=
  op_app bar_elem bc_len bc_one s x ho base v u l r hs hx hown hu (by simp [maxLen]; omega) (by omega) hbase h
theorem opK_app {o : Oper} {a : Act} {K : Act → World → Prop} {Q : Exit → Act → World → Prop} {w : World} {base : Nat} {v u : Value} {l r : List Knot} (hown : OwK base w v l) (hu : SlK w u r) (s x : Operand)
    (ho : o.op = .call { callee := .builtin .append, args := #[s, x], argTypes := #[48, 48] }) (hs : a.eval s = v) (hx : a.eval x = u) (hlen : l.length + r.length ≤ 1000000) (hbase : base ≤ w.heap.size)
    (h : ∀ v' w', OwK base w' v' (l ++ r) → w.grownBy w' v.ownBlock → K (a.put o.dst v') w') : o.wp Tryz.prog a w K Q :=
  op_app knot_elem kc_len kc_one s x ho base v u l r hs hx hown hu (by simp [maxLen]; omega) (by omega) hbase h

theorem Blk.one_bar {w : World} {g : Nat} {x y s : Int} (h : Blk w g 81 #[.int .i64 x, .int .i64 y, .int .i64 s]) : SlB w (.slice (some ⟨g, 0, none⟩) 1 1) [(x, y, s)] := by
  refine ⟨_, 1, rfl, by simp, by simp [maxLen], fun i b hb => ?_⟩
  match i, hb with
  | 0, hb =>
    obtain rfl : (x, y, s) = b := by simpa using hb
    refine ⟨_, 0, rfl, h.lt, fun j u hj => ?_⟩
    rw [h.cell]
    simpa [bc] using hj
theorem Blk.one_knot {w : World} {g : Nat} {x y : Int} (h : Blk w g 64 #[.int .i64 x, .int .i64 y]) : SlK w (.slice (some ⟨g, 0, none⟩) 1 1) [(x, y)] := by
  refine ⟨_, 1, rfl, by simp, by simp [maxLen], fun i b hb => ?_⟩
  match i, hb with
  | 0, hb =>
    obtain rfl : (x, y) = b := by simpa using hb
    refine ⟨_, 0, rfl, h.lt, fun j u hj => ?_⟩
    rw [h.cell]
    simpa [kc] using hj
section
variable {α : Type} {enc : α → List Value} {sz n c : Nat} {w : World} {A : Option Addr} {l : List α}
theorem sl_pre (h : Rd enc sz w A l) {k : Nat} (hk : k ≤ l.length) (hkc : k ≤ c) (hc : c ≤ maxLen) : Sl enc sz w (.slice A k c) (l.take k) :=
  ⟨A, c, by rw [List.length_take, Nat.min_eq_left hk], by rw [List.length_take, Nat.min_eq_left hk]; exact hkc, hc, fun i x hx => h i x (by
    rw [List.getElem?_take] at hx
    split at hx
    · exact hx
    · cases hx)⟩
theorem sl_post (h : Rd enc sz w A l) (hlc : l.length ≤ c) {k : Nat} (hk : k ≤ l.length) (hc : c ≤ maxLen) : Sl enc sz w (.slice (if c = k then A else Option.map (fun x => x.add (k * sz)) A) (l.length - k) (c - k)) (l.drop k) := by
  refine ⟨_, _, by rw [List.length_drop], by rw [List.length_drop]; omega, by omega, fun i x hx => ?_⟩
  rw [List.getElem?_drop] at hx
  have hlt := (List.getElem?_eq_some_iff.1 hx).1
  obtain ⟨b, off, rfl, hb, hc2⟩ := h (k + i) x hx
  rw [if_neg (by omega)]
  refine ⟨b, off + k * sz, ?_, hb, fun j u hu => ?_⟩
  · simp only [Option.map_some, Addr.add]
    split
    · rename_i h0; rw [h0, Nat.add_zero]
    · rfl
  · have := hc2 j u hu
    rwa [show off + (k + i) * sz + j = off + k * sz + i * sz + j by rw [Nat.add_mul]; omega] at this
theorem sl_postS {b off : Nat} (h : Rd enc sz w (some ⟨b, off, none⟩) l) (hlc : l.length ≤ c) {k : Nat} (hc : c ≤ maxLen) : Sl enc sz w (.slice (some ⟨b, off + k * sz, none⟩) (l.length - k) (c - k)) (l.drop k) := by
  refine ⟨_, _, by rw [List.length_drop], by rw [List.length_drop]; omega, by omega, fun i x hx => ?_⟩
  rw [List.getElem?_drop] at hx
  obtain ⟨b', off', e', hb, hc2⟩ := h (k + i) x hx
  obtain ⟨rfl, rfl⟩ : b = b' ∧ off = off' := by simpa using e'
  refine ⟨b, off + k * sz, rfl, hb, fun j u hu => ?_⟩
  have := hc2 j u hu
  rwa [show off + (k + i) * sz + j = off + k * sz + i * sz + j by rw [Nat.add_mul]; omega] at this
end

section
variable {ops : Array Oper} {rest : List Oper} {o : Oper} {a : Act} {Q : Exit → Act → World → Prop} {base : Nat} {W : World} {v : Value} {X Y S : Int}
/-- the appends of one element, the place of its block told otherwise -/
theorem wpList_appB1 {l : List Bar} (hown : OwB base W v l) {g : Nat} (hgd : o.guard = none) (s x : Operand) (ho : o.op = .call { callee := .builtin .append, args := #[s, x], argTypes := #[57, 57] })
    (hs : a.eval s = v) (hx : a.eval x = .slice (some ⟨g, 0, none⟩) 1 1) (hg : W.heap.size = g) (hlen : l.length ≤ 1000000) (hbase : base ≤ W.heap.size)
    (h : ∀ v' w', OwB base w' v' (l ++ [(X, Y, S)]) → (W.alloc (.cells #[.int .i64 X, .int .i64 Y, .int .i64 S] 81)).grownBy w' v.ownBlock → wpList Tryz.prog ops Q rest (a.put o.dst v') w') :
    wpList Tryz.prog ops Q (o :: rest) a (W.alloc (.cells #[.int .i64 X, .int .i64 Y, .int .i64 S] 81)) := by
  subst hg
  exact wpList_appB hown hgd s x ho hs hx hlen hbase h
theorem wpList_appK1 {l : List Knot} (hown : OwK base W v l) {g : Nat} (hgd : o.guard = none) (s x : Operand) (ho : o.op = .call { callee := .builtin .append, args := #[s, x], argTypes := #[48, 48] })
    (hs : a.eval s = v) (hx : a.eval x = .slice (some ⟨g, 0, none⟩) 1 1) (hg : W.heap.size = g) (hlen : l.length ≤ 1000000) (hbase : base ≤ W.heap.size)
    (h : ∀ v' w', OwK base w' v' (l ++ [(X, Y)]) → (W.alloc (.cells #[.int .i64 X, .int .i64 Y] 64)).grownBy w' v.ownBlock → wpList Tryz.prog ops Q rest (a.put o.dst v') w') :
    wpList Tryz.prog ops Q (o :: rest) a (W.alloc (.cells #[.int .i64 X, .int .i64 Y] 64)) := by
  subst hg
  exact wpList_appK hown hgd s x ho hs hx hlen hbase h
end
theorem insK_len (k : Knot) : ∀ l : List Knot, (insK l k).length ≤ l.length + 1
  | [] => by simp [insK]
  | x :: r => by
    unfold insK
    have := insK_len k r
    split
    · simp only [List.length_cons]; omega
    · split <;> simp
theorem insK_drop {l : List Knot} {e : Knot} {k : Nat} (hk : k < l.length) : insK (l.drop k) e = if kltP l[k] e then l[k] :: insK (l.drop (k + 1)) e else if l[k] = e then l.drop k else e :: l.drop k := by
  rw [List.drop_eq_getElem_cons hk, insK]
/-- a bar put into a list in its place, once -/
def insU : List Bar → Bar → List Bar
  | [], k => [k]
  | x :: r, k => if bltP x k then x :: insU r k else if x = k then x :: r else k :: x :: r
theorem bltP_tr (a b c : Bar) (h : bltP a b) (h' : bltP b c) : bltP a c := bltP_trans h h'
theorem insU_mem (k y : Bar) : ∀ l, y ∈ insU l k ↔ y = k ∨ y ∈ l
  | [] => by simp [insU]
  | x :: r => by
    unfold insU
    split
    · rw [List.mem_cons, insU_mem k y r, List.mem_cons]
      constructor
      · rintro (h | h | h) <;> simp [h]
      · rintro (h | h | h) <;> simp [h]
    · split
      · rename_i h
        subst h
        simp
      · simp
theorem insU_sorted (k : Bar) : ∀ {l : List Bar}, l.Pairwise bltP → (insU l k).Pairwise bltP
  | [], _ => by simp [insU]
  | x :: r, h => by
    obtain ⟨h1, h2⟩ := List.pairwise_cons.1 h
    unfold insU
    split
    · rename_i hx
      refine List.pairwise_cons.2 ⟨fun y hy => ?_, insU_sorted k h2⟩
      rcases (insU_mem k y r).1 hy with rfl | hy
      · exact hx
      · exact h1 y hy
    · rename_i hx
      split
      · exact h
      · rename_i hne
        refine List.pairwise_cons.2 ⟨fun y hy => ?_, h⟩
        have := bltP_tri hx hne
        rcases List.mem_cons.1 hy with rfl | hy
        · exact this
        · exact bltP_tr _ _ _ this (h1 y hy)
theorem insU_len (k : Bar) : ∀ l : List Bar, (insU l k).length ≤ l.length + 1
  | [] => by simp [insU]
  | x :: r => by
    unfold insU
    have := insU_len k r
    split
    · simp only [List.length_cons]; omega
    · split <;> simp
theorem insU_drop {l : List Bar} {e : Bar} {k : Nat} (hk : k < l.length) : insU (l.drop k) e = if bltP l[k] e then l[k] :: insU (l.drop (k + 1)) e else if l[k] = e then l.drop k else e :: l.drop k := by
  rw [List.drop_eq_getElem_cons hk, insU]
/-- bars in their order, each once -/
def setIn (o l : List Bar) : List Bar := l.foldl insU o
def setB (l : List Bar) : List Bar := setIn [] l
theorem setIn_mem (k : Bar) : ∀ (l o : List Bar), k ∈ setIn o l ↔ k ∈ o ∨ k ∈ l
  | [], o => by simp [setIn]
  | b :: l, o => by
    show k ∈ setIn (insU o b) l ↔ _
    rw [setIn_mem k l, insU_mem, List.mem_cons]
    constructor
    · rintro ((h | h) | h)
      · exact .inr (.inl h)
      · exact .inl h
      · exact .inr (.inr h)
    · rintro (h | h | h)
      · exact .inl (.inr h)
      · exact .inl (.inl h)
      · exact .inr h
theorem setIn_sorted : ∀ (l o : List Bar), o.Pairwise bltP → (setIn o l).Pairwise bltP
  | [], _, h => h
  | _ :: l, _, h => setIn_sorted l _ (insU_sorted _ h)
theorem setIn_len : ∀ (l o : List Bar), (setIn o l).length ≤ o.length + l.length
  | [], o => by simp [setIn]
  | b :: l, o => by
    have h := setIn_len l (insU o b)
    have h1 := insU_len b o
    show (setIn (insU o b) l).length ≤ _
    simp only [List.length_cons]
    omega
theorem setIn_take {l o : List Bar} {i : Nat} (hi : i < l.length) : setIn o (l.take (i + 1)) = insU (setIn o (l.take i)) l[i] := by
  unfold setIn
  rw [List.take_succ_eq_append_getElem hi, List.foldl_append]; rfl
theorem setB_mem (l : List Bar) (x : Bar) : x ∈ setB l ↔ x ∈ l := by unfold setB; rw [setIn_mem]; simp
theorem setB_sorted (l : List Bar) : (setB l).Pairwise bltP := setIn_sorted l [] List.Pairwise.nil
theorem setB_len (l : List Bar) : (setB l).length ≤ l.length := by have := setIn_len l []; simpa [setB] using this
theorem setB_of_sorted {l : List Bar} (h : l.Pairwise bltP) : setB l = l := sortedB_eq (setB_sorted l) h (setB_mem l)
theorem setB_srt {l : List Bar} (hn : l.Nodup) : setB l = srtB l := sortedB_eq (setB_sorted l) (srtB_sorted hn) fun x => by rw [setB_mem, srtB_mem]

end Go.Proofs.YtmjfkgbbhplhcaaGreatDoor

/- Equal neighbours in a row of knots taken away, walked. Conditions: a row of the call's own. -/
namespace Go.Proofs.YtmjfkgbbhplhcaaGreatDoor
open Go.RowKit Go.ChangeMaps
set_option maxHeartbeats 4000000
set_option maxRecDepth 100000

/-! ## a knot stored into a row of the call's own -/
theorem flat_set2 (x y : Int) : ∀ (l : List Knot) (i : Nat), i < l.length → ((l.flatMap kc).set (i * 2) (.int .i64 x)).set (i * 2 + 1) (.int .i64 y) = (l.set i (x, y)).flatMap kc
  | [], i, h => by simp at h
  | b :: r, 0, _ => by simp [kc]
  | b :: r, i + 1, h => by
    have ih := flat_set2 x y r i (by simpa using h)
    have e0 : (i + 1) * 2 = i * 2 + 2 := by omega
    have e1 : (i + 1) * 2 + 1 = i * 2 + 1 + 2 := by omega
    rw [e1, e0, List.flatMap_cons, List.set_cons_succ, List.flatMap_cons, ← ih]
    simp only [kc, List.cons_append, List.nil_append, List.set_cons_succ]
theorem flatK_take : ∀ (l : List Knot) (k : Nat), (l.flatMap kc).take (k * 2) = (l.take k).flatMap kc
  | _, 0 => by simp
  | [], k + 1 => by simp
  | b :: r, k + 1 => by
    have ih := flatK_take r k
    rw [show (k + 1) * 2 = k * 2 + 1 + 1 by omega, List.flatMap_cons, List.take_succ_cons, List.flatMap_cons, ← ih]
    simp [kc]
section
variable {P : Program} {w : World} {base g cap : Nat} {l : List Knot}
theorem ownK_set {e : TypeId} (h : Own kc 2 base e w (.slice (some ⟨g, 0, none⟩) l.length cap) l) {i : Nat} (hi : i < l.length) (x y : Int) :
    Own kc 2 base e (w.setCells g (i * 2) [.int .i64 x, .int .i64 y]) (.slice (some ⟨g, 0, none⟩) l.length cap) (l.set i (x, y)) ∧ w.grownBy (w.setCells g (i * 2) [.int .i64 x, .int .i64 y]) (some g) := by
  obtain ⟨h1, g1⟩ := World.ownsRow.stored h (i * 2) (.int .i64 x)
  obtain ⟨h2, g2⟩ := World.ownsRow.stored h1 (i * 2 + 1) (.int .i64 y)
  rw [flat_set2 x y l i hi] at h2
  refine ⟨?_, g1.trans g2⟩
  unfold Own
  rw [List.length_set]
  exact h2
theorem ownK_there {e : TypeId} (h : Own kc 2 base e w (.slice (some ⟨g, 0, none⟩) l.length cap) l) {i : Nat} (hi : i < l.length) : w.there g (i * 2) 2 := by
  obtain ⟨hl, hc⟩ := h
  rcases hc with ⟨hv, _⟩ | ⟨g', cap', cur, hv, hg, hh, hnc, hcm, hcs, htk⟩
  · cases hv
  · obtain ⟨rfl, rfl⟩ : g = g' ∧ cap = cap' := by simpa using hv
    intro j hj
    refine ⟨?_, by simp [World.frozen?, hh]⟩
    have : i * 2 + j < cur.size := by rw [hcs]; omega
    simp [World.cell?, hh, this]
end
theorem wpList_store_ownK {ops : Array Oper} {rest : List Oper} {op : Oper} {a : Act} {Q : Exit → Act → World → Prop} {w : World} {base g cap n : Nat} {l : List Knot} (h : OwK base w (.slice (some ⟨g, 0, none⟩) n cap) l) (hn : l.length = n) {i : Nat} (hi : i < n) (hgd : op.guard = none) (x y : Operand) (ho : op.op = .store 64 x y)
    {p q : Int} (hx : a.eval x = .pointer (some ⟨g, i * 2, none⟩)) (hy : a.eval y = .agg #[.int .i64 p, .int .i64 q])
    (hK : ∀ W', OwK base W' (.slice (some ⟨g, 0, none⟩) n cap) (l.set i (p, q)) → w.grownBy W' (some g) → wpList Tryz.prog ops Q rest (a.put op.dst undef) W') : wpList Tryz.prog ops Q (op :: rest) a w := by
  subst hn
  refine wpList_plain hgd fun K hK' => ?_
  obtain ⟨h1, h2⟩ := ownK_set h hi p q
  have hr := run_storeVar_mid (P := Tryz.prog) w g (i * 2) 64 #[.int .i64 p, .int .i64 q] (ownK_there h hi) (by kernel_rfl) (by kernel_rfl)
  unfold Oper.wp execOp
  simp only [ho, hx, hy, Instr.storeAt, Instr.sureAddr, Sem.run_bind, Sem.run_pure, Result.andThen_ok, hr]
  exact hK' _ _ (hK _ h1 h2)
/-- the cells behind a place are cleared; what stands ahead of it stays -/
theorem run_clrK {w : World} {base g cap n : Nat} {l : List Knot} (h : OwK base w (.slice (some ⟨g, 0, none⟩) n cap) l) (hn : l.length = n) (k m c : Nat) (hk : k + m = n) (hm : 0 < m) (ty : TypeId) :
    ∃ W', (Builtin.clear_ #[48] ty #[.slice (some ⟨g, k * 2, none⟩) m c]).run Tryz.prog w = .ok (.tuple #[]) W' ∧ w.grownBy W' (some g) ∧ OwK base W' (.slice (some ⟨g, 0, none⟩) k cap) (l.take k) := by
  subst hn
  obtain ⟨hl, hc⟩ := h
  rcases hc with ⟨hv, _⟩ | ⟨g', cap', cur, hv, hg, hh, hnc, hcm, hcs, htk⟩
  · cases hv
  · obtain ⟨rfl, rfl⟩ : g = g' ∧ cap = cap' := by simpa using hv
    have hz : (zeroValue 64).run Tryz.prog w = .ok (.agg #[.int .i64 0, .int .i64 0]) w := by kernel_rfl
    have hsz : (Builtin.zeroCells (Value.agg #[.int .i64 0, .int .i64 0]).cells m).toList.length = m * 2 := by simp [Builtin.zeroCells, Value.cells]
    have h1 : ∀ v ∈ (Builtin.zeroCells (Value.agg #[.int .i64 0, .int .i64 0]).cells m).toList, v.oneCell' = true := by
      intro v hv
      simp only [Builtin.zeroCells, Value.cells, Array.toList_map, List.mem_map] at hv
      obtain ⟨i, _, rfl⟩ := hv
      have : i % 2 < 2 := Nat.mod_lt _ (by decide)
      show (#[Value.int .i64 0, Value.int .i64 0][i % 2]!).oneCell' = true
      match i % 2, this with
      | 0, _ => rfl
      | 1, _ => rfl
    obtain ⟨m, rfl⟩ : ∃ m', m = m' + 1 := ⟨m - 1, by omega⟩
    obtain ⟨zs, hzs⟩ : ∃ zs, (Builtin.zeroCells (Value.agg #[.int .i64 0, .int .i64 0]).cells (m + 1)).toList = zs := ⟨_, rfl⟩
    rw [hzs] at hsz h1
    obtain ⟨cs, hce, hst⟩ : ∃ cs, cs = (cur.toList.take (k * 2 + 0) ++ zs ++ cur.toList.drop (k * 2 + 0 + zs.length)).toArray ∧ (storeCells ⟨g, k * 2, none⟩ zs 0).run Tryz.prog w = .ok () (w.setRow g cs) :=
      ⟨_, rfl, run_storeCells_at Tryz.prog g (k * 2) 64 _ 0 cur w hh (by rw [hsz, hcs]; omega) h1⟩
    refine ⟨w.setRow g cs, ?_, ⟨rfl, rfl, rfl, by simp [World.setRow], fun k hk hne => setRow_other w g k _ (fun e => hne (by simp [e]))⟩, ?_⟩
    · unfold Builtin.clear_
      simp [run_underlying knot_elem.und, hz, hzs, hst]
    · have hfl : (l.flatMap kc).length = l.length * 2 := flat_len kc_len l
      have htk2 : cs.toList.take (k * 2) = (l.take k).flatMap kc := by
        rw [hce, ← flatK_take]
        rw [← htk, List.take_take, Nat.min_eq_left (by omega)]
        simp only [Nat.add_zero]
        rw [List.append_assoc, List.take_append_of_le_length (by rw [List.length_take]; simp; rw [hcs]; omega), List.take_take, Nat.min_self]
      have hsz2 : cs.size = cap * 2 := by
        rw [hce]
        simp only [Nat.add_zero, List.size_toArray, List.length_append, List.length_take, List.length_drop, hsz, Array.length_toList, hcs]
        omega
      have hll : (l.take k).length = k := by rw [List.length_take]; omega
      unfold OwK Own
      rw [hll]
      refine ⟨by rw [flat_len kc_len, hll], .inr ⟨g, cap, cs, rfl, hg, setRow_heap w g cur _ _ _ hh, by omega, hcm, hsz2, htk2⟩⟩

/-! ## equal neighbours -/
def ddFrom {α : Type} [DecidableEq α] (p : α) : List α → List α
  | [] => []
  | x :: r => if x = p then ddFrom p r else x :: ddFrom x r
/-- of equal neighbours the first alone -/
def ddL {α : Type} [DecidableEq α] : List α → List α
  | [] => []
  | x :: r => x :: ddFrom x r
section
variable {α : Type} [DecidableEq α]
theorem ddFrom_snoc (x : α) : ∀ (r : List α) (p : α), ddFrom p (r ++ [x]) = ddFrom p r ++ if x = r.getLastD p then [] else [x]
  | [], p => by by_cases h : x = p <;> simp [ddFrom, h]
  | y :: r, p => by
    by_cases h : y = p
    · subst h
      have := ddFrom_snoc x r y
      simp only [List.cons_append, ddFrom, if_true]
      rw [this]
      cases r <;> rfl
    · have := ddFrom_snoc x r y
      simp only [List.cons_append, ddFrom, if_neg h]
      rw [this]
      cases r <;> rfl
theorem dd_take {l : List α} {m : Nat} (h : m + 1 < l.length) : ddL (l.take (m + 2)) = ddL (l.take (m + 1)) ++ if l[m + 1] = l[m] then [] else [l[m + 1]] := by
  rw [List.take_succ_eq_append_getElem h]
  cases l with
  | nil => simp at h
  | cons y r =>
    simp only [List.take_succ_cons, List.cons_append, ddL]
    rw [ddFrom_snoc]
    congr 2
    have : (r.take m).getLastD y = (y :: r)[m]'(by simp at h ⊢; omega) := by
      cases m with
      | zero => rfl
      | succ m =>
        have h' : m < r.length := by simp at h; omega
        rw [List.getLastD_eq_getLast?, List.getLast?_take]
        simp [h']
    rw [this]
theorem ddFrom_mem (x : α) : ∀ (r : List α) (p : α), x ∈ ddFrom p r → x ∈ r
  | [], p, h => by simp [ddFrom] at h
  | y :: r, p, h => by
    unfold ddFrom at h
    split at h
    · exact List.mem_cons_of_mem _ (ddFrom_mem x r p h)
    · rcases List.mem_cons.1 h with rfl | h
      · simp
      · exact List.mem_cons_of_mem _ (ddFrom_mem x r y h)
theorem mem_ddFrom (x : α) : ∀ (r : List α) (p : α), x ∈ r → x = p ∨ x ∈ ddFrom p r
  | [], p, h => by simp at h
  | y :: r, p, h => by
    unfold ddFrom
    rcases List.mem_cons.1 h with rfl | h
    · by_cases hp : x = p
      · exact .inl hp
      · rw [if_neg hp]; exact .inr (by simp)
    · by_cases hp : y = p
      · rw [if_pos hp]; exact mem_ddFrom x r p h
      · rw [if_neg hp]
        rcases mem_ddFrom x r y h with h | h
        · exact .inr (by simp [h])
        · exact .inr (by simp [h])
theorem dd_mem (x : α) (l : List α) : x ∈ ddL l ↔ x ∈ l := by
  cases l with
  | nil => simp [ddL]
  | cons y r =>
    simp only [ddL, List.mem_cons]
    constructor
    · rintro (h | h)
      · exact .inl h
      · exact .inr (ddFrom_mem x r y h)
    · rintro (h | h)
      · exact .inl h
      · exact mem_ddFrom x r y h
theorem dd_len_from : ∀ (r : List α) (p : α), (ddFrom p r).length ≤ r.length
  | [], _ => by simp [ddFrom]
  | y :: r, p => by
    unfold ddFrom
    split
    · have := dd_len_from r p; simp only [List.length_cons]; omega
    · have := dd_len_from r y; simp only [List.length_cons]; omega
theorem dd_len (l : List α) : (ddL l).length ≤ l.length := by
  cases l with
  | nil => simp [ddL]
  | cons y r => have := dd_len_from r y; simp only [ddL, List.length_cons]; omega
theorem dd_sorted_from {R : α → α → Prop} : ∀ (r : List α) (p : α), (p :: r).Pairwise (fun a b => a = b ∨ R a b) → (∀ a b c, R a b → R b c → R a c) → (ddFrom p r).Pairwise R ∧ ∀ x ∈ ddFrom p r, R p x
  | [], p, _, _ => by simp [ddFrom]
  | y :: r, p, h, tr => by
    obtain ⟨h1, h2⟩ := List.pairwise_cons.1 h
    unfold ddFrom
    by_cases hp : y = p
    · rw [if_pos hp]
      subst hp
      exact dd_sorted_from r y h2 tr
    · rw [if_neg hp]
      obtain ⟨i1, i2⟩ := dd_sorted_from r y h2 tr
      have hpy : R p y := by
        rcases h1 y (by simp) with h3 | h3
        · exact absurd h3.symm hp
        · exact h3
      refine ⟨List.pairwise_cons.2 ⟨i2, i1⟩, fun x hx => ?_⟩
      rcases List.mem_cons.1 hx with rfl | hx
      · exact hpy
      · exact tr _ _ _ hpy (i2 x hx)
theorem dd_sorted {R : α → α → Prop} (tr : ∀ a b c, R a b → R b c → R a c) {l : List α} (h : l.Pairwise (fun a b => a = b ∨ R a b)) : (ddL l).Pairwise R := by
  cases l with
  | nil => simp [ddL]
  | cons y r =>
    obtain ⟨i1, i2⟩ := dd_sorted_from r y h tr
    exact List.pairwise_cons.2 ⟨i2, i1⟩
end
theorem gb_of {w W : World} {row : Option Nat} (h : Below w.heap.size w W) : w.grownBy W row := ⟨h.os, h.tape, h.output, h.size, fun k hk _ => h.block k hk⟩
theorem ownK_cells {w : World} {base g cap n : Nat} {l : List Knot} (h : OwK base w (.slice (some ⟨g, 0, none⟩) n cap) l) {k : Nat} (hk : k < l.length) (_ : l.length = n) : g < w.heap.size ∧
    w.cell? ⟨g, k * 2, none⟩ = some (.int .i64 l[k].1) ∧ w.cell? ⟨g, k * 2 + 1, none⟩ = some (.int .i64 l[k].2) := by
  obtain ⟨A, c, he, _, _, hr⟩ := h.rd kc_len
  obtain rfl := (Value.slice.inj he).1
  obtain ⟨h0, h1, h2⟩ := hr.knotAt hk
  exact ⟨h0, by simpa using h1, by simpa using h2⟩
end Go.Proofs.YtmjfkgbbhplhcaaGreatDoor

/- Sets of bars, of the reference; bars mirrored, turned, shifted, walked. Conditions: bars within bounds. -/
namespace Go.Proofs.YtmjfkgbbhplhcaaGreatDoor
open Go.RowKit Go.ChangeMaps
set_option maxHeartbeats 4000000
set_option maxRecDepth 100000

/-- the bars of a list that are not in another one -/
def wout (l a : List Bar) : List Bar := l.filter fun b => !hasb a b
theorem wout_take {l : List Bar} {k : Nat} (hk : k < l.length) (a : List Bar) : wout (l.take (k + 1)) a = wout (l.take k) a ++ if hasb a l[k] then [] else [l[k]] := by
  unfold wout
  rw [List.take_succ_eq_append_getElem hk, List.filter_append]
  cases h : hasb a l[k] <;> simp [h]
theorem wout_len (l a : List Bar) : (wout l a).length ≤ l.length := List.length_filter_le _ _

/-- the bars of a list that are in another one -/
def meetL (l a : List Bar) : List Bar := l.filter fun b => hasb a b
theorem meetL_take {l : List Bar} {k : Nat} (hk : k < l.length) (a : List Bar) : meetL (l.take (k + 1)) a = meetL (l.take k) a ++ if hasb a l[k] then [l[k]] else [] := by
  unfold meetL
  rw [List.take_succ_eq_append_getElem hk, List.filter_append]
  cases h : hasb a l[k] <;> simp [h]
theorem meetL_len (l a : List Bar) : (meetL l a).length ≤ l.length := List.length_filter_le _ _

/-- the bar between two knots -/
def btwB (a b : Knot) : Bar := if b.2 < a.2 then (b.1, b.2, a.1 - b.1) else (a.1, a.2, b.1 - a.1)
def nearK (k : Knot) : Prop := (-1000000 ≤ k.1 ∧ k.1 ≤ 1000000) ∧ (-1000000 ≤ k.2 ∧ k.2 ≤ 1000000)
/-- the mirrored bar -/
def mirB (b : Bar) : Bar := (-b.1, b.2.1, -b.2.2)
theorem map_take {α β : Type} (f : α → β) {l : List α} {k : Nat} (hk : k < l.length) : (l.take (k + 1)).map f = (l.take k).map f ++ [f l[k]] := by
  rw [List.take_succ_eq_append_getElem hk, List.map_append]; rfl
end Go.Proofs.YtmjfkgbbhplhcaaGreatDoor

/- Bars turned, of the reference, walked. Conditions: bars within bounds. -/
namespace Go.Proofs.YtmjfkgbbhplhcaaGreatDoor
open Go.RowKit Go.ChangeMaps
set_option maxHeartbeats 4000000
set_option maxRecDepth 100000

/-- the bar turned by a quarter -/
def turnB (b : Bar) : Bar := btwB (-b.2.1, b.1) (-(b.2.1 + 1), b.1 + b.2.2)
def turF (x y x1 y1 : Int) (n₀ : Nat) (i : Nat) (v : Value) (W : World) : Prop :=
  (i = 4 → v = .agg #[.int .i64 x, .int .i64 y]) ∧ (i = 9 → v = .agg #[.int .i64 x1, .int .i64 y1]) ∧
  ((i = 10 ∨ i = 11) → ∃ g, v = .pointer (some ⟨g, 0, none⟩) ∧ n₀ ≤ g ∧ Blk W g 64 #[.int .i64 0, .int .i64 0])
theorem turF_st (x y x1 y1 : Int) (n₀ : Nat) : ∀ i v W W', turF x y x1 y1 n₀ i v W → Below W.heap.size W W' → turF x y x1 y1 n₀ i v W' := fun i v W W' h hb =>
  ⟨h.1, h.2.1, fun hi => by obtain ⟨g, h1, h0, h2⟩ := h.2.2 hi; exact ⟨g, h1, h0, h2.below hb⟩⟩
/-- a bar shifted -/
def shB (d : Knot) (b : Bar) : Bar := (b.1 + d.1, b.2.1 + d.2, b.2.2)
/-- both ends of a bar are in their range -/
def inB (b : Bar) : Bool := !farB b.1 && !farB b.2.1 && !farB (b.1 + b.2.2) && !farB (b.2.1 + 1)
def allIn (l : List Bar) : Bool := l.all inB
theorem allIn_take {l : List Bar} {f : Bar → Bar} {k : Nat} (hk : k < l.length) : allIn ((l.take (k + 1)).map f) = (allIn ((l.take k).map f) && inB (f l[k])) := by
  rw [map_take f hk]; unfold allIn; rw [List.all_append]; simp
end Go.Proofs.YtmjfkgbbhplhcaaGreatDoor

/- Bars shifted, of the reference, walked. Conditions: bars within bounds. -/
namespace Go.Proofs.YtmjfkgbbhplhcaaGreatDoor
open Go.RowKit Go.ChangeMaps
set_option maxHeartbeats 4000000
set_option maxRecDepth 100000

/-- a row of bars of the call's own and a truth value -/
def RBB (w : World) (l : List Bar) (b : Bool) (e : Ending) (w' : World) : Prop := ∃ v, e = .returned (.tuple #[v, .bool b]) ∧ OwB w.heap.size w' v l ∧ Below w.heap.size w w'
theorem allIn_nil : allIn [] = true := rfl
end Go.Proofs.YtmjfkgbbhplhcaaGreatDoor

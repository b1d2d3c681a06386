/- An append and where it lies; a range over the lines of a string; Parse, plain. Conditions: none. -/
import Derived.Test.YtkmjcoofkgpanaaGreatDoorB18
import Derived.Test.YtkmjcoofkgpanaaGreatDoorB02
import Derived.Maps.AppendAt
import Derived.Test.YtkmjcoofkgpanaaGreatDoorB14
import Derived.Sort.CutIn
namespace Go.Proofs.YtkmjcoofkgpanaaGreatDoor
open Go.RowKit Go.ChangeMaps
set_option maxHeartbeats 4000000
set_option maxRecDepth 100000

attribute [local go_sem] Oper.semAt_some
section
variable {α : Type} {enc : α → List Value} {sz bytes : Nat} {P : Program} {t e : TypeId} {w : World}
theorem run_app_at (E : Elem P t e sz bytes) (henc : ∀ x, (enc x).length = sz) (hone : ∀ x, ∀ u ∈ enc x, u.oneCell' = true) (base : Nat) (ty : TypeId) (v u : Value) (l r : List α) (hown : Own enc sz base e w v l) (hu : Sl enc sz w u r)
    (h63 : l.length + r.length ≤ maxLen) (hb : (l.length + r.length) * bytes ≤ 140737488355328) (hbase : base ≤ w.heap.size) :
    ∃ v' w', (Builtin.append_ #[t, t] ty #[v, u]).run P w = .ok v' w' ∧ Own enc sz base e w' v' (l ++ r) ∧ w.grownBy w' v.ownBlock ∧ (v'.ownBlock = v.ownBlock ∨ v'.ownBlock = some w.heap.size) := by
  obtain ⟨hund, hrow, hpos⟩ := E
  obtain ⟨i, hi, hrow⟩ : ∃ i, P.info? e = some i ∧ (i.zero.map (fun z => z.cells.size), i.size, i.bytes) = (some sz, sz, bytes) := by
    cases h : P.info? e with
    | none => rw [h] at hrow; cases hrow
    | some i => rw [h] at hrow; exact ⟨i, rfl, Option.some.inj hrow⟩
  have h1 := congrArg Prod.fst hrow
  have h2 := congrArg (fun x => x.2.1) hrow
  have h3 := congrArg (fun x => x.2.2) hrow
  obtain ⟨z, hz, hzs⟩ : ∃ z, i.zero = some z ∧ z.cells.size = sz := by
    cases h : i.zero with
    | none => rw [h] at h1; cases h1
    | some z => rw [h] at h1; exact ⟨z, rfl, Option.some.inj h1⟩
  obtain ⟨A, c, rfl, hlc, hcm, hr⟩ := hu
  cases A with
  | some ad =>
    have hl : (r.flatMap enc).length = r.length * sz := by
      clear hr hlc hb h63
      induction r with
      | nil => simp
      | cons x r ih => simp [henc, ih, Nat.succ_mul]; omega
    obtain ⟨v', w', q1, q2, q3, _, q5⟩ := run_append_own_at (P := P) w base t ty e i z sz bytes hund hi hz h2 h3 hzs hpos v l.length (l.flatMap enc) hown ad r.length c (r.flatMap enc) hl (by
      intro j u hj
      have hjl : j < r.length * sz := by rw [← hl]; exact (List.getElem?_eq_some_iff.1 hj).1
      have hk : j / sz < r.length := Nat.div_lt_of_lt_mul (by rw [Nat.mul_comm]; exact hjl)
      obtain ⟨b, off, he, hbl, hc⟩ := hr (j / sz) r[j / sz] (List.getElem?_eq_getElem hk)
      have hm : j % sz < (enc r[j / sz]).length := by rw [henc]; exact Nat.mod_lt _ hpos
      have hj' := flat_get henc r (j / sz) r[j / sz] (j % sz) _ (List.getElem?_eq_getElem hk) (List.getElem?_eq_getElem hm)
      have hdm : j / sz * sz + j % sz = j := by rw [Nat.mul_comm]; exact Nat.div_add_mod j sz
      rw [hdm, hj] at hj'
      have hcj := hc (j % sz) u (by rw [List.getElem?_eq_getElem hm]; exact hj'.symm)
      obtain rfl : ad = ⟨b, off, none⟩ := Option.some.inj he
      rw [Nat.add_assoc, hdm] at hcj
      unfold Addr.add
      split
      · rename_i h0
        subst h0
        exact hcj
      · exact hcj) (by
      intro u hu
      obtain ⟨x, hx, hux⟩ := List.mem_flatMap.1 hu
      exact hone x u hux) h63 hb hbase
    refine ⟨v', w', q1, ?_, q3, q5⟩
    unfold Own
    simpa using q2
  | none =>
    have hr0 : r = [] := by
      cases r with
      | nil => rfl
      | cons x r =>
        obtain ⟨b, off, he, _⟩ := hr 0 x rfl
        cases he
    subst hr0
    refine ⟨v, w, ?_, by simpa using hown, World.grownBy.refl _ _, .inl rfl⟩
    rcases hown.2 with ⟨rfl, hn⟩ | ⟨g, cap, cur, rfl, _, _, hnc, _⟩
    · simp [Builtin.append_, run_underlying hund, sizeOf, typeInfo, hi, Builtin.lenOf, Builtin.firstCells]
    · simp [Builtin.append_, run_underlying hund, sizeOf, typeInfo, hi, Builtin.lenOf, Builtin.firstCells, hnc, storeCells]

end
theorem wpListIn_appAt {F : Fence} {n : Nat} {ops : Array Oper} {rest : List Oper} {o : Oper} {a : Act} {Q : Exit → Act → World → Prop} {base : Nat} {W : World} {v : Value} {X Y S : Int} {l : List Bar} (hown : OwB base W v l) {g : Nat} (hgd : o.guard = none) (s x : Operand)
    (ho : o.op = .call { callee := .builtin .append, args := #[s, x], argTypes := #[26, 26] })
    (hs : a.eval s = v) (hx : a.eval x = .slice (some ⟨g, 0, none⟩) 1 1) (hg : W.heap.size = g) (hlen : l.length ≤ 1000000) (hbase : base ≤ W.heap.size)
    (h : ∀ v' w', OwB base w' v' (l ++ [(X, Y, S)]) → (W.alloc (.cells #[.int .i64 X, .int .i64 Y, .int .i64 S] 60)).grownBy w' v.ownBlock → (v'.ownBlock = v.ownBlock ∨ ∃ k, v'.ownBlock = some k ∧ W.heap.size ≤ k) → wpListIn F n Tryz.prog ops Q rest (a.put o.dst v') w') :
    wpListIn F n Tryz.prog ops Q (o :: rest) a (W.alloc (.cells #[.int .i64 X, .int .i64 Y, .int .i64 S] 60)) := by
  subst hg
  obtain ⟨v', w', hr, h2, h3, h4⟩ := run_app_at (P := Tryz.prog) (t := 26) bar_elem bc_len bc_one base o.type v (.slice (some ⟨W.heap.size, 0, none⟩) 1 1) l [(X, Y, S)] (hown.alloc _) (Sl.one_bar W X Y S) (by simp [maxLen]; omega) (by simp; omega) (by simp; omega)
  refine wpListIn_plain hgd fun K hK' => ?_
  unfold Oper.wpIn
  refine ⟨by simp [Oper.about, ho, resolve, Target.leads, Sem.run_pure], ?_⟩
  rw [Oper.semAt_plain F _ _ (by rw [ho]; intro c hc'; cases hc')]
  simp [execOp, ho, resolve, invoke, builtin, hs, hx, hr, Result.andThen]
  refine hK' _ _ (h v' w' h2 h3 ?_)
  rcases h4 with h4 | h4
  · exact .inl h4
  · exact .inr ⟨_, h4, by simp⟩
/-! ## a region that draws its order, within a fence: what it reads holds in a class of worlds -/
section
variable {F : Fence} {n : Nat} {P : Program} {ops : Array Oper} {Q : Exit → Act → World → Prop}
theorem wpIn_region_ordm {id : Nat} {a : Act} {w : World} {l : List Oper} (B : Nat) (p : World → Prop) (pre : List Nat) (mid : List (Nat × Bool)) (post : List Nat) (hF : ∀ f, F.fn f) (hnd : noDefer l.toArray = true) (hm : P.follows .mixedOrders = true) (hB : ordB .any l.toArray pre mid post = true)
    (hQ : ∀ d c a v w, Q (.panic c) (Act.put a d v) w → Q (.panic c) a w) (hp : p w.drew)
    (h : wpQuiet P l.toArray (fun w' => ∃ g : BelM B w p, w' = g.val) (fun a' => wpMidI F n P l.toArray Q (fun w' => ∃ g : BelM B w p, w' = g.val) (post.map fun i => l.getD i default) (mid.map fun i => (l.getD i.1 default, i.2)) a' w.drew) (pre.map fun i => l.getD i default) a) :
    (Code.region id l.toArray true).wpIn F n P Q a w := by
  simp only [ordB, Bool.and_eq_true, decide_eq_true_eq] at hB
  obtain ⟨⟨hs, hn⟩, hB'⟩ := hB
  refine wpIn_region_any hm (wpAnyIn_of_GI (C := fun w' => ∃ g : BelM B w p, w' = g.val) (kp := fun j => !post.contains j) _ _ _ _ ?_)
  rw [hn, Nat.add_assoc]
  refine wpAnyGI_pre hF hnd hs hQ (BelM.ex (Below.refl B w).drew hp) pre _ a (Closed.start _) (by simpa [hn, Nat.add_assoc] using hB') ?_
  have e : ∀ (xs : List Nat), (xs.map fun i => l.toArray.getD i default) = xs.map fun i => l.getD i default := fun xs => List.map_congr_left fun i _ => by simp [Array.getD_eq_getD_getElem?, List.getD_eq_getElem?_getD]
  have e2 : (mid.map fun i => (l.toArray.getD i.1 default, i.2)) = mid.map fun i => (l.getD i.1 default, i.2) := List.map_congr_left fun i _ => by simp [Array.getD_eq_getD_getElem?, List.getD_eq_getElem?_getD]
  rw [e, e, e2]
  exact h
unseal wpMidI in
/-- an operation that is carried out; behind it the class is shown again -/
theorem wpMidI_runm {B : Nat} {p : World → Prop} {w0 : World} {post : List Oper} {o : Oper} {r : List (Oper × Bool)} {a : Act} {w : World} (hw : Region.wanted o (yielded ops a.tmps) = true)
    (h : ∀ K : Act → World → Prop, (∀ a w', Below B w0 w' → p w' → wpMidI F n P ops Q (fun w' => ∃ g : BelM B w0 p, w' = g.val) post r a w' → K a w') → o.wpIn F n P a w K Q) :
    wpMidI F n P ops Q (fun w' => ∃ g : BelM B w0 p, w' = g.val) post ((o, false) :: r) a w := by
  have := h (fun a w' => (∃ g : BelM B w0 p, w' = g.val) ∧ wpMidI F n P ops Q (fun w' => ∃ g : BelM B w0 p, w' = g.val) post r a w') (fun a w h1 h2 h3 => ⟨BelM.ex h1 h2, h3⟩)
  simp only [wpMidI, Bool.false_eq_true, if_false, hw, if_true]
  exact this
end
/-! ## a range over the lines of a string -/
theorem KpL.trans {B : Nat} {W1 W2 W3 : World} (h : KpL B W1 W2) (h' : KpL B W2 W3) : KpL B W1 W3 := fun v hv => h' v (h v hv)
theorem KpL.below {B : Nat} {W W' : World} (h : Below W.heap.size W W') : KpL B W W' := fun _ hv => hv.below h
theorem KpL.set {B g i : Nat} {W : World} {u : Value} (h : B ≠ g) : KpL B W (W.setCell ⟨g, i, none⟩ u) := fun _ hv => (Below.heap_setCell W ⟨g, i, none⟩ u B h).trans hv
theorem KpL.put {B D : Nat} {W : World} {o : Obj} (h : B ≠ D) : KpL B W (W.putObj D o) := fun _ hv => (World.putObj_heap_other h).trans hv
theorem KpL.grown {B base : Nat} {W W' : World} {v : Value} {l : List Bar} (ho : OwB base W v l) (hg : W.grownBy W' v.ownBlock) : KpL B W W' := fun _ hv => hv.grown hg (ho.ne_blk hv (by decide))
theorem wpIn_range_lines {n : Nat} {g : Operand} {p d : Nat} {assign body : Code} {Q : Exit → Act → World → Prop} {a : Act} {w : World} {D B : Nat} {s : Str} (hs : s.length ≤ 1000000) (hD : w.heap.size = D) (hn : 2 ≤ n)
    (hg : a.eval g = .func (.func 136) #[] #[.pointer (some ⟨B, 0, none⟩)]) (hB : Blk w B 9 #[sV s]) {I : List Str → World → Prop} {Ix : Code → List Str → World → Prop} (hI : OwnFrom D I) (hIx : ∀ c, OwnFrom D (Ix c))
    (hIB : ∀ xs W W', I xs W → Chg [B] W W' → I xs W') (h0 : I [] w)
    (hassign : ∀ (x : Str) (W : World) (K : Act → World → Prop), K { tmps := (a.tmps.setIfInBounds p (sV x)).setIfInBounds d (sV x), defers := [] } W → assign.wpIn (Fence.wide.inRound (D + 1)) (n - 1 - 1) Tryz.prog (Exit.then K (fun _ _ _ => False)) { tmps := a.tmps.setIfInBounds p (sV x), defers := [] } W)
    (hbody : ∀ (pre : List Str) (x : Str) (r : List Str) (W : World), linesL s = pre ++ x :: r → I pre W → body.wpIn (Fence.wide.inRound (D + 1)) (n - 1 - 1) Tryz.prog (ownPostG D (KpL B) I Ix (pre ++ [x]) W) { tmps := (a.tmps.setIfInBounds p (sV x)).setIfInBounds d (sV x), defers := [] } W)
    (hdone : ∀ (W : World), I (linesL s) W → W.heap[D]? = some (.deferred (some [])) → Q .normal { a with defers := { target := .collected D, args := #[] } :: a.defers } W)
    (hstop : ∀ (c : Code) (pre : List Str) (W : World), Ix c pre W → W.heap[D]? = some (.deferred (some [])) → c.wpIn Fence.wide n Tryz.prog Q { a with defers := { target := .collected D, args := #[] } :: a.defers } W) :
    (Code.rangeFunc g #[p] assign body).wpIn Fence.wide n Tryz.prog Q a w := by
  have hlt : B < D := by have := hB.lt; omega
  refine wpIn_range_cell (Kp := KpL B) (I := I) (Ix := Ix) (encs := encS) (S := fun xs => xs = linesL s) (Pm := fun pre x _ => ∃ r, linesL s = pre ++ x :: r) hD rfl (by omega) hg trivial (enters_of Tryz.func136 (by kernel_rfl) rfl) (fun _ => rfl) hI hIx (fun h h' => h.trans h') (fun W o => KpL.put (by omega)) h0
    (fun x => { tmps := (a.tmps.setIfInBounds p (sV x)).setIfInBounds d (sV x), defers := [] }) (fun x W K hK => ?_) (fun _ _ _ _ h _ => h) (fun pre x W hi hp => ?_) (fun rec W1 hb hs2 hi hR hY => ?_) (fun xs W hx hi hd => ?_) hstop
  · have : (#[p].zip (encS x)).foldl (fun t (p, v) => t.setIfInBounds p v) a.tmps = a.tmps.setIfInBounds p (sV x) := by simp [encS]
    rw [this]
    exact hassign x W K hK
  · obtain ⟨r, hr⟩ := hp
    exact hbody pre x r W hr hi
  · exact lines_seq (n - 1) (by omega) hs hI hIB (hB.below (hD ▸ hb)) hR hi fun pre x W hi hp hR => hY pre x W hi hp hR
  · subst hx
    exact hdone W hi hd
/-! ## Parse, plain -/
/-- does a bar lie too early behind these (i: its place in its line) -/
def lateP (out : List Bar) (i : Nat) (b : Bar) : Bool := match out.getLast? with
  | none => false
  | some q => !barLt q.1 q.2.1 q.2.2 b.1 b.2.1 b.2.2 || (decide (i = 0) && decide (0 ≤ cmpI q.2.1 b.2.1))
def errP (out : List Bar) (i : Nat) (b : Bar) : Int := firstI [barE b.1 b.2.1 b.2.2, whenI (lateP out i b) 11, whenI (decide (out.length = 4096)) 5]
/-- the bars of a line behind those of the lines ahead of it, or the error -/
def parseB : Nat → List Bar → List Bar → Int × List Bar
  | _, [], out => (0, out)
  | i, b :: r, out => if errP out i b ≠ 0 then (errP out i b, []) else parseB (i + 1) r (out ++ [b])
/-- the lines from the one with the number k on -/
def parseLs : Nat → List Str → List Bar → List Bar × Int × Int
  | _, [], out => (out, 0, 0)
  | k, l :: r, out => match lineR l with
    | none => ([], k, 25)
    | some bars => if (parseB 0 bars out).1 ≠ 0 then ([], k, (parseB 0 bars out).1) else parseLs (k + 1) r (parseB 0 bars out).2
def parseR (s : Str) : List Bar × Int × Int := if 65536 < s.length then ([], 0, 26) else parseLs 0 (linesL s) []
end Go.Proofs.YtkmjcoofkgpanaaGreatDoor

/- Parse of the program, walked. Conditions: the variables are laid. -/
namespace Go.Proofs.YtkmjcoofkgpanaaGreatDoor
open Go.RowKit Go.ChangeMaps
set_option maxHeartbeats 4000000
set_option maxRecDepth 100000

attribute [local go_sem] Oper.semAt_some
/-- what Parse answers: a net, a line's number, an error -/
def RPE (w : World) (o : List Bar × Int × Int) (e : Ending) (w' : World) : Prop := ∃ v, e = .returned (.tuple #[v, .int .i64 o.2.1, .int .i64 o.2.2]) ∧ OwB w.heap.size w' v o.1 ∧ Below w.heap.size w w'
/-- the loop's state: the cells of the results, the box of the net, the box of the line's number -/
structure PSt (w : World) (n0 : Nat) (out : List Bar) (u : Value) (k : Nat) (W : World) : Prop where
  b2 : Blk W n0 26 #[.slice none 0 0]
  b3 : Blk W (n0 + 1) 3 #[.int .i64 0]
  b4 : Blk W (n0 + 1 + 1) 27 #[.int .i64 0]
  b5 : Blk W (n0 + 1 + 1 + 1) 26 #[u]
  b6 : Blk W (n0 + 1 + 1 + 1 + 1) 3 #[.int .i64 k]
  own : OwB (n0 + 6) W u out
  hb : Below n0 w W
  sz : n0 + 6 ≤ W.heap.size
  len : out.length ≤ 4096
theorem PSt.below {w W W' : World} {n0 k : Nat} {out : List Bar} {u : Value} (h : PSt w n0 out u k W) (hb : Below W.heap.size W W') : PSt w n0 out u k W' :=
  ⟨h.b2.below hb, h.b3.below hb, h.b4.below hb, h.b5.below hb, h.b6.below hb, h.own.below hb, h.hb.trans (hb.mono (by have := h.sz; omega)), Nat.le_trans h.sz hb.size, h.len⟩
theorem PSt.from {w W W' : World} {n0 k : Nat} {out : List Bar} {u : Value} (h : PSt w n0 out u k W) {row : Option Nat} (hg : W.grownBy W' row) (hr : ∀ r, row = some r → n0 + 6 ≤ r ∧ ∃ o : Obj, W.heap[r]? = some o ∧ o.isCells = false) : PSt w n0 out u k W' :=
  ⟨h.b2.grown hg (nc_blk h.b2 hr), h.b3.grown hg (nc_blk h.b3 hr), h.b4.grown hg (nc_blk h.b4 hr), h.b5.grown hg (nc_blk h.b5 hr), h.b6.grown hg (nc_blk h.b6 hr), h.own.kept hg (nc_own h.own hr),
    h.hb.grown hg (by have := h.sz; omega) (fun k e => by have := (hr k e).1; omega), Nat.le_trans h.sz hg.size, h.len⟩
theorem PSt.chg {w W W' : World} {n0 k B : Nat} {out : List Bar} {u : Value} (h : PSt w n0 out u k W) (hB : B = n0 + 1 + 1 + 1 + 1 + 1) (hc : Chg [B] W W') : PSt w n0 out u k W' :=
  ⟨h.b2.chg hc (by simp; omega), h.b3.chg hc (by simp; omega), h.b4.chg hc (by simp; omega), h.b5.chg hc (by simp; omega), h.b6.chg hc (by simp; omega), h.own.chg hc (by simp; omega),
    h.hb.trans ⟨hc.os, hc.tape, hc.output, hc.size, fun k hk => hc.block k (by have := h.sz; omega) (by simp; omega)⟩, Nat.le_trans h.sz hc.size, h.len⟩
theorem Blk.newAt {W : World} {g : Nat} {t : TypeId} {cs : Array Value} (h : W.heap.size = g) : Blk (W.alloc (.cells cs t)) g t cs := h ▸ Blk.new W t cs
theorem below_setK {w W : World} {n0 g i : Nat} {u : Value} (hb : Below n0 w W) (h : n0 ≤ g) : Below n0 w (W.setCell ⟨g, i, none⟩ u) :=
  hb.trans ⟨rfl, rfl, rfl, by simp [World.setCell], fun k hk => Below.heap_setCell W ⟨g, i, none⟩ u k (show k ≠ g by omega)⟩
theorem Blk.setO {W : World} {g g' i : Nat} {t : TypeId} {cs : Array Value} {u : Value} (h : Blk W g t cs) (hne : g ≠ g') : Blk (W.setCell ⟨g', i, none⟩ u) g t cs := (Below.heap_setCell W ⟨g', i, none⟩ u g hne).trans h
theorem below_putK {w W : World} {n0 D : Nat} (hb : Below n0 w W) (hD : n0 ≤ D) (o : Obj) : Below n0 w (W.putObj D o) :=
  hb.trans ⟨rfl, rfl, rfl, by simp [World.putObj], fun k hk => World.putObj_heap_other (by omega)⟩
/-- the return out of a round: nothing, the line's number, the error -/
theorem PSt.exit {w W : World} {n0 k : Nat} {out : List Bar} {u : Value} (h : PSt w n0 out u k W) (e : Int) : ∀ X, X = (((W.setCell ⟨n0, 0, none⟩ (.slice none 0 0)).setCell ⟨n0 + 1, 0, none⟩ (.int .i64 k)).setCell ⟨n0 + 1 + 1, 0, none⟩ (.int .i64 e)).drew →
    Blk X n0 26 #[.slice none 0 0] ∧ Blk X (n0 + 1) 3 #[.int .i64 k] ∧ Blk X (n0 + 1 + 1) 27 #[.int .i64 e] ∧ Below n0 w X ∧ n0 ≤ X.heap.size ∧ KeepsFrom (n0 + 6) W X := by
  rintro X rfl
  have hd : ∀ {Y : World}, Below Y.heap.size Y Y.drew := bl_drew bl_refl
  have s2 := h.b2.set_ 0 (.slice none 0 0)
  have s3 := (h.b3.setO (i := 0) (u := .slice none 0 0) (show n0 + 1 ≠ n0 by omega))
  have s4 := ((h.b4.setO (i := 0) (u := .slice none 0 0) (show n0 + 1 + 1 ≠ n0 by omega)).setO (i := 0) (u := .int .i64 k) (show n0 + 1 + 1 ≠ n0 + 1 by omega))
  have hsz := h.sz
  refine ⟨((s2.setO (by omega)).setO (by omega)).below hd, ((s3.set_ 0 _).setO (by omega)).below hd, (s4.set_ 0 _).below hd, ?_, ?_, ?_⟩
  · exact (below_setK (below_setK (below_setK h.hb (by omega)) (by omega)) (by omega)).trans (hd.mono (by simp [World.setCell]; omega))
  · simp [World.setCell]; omega
  · exact ((keeps_set h.b2 0 _).trans ((keeps_set s3 0 _).trans (keeps_set s4 0 _))).trans (keeps_of_below hd)
theorem PSt.app {w W W' : World} {n0 k : Nat} {out : List Bar} {u v' : Value} {b : Bar} (h : PSt w n0 out u k W) (hg : W.grownBy W' u.ownBlock) (ho : OwB (n0 + 6) W' v' (out ++ [b])) (hl : (out ++ [b]).length ≤ 4096) :
    PSt w n0 (out ++ [b]) v' k (W'.setCell ⟨n0 + 1 + 1 + 1, 0, none⟩ v') ∧ KeepsFrom (n0 + 6) W (W'.setCell ⟨n0 + 1 + 1 + 1, 0, none⟩ v') := by
  have h5 := h.b5.grown hg (h.own.ne_blk h.b5 (by decide))
  have hsz := h.sz
  refine ⟨⟨(h.b2.grown hg (h.own.ne_blk h.b2 (by decide))).setO (by omega), (h.b3.grown hg (h.own.ne_blk h.b3 (by decide))).setO (by omega), (h.b4.grown hg (h.own.ne_blk h.b4 (by decide))).setO (by omega), h5.set_ 0 _, (h.b6.grown hg (h.own.ne_blk h.b6 (by decide))).setO (by omega),
    ho.set (fun e => by have := (ho.lt _ e).1; simp only at this; omega) _, below_setK (h.hb.grown hg (by omega) (fun k e => by have := (h.own.lt k e).1; omega)) (by omega), Nat.le_trans hsz (Nat.le_trans hg.size (by simp [World.setCell])), hl⟩, ?_⟩
  exact (keeps_grown h.own hg).trans (keeps_set h5 0 _)
theorem PSt.incr {w W : World} {n0 k : Nat} {out : List Bar} {u : Value} (h : PSt w n0 out u k W) : PSt w n0 out u (k + 1) (W.setCell ⟨n0 + 1 + 1 + 1 + 1, 0, none⟩ (.int .i64 ((k : Int) + 1))) ∧ KeepsFrom (n0 + 6) W (W.setCell ⟨n0 + 1 + 1 + 1 + 1, 0, none⟩ (.int .i64 ((k : Int) + 1))) := by
  rw [show (k : Int) + 1 = ((k + 1 : Nat) : Int) by omega]
  have hsz := h.sz
  exact ⟨⟨h.b2.setO (by omega), h.b3.setO (by omega), h.b4.setO (by omega), h.b5.setO (by omega), h.b6.set_ 0 _, h.own.set (fun e => by have := (h.own.lt _ e).1; simp only at this; omega) _, below_setK h.hb (by omega), by simp [World.setCell]; omega, h.len⟩, keeps_set h.b6 0 _⟩
theorem lines_count : ∀ s : Str, (linesL s).length ≤ s.length
  | [] => Nat.le_refl _
  | c :: r => by
    have := lines_count r
    rw [linesL]
    split
    · simp; omega
    · split
      · simp
      · rename_i l ls hl
        rw [hl] at this
        simp at this ⊢
        omega
theorem errP_zero {out : List Bar} {i : Nat} {b : Bar} (h : errP out i b = 0) : out.length ≠ 4096 := by
  obtain ⟨_, _, h3⟩ := firstI3_zero h
  unfold whenI at h3
  intro e
  rw [e] at h3
  simp at h3
theorem apiParse_any (s : Str) (w : World) (hL : Lay w) : Calls Tryz.prog 39 #[sV s] w (RPE w (parseR s)) := by
  by_cases hl : 65536 < s.length
  · have HN : Hid (parseR s = ([], 0, 26)) := by unfold Hid parseR; rw [if_pos hl]
    have hl' : (65536 < s.length) = True := eq_true hl
    go_enter Tryz.func39, Tryz.ntmps39
    simp only [show sV s = Value.string { data := s.toArray } from rfl]
    go_wp2
    refine bodyPost_ret (v := .tuple #[.slice none 0 0, .int .i64 0, .int .i64 26]) (by simp [results, Tryz.results39, go_sem]) rfl ?_
    exact ⟨_, by rw [HN.out], by rw [HN.out]; exact Own.nil_, by (repeat (first | exact bl_refl | assumption | (apply bl_then; assumption) | refine bl_alloc ?_ _ | refine bl_drew ?_ | refine bl_drewN ?_ _))⟩
  · have hl' : (65536 < s.length) = False := eq_false hl
    have HP : Hid (parseR s = parseLs 0 (linesL s) []) := by unfold Hid parseR; rw [if_neg hl]
    refine (callsIn_wide (n := 6)).1 ?_
    refine callsIn_of_wp_marks Tryz.func39 rfl trivial ?_ rfl
    simp only [Tryz.ntmps39, List.size_toArray, List.length_cons, List.length_nil, Nat.reduceAdd, Nat.reduceSub, Array.replicate_succ, Array.replicate_zero, List.push_toArray, List.append_toArray, List.nil_append, List.cons_append]
    simp only [show sV s = Value.string { data := s.toArray } from rfl]
    gi_wp2_with (refine ⟨trivial, ?_⟩; gi_at_call 111; refine (callsIn_wide.2 (lines_any s _)).mono ?_; rintro e w2 ⟨rfl, hw2⟩)
    obtain ⟨n0, hn0⟩ : ∃ n0, w.heap.size = n0 := ⟨_, rfl⟩
    obtain ⟨B, hB⟩ : ∃ B, n0 + 1 + 1 + 1 + 1 + 1 = B := ⟨_, rfl⟩
    have hP : Blk w2 B 9 #[sV s] ∧ PSt w n0 [] (.slice none 0 0) 0 w2 ∧ w2.heap.size = n0 + 6 := by
      have al : ∀ {W : World} {o : Obj}, Below W.heap.size W (W.alloc o) := bl_alloc bl_refl _
      rw [hw2]
      refine ⟨Blk.newAt (by simp; omega), ⟨?_, ?_, ?_, ?_, ?_, Own.nil_, ?_, by simp; omega, by simp⟩, by simp; omega⟩
      · exact (((((Blk.newAt hn0).below al).below al).below al).below al).below al
      · exact ((((Blk.newAt (by simp; omega)).below al).below al).below al).below al
      · exact (((Blk.newAt (by simp; omega)).below al).below al).below al
      · exact ((Blk.newAt (by simp; omega)).below al).below al
      · exact (Blk.newAt (by simp; omega)).below al
      · rw [← hn0]; exact bl_alloc (bl_alloc (bl_alloc (bl_alloc (bl_alloc (bl_alloc bl_refl _) _) _) _) _) _
    obtain ⟨hBs, hP, hsz⟩ := hP
    rw [← hw2, hn0, hB]
    clear hw2
    refine wpIn_range_lines (s := s) (B := B) (p := 21) (d := 7) (by omega) hsz (by omega) rfl hBs
      (I := fun pre W => ∃ u out rest, linesL s = pre ++ rest ∧ parseLs 0 (linesL s) [] = parseLs pre.length rest out ∧ PSt w n0 out u pre.length W)
      (Ix := fun c _ W => c = .ret ∧ ∃ (k : Nat) (e : Int), parseLs 0 (linesL s) [] = ([], (k : Int), e) ∧ Blk W n0 26 #[.slice none 0 0] ∧ Blk W (n0 + 1) 3 #[.int .i64 k] ∧ Blk W (n0 + 1 + 1) 27 #[.int .i64 e] ∧ Below n0 w W ∧ n0 ≤ W.heap.size)
      ?hI ?hIx ?hIB ?h0 ?hassign ?hbody ?hdone ?hstop
    case hI =>
      rintro pre W W' row ⟨u, out, rest, h1, h2, h3⟩ hg hr
      exact ⟨u, out, rest, h1, h2, h3.from hg hr⟩
    case hIx =>
      rintro c pre W W' row ⟨h1, k, e, h2, h3, h4, h5, h6, h7⟩ hg hr
      exact ⟨h1, k, e, h2, h3.grown hg (nc_blk h3 hr), h4.grown hg (nc_blk h4 hr), h5.grown hg (nc_blk h5 hr), h6.grown hg h7 (fun k e => by have := (hr k e).1; omega), Nat.le_trans h7 hg.size⟩
    case hIB =>
      rintro pre W W' ⟨u, out, rest, h1, h2, h3⟩ hc
      exact ⟨u, out, rest, h1, h2, h3.chg hB.symm hc⟩
    case h0 => exact ⟨_, [], linesL s, rfl, rfl, hP⟩
    case hassign =>
      intro x W K hK
      gi_wp2
      exact hK
    case hdone =>
      rintro W ⟨u, out, rest, h1, h2, h3⟩ hD
      obtain ⟨A, cc, rfl⟩ := h3.own.shape
      have f2 := h3.b2.facts
      have f3 := h3.b3.facts
      have f4 := h3.b4.facts
      have f5 := h3.b5.facts
      gi_wp2
      obtain ⟨X, hX⟩ : ∃ X, ((W.setCell ⟨n0, 0, none⟩ (.slice A out.length cc)).setCell ⟨n0 + 1, 0, none⟩ (.int .i64 0)).setCell ⟨n0 + 1 + 1, 0, none⟩ (.int .i64 0) = X := ⟨_, rfl⟩
      rw [hX]
      have hDX : X.heap[n0 + 6]? = some (.deferred (some [])) := by rw [← hX]; exact (Below.heap_setCell _ ⟨_, _, _⟩ _ _ (show n0 + 6 ≠ n0 + 1 + 1 by omega)).trans ((Below.heap_setCell _ ⟨_, _, _⟩ _ _ (show n0 + 6 ≠ n0 + 1 by omega)).trans ((Below.heap_setCell _ ⟨_, _, _⟩ _ _ (show n0 + 6 ≠ n0 by omega)).trans hD))
      have g2 : Blk X n0 26 #[.slice A out.length cc] := by rw [← hX]; exact ((h3.b2.set_ 0 _).setO (by omega)).setO (by omega)
      have g3 : Blk X (n0 + 1) 3 #[.int .i64 0] := by rw [← hX]; exact ((h3.b3.setO (by omega)).set_ 0 _).setO (by omega)
      have g4 : Blk X (n0 + 1 + 1) 27 #[.int .i64 0] := by rw [← hX]; exact ((h3.b4.setO (by omega)).setO (by omega)).set_ 0 _
      have gO : OwB (n0 + 6) X (.slice A out.length cc) out := by
        rw [← hX]
        refine ((h3.own.set ?_ _).set ?_ _).set ?_ _ <;> (intro e; have := (h3.own.lt _ e).1; simp only at this; omega)
      have gb : Below n0 w X := by rw [← hX]; exact below_setK (below_setK (below_setK h3.hb (by omega)) (by omega)) (by omega)
      have k2 := (g2.putDef hDX (.deferred none)).facts
      have k3 := (g3.putDef hDX (.deferred none)).facts
      have k4 := (g4.putDef hDX (.deferred none)).facts
      refine ⟨by simp, .inl ⟨_, _, rfl, run_takeDeferred hDX, ?_⟩⟩
      refine ⟨.tuple #[.slice A out.length cc, .int .i64 0, .int .i64 0], ?_, ?_⟩
      · simp [results, Tryz.results39, go_sem, k2, k3, k4]
      · obtain rfl : rest = [] := by simpa using h1
        have he : parseR s = (out, 0, 0) := by rw [HP.out, h2]; rfl
        exact ⟨_, by rw [he], by rw [he, hn0]; exact Own.base_mono (ownsRow_putObj gO _ hDX rfl) (by omega), by rw [hn0]; exact below_putK gb (by omega) _⟩
    case hstop =>
      rintro c pre W ⟨rfl, k, e, h2, h3, h4, h5, h6, h7⟩ hD
      gi_wp2
      have hX := (h3.putDef hD (.deferred none)).facts
      have hY := (h4.putDef hD (.deferred none)).facts
      have hZ := (h5.putDef hD (.deferred none)).facts
      refine ⟨by simp, .inl ⟨_, _, rfl, run_takeDeferred hD, ?_⟩⟩
      refine ⟨.tuple #[.slice none 0 0, .int .i64 k, .int .i64 e], ?_, ?_⟩
      · simp [results, Tryz.results39, go_sem, hX, hY, hZ]
      · exact ⟨_, by rw [HP.out, h2], by rw [HP.out, h2]; exact Own.nil_, by rw [hn0]; exact below_putK h6 (by omega) _⟩
    case hbody =>
      rintro pre x r W hx ⟨u, out, rest, h1, h2, h3⟩
      obtain rfl : rest = x :: r := by rw [hx] at h1; exact (List.append_cancel_left h1).symm
      have hbW : Below w.heap.size w W := hn0 ▸ h3.hb
      have hxl : x.length ≤ 1000000 := by have := lines_size (s := s) (x := x) (by rw [hx]; simp); omega
      have c1 := line_any x hxl W (hL.below hbW)
      cases ho : lineR x with
      | none =>
        rw [ho] at c1
        have he : parseLs 0 (linesL s) [] = ([], (pre.length : Int), 25) := by rw [h2, parseLs, ho]
        gi_wp2_with (refine ⟨trivial, ?_⟩; gi_at_call 112; refine (CallsIn.inRound _ (callsIn_wide.2 c1)).mono ?_; rintro e w4 ⟨v, rfl, hO, hb⟩)
        have hP4 := h3.below hb
        have f2 := hP4.b2.facts
        have f3 := hP4.b3.facts
        have f4 := hP4.b4.facts
        have f6 := hP4.b6.facts
        obtain ⟨P0, hP0⟩ : ∃ P0 : World → Prop, P0 = fun X => X.cell? ⟨n0 + 1 + 1 + 1 + 1, 0, none⟩ = some (.int .i64 (pre.length : Int)) := ⟨_, rfl⟩
        have hp0 : P0 w4.drew := by rw [hP0]; show _ = _; rw [(hP4.b6.below (show Below w4.heap.size w4 w4.drew from bl_drew bl_refl)).cell]; rfl
        have hPi : ∀ X, P0 X → X.cell? ⟨n0 + 1 + 1 + 1 + 1, 0, none⟩ = some (.int .i64 (pre.length : Int)) := fun X h => by rw [hP0] at h; exact h
        have hp1 : P0 (w4.setCell ⟨n0, 0, none⟩ (.slice none 0 0)).drew := by
          rw [hP0]
          show _ = _
          rw [((hP4.b6.setO (i := 0) (u := .slice none 0 0) (show n0 + 1 + 1 + 1 + 1 ≠ n0 by omega)).below (bl_drew bl_refl)).cell]
          rfl
        have hg : ∀ g : BelM 0 w4 P0, g.val.cell? ⟨n0 + 1 + 1 + 1 + 1, 0, none⟩ = some (.int .i64 (pre.length : Int)) := fun g => hPi _ g.has
        clear hP0
        haveI hne : Nonempty (BelM 0 w4 P0) := BelM.none_empty (Below.refl 0 w4).drew hp0
        refine wpIn_region_ordm (0) (P0) [0] [(1, false)] [2, 3] (fun _ => trivial) (by kernel_rfl) (by kernel_rfl) (by kernel_rfl) (fun d _ _ _ _ h => by cases d <;> exact h) (hp0) ?_
        simp only [List.map_cons, List.map_nil, List.getD_cons_zero, List.getD_cons_succ]
        repeat (go_big_quiet_step (fail))
        refine wpQuiet_nil ?_
        refine wpMidI_runm rfl (fun K hK => ?_)
        go_simp
        refine hK _ _ ((below_setK (Below.refl 0 w4) (Nat.zero_le _)).drew) (hp1) ?_
        clear hK K
        refine wpMidI_nil ?_
        gi_wp2
        obtain ⟨e2, e3, e4, e5, e6, e7⟩ := hP4.exit 25 _ rfl
        exact ⟨(keeps_of_below hb).trans e7, rfl, _, _, he, e2, e3, e4, e5, e6⟩
      | some bars =>
        rw [ho] at c1
        have he : parseLs 0 (linesL s) [] = if (parseB 0 bars out).1 ≠ 0 then ([], (pre.length : Int), (parseB 0 bars out).1) else parseLs (pre.length + 1) r (parseB 0 bars out).2 := by rw [h2, parseLs, ho]
        have HE := Lib.hid he
        have HX := Lib.hid hx
        clear he hx h1 h2
        gi_wp2_with (refine ⟨trivial, ?_⟩; gi_at_call 112; refine (CallsIn.inRound _ (callsIn_wide.2 c1)).mono ?_; rintro e w4 ⟨v, rfl, hO', hb⟩; have hO : OwB W.heap.size w4 v bars := hO'; clear hO'; obtain ⟨A4, c4, rfl⟩ := hO.shape)
        have hP4 := h3.below hb
        have hsW := h3.sz
        have hne4 : (Value.slice A4 bars.length c4).ownBlock = none ∨ (Value.slice A4 bars.length c4).ownBlock ≠ u.ownBlock := by
          rcases hu : (Value.slice A4 bars.length c4).ownBlock with _ | g
          · exact .inl rfl
          · refine .inr fun e => ?_
            have h1 := (hO.lt _ hu).1
            have h2 := (h3.own.lt _ e.symm).2
            omega
        have hk4 : KeepsFrom (n0 + 6) W w4 := keeps_of_below hb
        have hq4 : KpL B W w4 := KpL.below hb
        have hblm : bars.length ≤ 9223372036854775807 := by obtain ⟨A, c, e, h1, h2, _⟩ := hO.rd bc_len; unfold maxLen at h2; omega
        gi_loopw [32] (fun i wr => ∃ (j : Nat) (out' : List Bar) (u' : Value), j ≤ bars.length ∧ i = .int .i64 j ∧ Hid (parseB 0 bars out = parseB j (bars.drop j) out') ∧ PSt w n0 out' u' pre.length wr ∧ OwB W.heap.size wr (.slice A4 bars.length c4) bars ∧
          ((Value.slice A4 bars.length c4).ownBlock = none ∨ (Value.slice A4 bars.length c4).ownBlock ≠ u'.ownBlock) ∧ KeepsFrom (n0 + 6) W wr ∧ KpL B W wr) (fun i _ => bars.length - (intOf i).toNat)
        case atStart => exact ⟨0, out, u, Nat.zero_le _, rfl, Lib.hid (by rw [List.drop_zero]), hP4, hO, hne4, hk4, hq4⟩
        case round =>
          clear hP4 hO hne4 hk4 hq4 h3 hbW hb c1
          obtain ⟨j, out', u', hj, rfl, HD, hPj, hOj, hnj, hkj, hqj⟩ := hrel
          obtain ⟨wj, rfl⟩ : ∃ x, x = wr := ⟨_, rfl⟩
          by_cases hlt : j < bars.length
          · obtain ⟨_, _, e0, _, _, hr0⟩ := hOj.rd bc_len
            obtain ⟨rfl, rfl⟩ : A4 = _ ∧ c4 = _ := by simpa using e0
            obtain ⟨b0, o0, rfl, hb0, hc0, hc1, hc2⟩ := hr0.bar hlt
            clear e0 hr0
            obtain ⟨⟨x1, y1, s1⟩, hbar⟩ : ∃ b, bars[j] = b := ⟨_, rfl⟩
            have HB := Lib.hid hbar
            simp only [hbar] at hc0 hc1 hc2
            clear hbar
            obtain ⟨A5, c5, rfl⟩ := hPj.own.shape
            have f5 := hPj.b5.facts
            gi_upto_if 40 with fail
            have al : Below wj.heap.size wj (wj.alloc (.cells #[.int .i64 x1, .int .i64 y1, .int .i64 s1] 60)) := bl_alloc bl_refl _
            have hPk := hPj.below al
            have hOk := hOj.below al
            have hB1 := Blk.new wj 60 #[.int .i64 x1, .int .i64 y1, .int .i64 s1]
            have hkk := hkj.trans (keeps_of_below (B := n0 + 6) al)
            have hqk := hqj.trans (KpL.below (B := B) al)
            obtain ⟨w6, hw6⟩ : ∃ X, wj.alloc (.cells #[.int .i64 x1, .int .i64 y1, .int .i64 s1] 60) = X := ⟨_, rfl⟩
            obtain ⟨g1, hg1⟩ : ∃ X, wj.heap.size = X := ⟨_, rfl⟩
            rw [hg1] at hB1
            rw [hw6] at hPk hOk hB1 hkk hqk
            rw [hw6, hg1]
            clear hPj hOj hkj hqj hb0 hc0 hc1 hc2 f5 al hw6 hg1
            gi_cut [12, 13, 14, 81, 82, 83] from 37 (fun s12 _ _ s81 s82 s83 wx => s12 = .bool (lateP out' j (x1, y1, s1)) ∧ Below w6.heap.size w6 wx ∧ s81 = undef ∧ s82 = undef ∧ s83 = undef)
            case first =>
              have f5 := hPk.b5.facts
              have f1 := hB1.facts
              rcases List.eq_nil_or_concat out' with h0 | ⟨l, q, h0⟩
              · have hz : out'.length = 0 := by rw [h0]; rfl
                have HQ : Hid (lateP out' j (x1, y1, s1) = false) := by rw [h0]; rfl
                clear h0
                gi_wp2
                gi_meet
                case rel => exact ⟨by rw [HQ.out], bl_refl, rfl, rfl, rfl⟩
              · have hql : out'.length = l.length + 1 := by rw [h0]; simp
                obtain ⟨_, _, e0, _, _, hr0⟩ := hPk.own.rd bc_len
                obtain ⟨rfl, rfl⟩ : A5 = _ ∧ c5 = _ := by simpa using e0
                obtain ⟨b5, o5, rfl, hb5, hd0, hd1, hd2⟩ := hr0.bar (k := l.length) (by omega)
                obtain ⟨⟨qx, qy, qs⟩, hqe⟩ : ∃ b, q = b := ⟨_, rfl⟩
                have hq0 : out'[l.length] = (qx, qy, qs) := by subst h0; simp [hqe]
                simp only [hq0] at hd0 hd1 hd2
                have HQ : Hid (lateP out' j (x1, y1, s1) = (!barLt qx qy qs x1 y1 s1 || (decide (j = 0) && decide (0 ≤ cmpI qy y1)))) := by unfold Hid lateP; rw [h0, hqe]; simp
                have hlc := barCmp_lt qx qy qs x1 y1 s1
                obtain ⟨z, hz⟩ : ∃ z, barCmp qx qy qs x1 y1 s1 = z := ⟨_, rfl⟩
                have k1 := fun W => ncompare_any qx qy qs x1 y1 s1 W
                rw [hz] at k1 hlc
                have hpos : (0 < out'.length) = True := eq_true (by omega)
                have hix : (out'.length : Int) - 1 = (l.length : Int) := by omega
                have hixl : l.length < out'.length := by omega
                have hll : l.length ≤ 4096 := by have := hPk.len; omega
                have hHx := Lib.hid hql
                clear e0 hr0 hq0 hqe hz h0 hql
                by_cases h0z : 0 ≤ z
                · have h0z' : (0 ≤ z) = True := eq_true h0z
                  gi_wp2_with (first | (refine ⟨trivial, ?_⟩; gi_at_call 98; refine (CallsIn.inRound _ (callsIn_wide.2 (k1 _))).mono ?_; rintro e w7 ⟨rfl, hb7⟩) | (refine wpListIn_pass (by rfl) (fun _ => trivial) ?_))
                  gi_meet
                  case rel => exact ⟨congrArg Value.bool (by rw [HQ.out, ← hlc]; simp [h0z]), by (repeat (first | exact bl_refl | assumption | (apply bl_then; assumption) | refine bl_alloc ?_ _ | refine bl_drew ?_ | refine bl_drewN ?_ _)), rfl, rfl, rfl⟩
                · have h0z' : (0 ≤ z) = False := eq_false h0z
                  by_cases hj0 : j = 0
                  · have hj0' : ((j : Int) == 0) = true := by simp [hj0]
                    have k2 := fun W => cmp_any qy y1 W
                    have HJ := Lib.hid hj0
                    clear hj0
                    gi_wp2_with (first | (refine ⟨trivial, ?_⟩; gi_at_call 98; refine (CallsIn.inRound _ (callsIn_wide.2 (k1 _))).mono ?_; rintro e w7 ⟨rfl, hb7⟩; have qf1 := ((hB1.below (show Below w6.heap.size w6 (w6.alloc (.cells #[.int .i64 qx, .int .i64 qy, .int .i64 qs] 60)) from bl_alloc bl_refl _)).below hb7).facts; have qf2 := ((Blk.new w6 60 #[.int .i64 qx, .int .i64 qy, .int .i64 qs]).below hb7).facts) | (refine ⟨trivial, ?_⟩; gi_at_call 113; refine (CallsIn.inRound _ (callsIn_wide.2 (k2 _))).mono ?_; rintro e w8 ⟨rfl, hb8⟩) | (refine wpListIn_pass (by rfl) (fun _ => trivial) ?_))
                    gi_meet
                    case rel => exact ⟨congrArg Value.bool (by rw [HQ.out, ← hlc, show decide (0 ≤ z) = false from decide_eq_false (by omega)]; simp [HJ.out]), by (repeat (first | exact bl_refl | assumption | (apply bl_then; assumption) | refine bl_alloc ?_ _ | refine bl_drew ?_ | refine bl_drewN ?_ _)), rfl, rfl, rfl⟩
                  · have hj0' : ((j : Int) == 0) = false := by simp [hj0]
                    have HJ := Lib.hid hj0
                    clear hj0
                    gi_wp2_with (first | (refine ⟨trivial, ?_⟩; gi_at_call 98; refine (CallsIn.inRound _ (callsIn_wide.2 (k1 _))).mono ?_; rintro e w7 ⟨rfl, hb7⟩) | (refine wpListIn_pass (by rfl) (fun _ => trivial) ?_))
                    gi_meet
                    case rel => exact ⟨congrArg Value.bool (by rw [HQ.out, ← hlc, show decide (0 ≤ z) = false from decide_eq_false (by omega)]; simp [HJ.out]), by (repeat (first | exact bl_refl | assumption | (apply bl_then; assumption) | refine bl_alloc ?_ _ | refine bl_drew ?_ | refine bl_drewN ?_ _)), rfl, rfl, rfl⟩
            case rest =>
              obtain ⟨rfl, hbx, rfl, rfl, rfl⟩ := hcut
              have hPc := hPk.below hbx
              have hOc := hOk.below hbx
              have hB1c := hB1.below hbx
              have f1 := hB1c.facts
              have f5 := hPc.b5.facts
              have hF : ∀ A c' W, Rd ic 1 W A [barE x1 y1 s1, whenI (lateP out' j (x1, y1, s1)) 11, whenI ((out'.length : Int) == 4096) 5] → Calls Tryz.prog 83 #[.slice A 3 c'] W (RV W (.int .i64 (errP out' j (x1, y1, s1)))) := fun A c' W hr => by
                rw [show ((out'.length : Int) == 4096) = decide (out'.length = 4096) by rw [Bool.eq_iff_iff]; simp; omega] at hr
                exact nfirst_any _ A c' W (by simp [maxLen]) hr
              obtain ⟨L1, hL1⟩ : ∃ L1, lateP out' j (x1, y1, s1) = L1 := ⟨_, rfl⟩
              rw [hL1] at hF ⊢
              obtain ⟨E1, hE1⟩ : ∃ E1, errP out' j (x1, y1, s1) = E1 := ⟨_, rfl⟩
              rw [hE1] at hF
              have HE1 := Lib.hid hE1
              clear hL1 hE1
              gi_upto_region 18 with fail
              refine wpIn_region_ords [0, 2, 4, 5, 6] [(1, false), (3, false)] [7, 8, 9, 10] (fun _ => trivial) (by kernel_rfl) (by kernel_rfl) (by kernel_rfl) (fun d _ _ _ _ h => by cases d <;> exact h) ?_
              simp only [List.map_cons, List.map_nil, List.getD_cons_zero, List.getD_cons_succ]
              repeat (go_big_quiet_step (fail))
              refine wpQuiet_nil ?_
              refine wpMidI_run rfl (fun K hK => ?_)
              go_simp
              refine ⟨trivial, ?_⟩
              refine (CallsIn.inRound _ (callsIn_wide.2 (nbar_any x1 y1 s1 _))).mono ?_
              rintro e w7 ⟨rfl, hb7⟩
              refine hK _ _ (by (repeat (first | exact bl_refl | assumption | (apply bl_then; assumption) | refine bl_alloc ?_ _ | refine bl_drew ?_ | refine bl_drewN ?_ _))) ?_
              clear hK K
              refine wpMidI_run rfl (fun K hK => ?_)
              go_simp
              refine ⟨trivial, ?_⟩
              refine (CallsIn.inRound _ (callsIn_wide.2 (nwhen_any L1 11 _))).mono ?_
              rintro e w8 ⟨rfl, hb8⟩
              refine hK _ _ (by (repeat (first | exact bl_refl | assumption | (apply bl_then; assumption) | refine bl_alloc ?_ _ | refine bl_drew ?_ | refine bl_drewN ?_ _))) ?_
              clear hK K
              refine wpMidI_nil ?_
              gi_upto_region 19 with (first | (refine ⟨trivial, ?_⟩; gi_at_call 85; refine (CallsIn.inRound _ (callsIn_wide.2 (nwhen_any _ 5 _))).mono ?_; rintro e w9 ⟨rfl, hb9⟩) | (refine ⟨trivial, ?_⟩; gi_at_call 83; go_must (refine (CallsIn.inRound _ (callsIn_wide.2 (hF _ _ _ (Rd.ints3 (by simp) (by go_simp) (by go_simp) (by go_simp))))).mono ?_); rintro e w10 ⟨rfl, hb10⟩))
              have hb10' : Below wc.heap.size wc w10 := by (repeat (first | exact bl_refl | assumption | (apply bl_then; assumption) | refine bl_alloc ?_ _ | refine bl_drew ?_ | refine bl_drewN ?_ _))
              have hP10 := hPc.below hb10'
              have hO10 := hOc.below hb10'
              have hB10 := hB1c.below hb10'
              have hk10 := (hkk.trans (keeps_of_below (B := n0 + 6) hbx)).trans (keeps_of_below (B := n0 + 6) hb10')
              have hq10 := (hqk.trans (KpL.below (B := B) hbx)).trans (KpL.below (B := B) hb10')
              clear hPk hOk hB1 hkk hqk hPc hOc hB1c f1 f5 hF
              by_cases hE0 : E1 = 0
              · have hE' : (E1 != 0) = false := by simp [hE0]
                have hE0' := HE1.out.trans hE0
                have hlen := errP_zero hE0'
                have hlen2 := hP10.len
                have HD2 : Hid (parseB 0 bars out = parseB (j + 1) (bars.drop (j + 1)) (out' ++ [(x1, y1, s1)])) := by
                  unfold Hid
                  rw [HD.out, List.drop_eq_getElem_cons hlt, HB.out, parseB, if_neg (by simp [hE0'])]
                have hll : (out' ++ [(x1, y1, s1)]).length ≤ 4096 := by simp; omega
                have HL2 := Lib.hid hll
                clear hll hE0 hE0' hlen hlen2 HE1
                have f5 := hP10.b5.facts
                have f1 := hB10.facts
                have hsz := hP10.sz
                have al : Below w10.heap.size w10 (w10.alloc (.cells #[.int .i64 x1, .int .i64 y1, .int .i64 s1] 60)) := bl_alloc bl_refl _
                have hPa := hP10.below al
                have hOa := hO10.below al
                have hka := hk10.trans (keeps_of_below (B := n0 + 6) al)
                have hqa := hq10.trans (KpL.below (B := B) al)
                have hlx : out'.length ≤ 1000000 := by have := hP10.len; omega
                gi_wp2_with (gi_at_builtin; refine wpListIn_appAt hP10.own rfl _ _ rfl rfl rfl rfl hlx hsz ?_; intro v11 w11 hO11 hg11 hv11; obtain ⟨A11, c11, rfl⟩ := hO11.shape; have f11 := (hPa.b5.grown hg11 (hPa.own.ne_blk hPa.b5 (by decide))).facts)
                obtain ⟨hP12, hk12⟩ := hPa.app hg11 hO11 HL2.out
                have hnj2 : (Value.slice (some ⟨b0, o0, none⟩) bars.length c4).ownBlock = none ∨ (Value.slice (some ⟨b0, o0, none⟩) bars.length c4).ownBlock ≠ (Value.slice A11 (out' ++ [(x1, y1, s1)]).length c11).ownBlock := by
                  rcases hv11 with h | ⟨k, h, hk⟩
                  · rw [h]; exact hnj
                  · refine .inr fun e => ?_
                    have := (hO10.lt _ (e.trans h)).2
                    omega
                have hO12 := (hOa.kept hg11 hnj).set (p := ⟨n0 + 1 + 1 + 1, 0, none⟩) (fun e => by have := (hOa.lt _ e).1; simp only at this; omega) (.slice A11 (out' ++ [(x1, y1, s1)]).length c11)
                have hq12 := (hqa.trans (KpL.grown hPa.own hg11)).trans (KpL.set (B := B) (g := n0 + 1 + 1 + 1) (i := 0) (u := .slice A11 (out' ++ [(x1, y1, s1)]).length c11) (by omega))
                have hk13 := hka.trans hk12
                simp only [List.length_append, List.length_cons, List.length_nil, Nat.zero_add] at hP12 hO12 hnj2 hk13 hq12
                go_roundw
                case rel => exact ⟨j + 1, out' ++ [(x1, y1, s1)], _, by omega, by go_num, HD2.out, hP12, hO12, hnj2, hk13, hq12⟩
                case measure => simp [intOf]; omega
              · have hE' : (E1 != 0) = true := by simp [hE0]
                have hE2 : errP out' j (x1, y1, s1) = E1 := HE1.out
                have he : parseLs 0 (linesL s) [] = ([], (pre.length : Int), E1) := by
                  rw [HE.out, HD.out, List.drop_eq_getElem_cons hlt, HB.out, parseB, hE2, if_pos hE0, if_pos hE0]
                have HE2 := Lib.hid he
                clear he hE2 hE0 HE1
                have f2 := hP10.b2.facts
                have f3 := hP10.b3.facts
                have f4 := hP10.b4.facts
                have f6 := hP10.b6.facts
                obtain ⟨P0, hP0⟩ : ∃ P0 : World → Prop, P0 = fun X => X.cell? ⟨n0 + 1 + 1 + 1 + 1, 0, none⟩ = some (.int .i64 (pre.length : Int)) := ⟨_, rfl⟩
                have hp0 : P0 w10.drew := by rw [hP0]; show _ = _; rw [(hP10.b6.below (show Below w10.heap.size w10 w10.drew from bl_drew bl_refl)).cell]; rfl
                have hPi : ∀ X, P0 X → X.cell? ⟨n0 + 1 + 1 + 1 + 1, 0, none⟩ = some (.int .i64 (pre.length : Int)) := fun X h => by rw [hP0] at h; exact h
                have hp1 : P0 (w10.setCell ⟨n0, 0, none⟩ (.slice none 0 0)).drew := by
                  rw [hP0]
                  show _ = _
                  rw [((hP10.b6.setO (i := 0) (u := .slice none 0 0) (show n0 + 1 + 1 + 1 + 1 ≠ n0 by omega)).below (bl_drew bl_refl)).cell]
                  rfl
                have hp2 : P0 ((w10.setCell ⟨n0, 0, none⟩ (.slice none 0 0)).setCell ⟨n0 + 1, 0, none⟩ (.int .i64 (pre.length : Int))).drew := by
                  rw [hP0]
                  show _ = _
                  rw [(((hP10.b6.setO (i := 0) (u := .slice none 0 0) (show n0 + 1 + 1 + 1 + 1 ≠ n0 by omega)).setO (i := 0) (u := .int .i64 (pre.length : Int)) (show n0 + 1 + 1 + 1 + 1 ≠ n0 + 1 by omega)).below (bl_drew bl_refl)).cell]
                  rfl
                have hg : ∀ g : BelM 0 w10 P0, g.val.cell? ⟨n0 + 1 + 1 + 1 + 1, 0, none⟩ = some (.int .i64 (pre.length : Int)) := fun g => hPi _ g.has
                clear hP0
                haveI hne : Nonempty (BelM 0 w10 P0) := BelM.none_empty (Below.refl 0 w10).drew hp0
                gi_upto_region 20 with fail
                refine wpIn_region_ordm (0) (P0) [0, 1] [(2, false), (3, false)] [4] (fun _ => trivial) (by kernel_rfl) (by kernel_rfl) (by kernel_rfl) (fun d _ _ _ _ h => by cases d <;> exact h) (hp0) ?_
                simp only [List.map_cons, List.map_nil, List.getD_cons_zero, List.getD_cons_succ]
                repeat (go_big_quiet_step (fail))
                refine wpQuiet_nil ?_
                refine wpMidI_runm rfl (fun K hK => ?_)
                go_simp
                refine hK _ _ ((below_setK (Below.refl 0 w10) (Nat.zero_le _)).drew) (hp1) ?_
                clear hK K
                refine wpMidI_runm rfl (fun K hK => ?_)
                go_simp
                refine hK _ _ ((below_setK (below_setK (Below.refl 0 w10) (Nat.zero_le _)) (Nat.zero_le _)).drew) (hp2) ?_
                clear hK K
                refine wpMidI_nil ?_
                gi_wp2
                obtain ⟨e2, e3, e4, e5, e6, e7⟩ := hP10.exit E1 _ rfl
                exact ⟨hk10.trans e7, rfl, _, _, HE2.out, e2, e3, e4, e5, e6⟩
          · obtain rfl : j = bars.length := by omega
            have hpl : pre.length ≤ 65536 := by
              have h1 := lines_count s
              rw [HX.out] at h1
              simp at h1
              omega
            have he2 : parseLs 0 (linesL s) [] = parseLs (pre.length + 1) r out' := by
              rw [HE.out, HD.out, List.drop_length, parseB, if_neg (by simp)]
            have HE2 := Lib.hid he2
            clear he2
            have f6 := hPj.b6.facts
            gi_wp2
            obtain ⟨hP12, hk12⟩ := hPj.incr
            refine ⟨hkj.trans hk12, hqj.trans (KpL.set (by omega)), u', out', r, ?_, ?_, ?_⟩
            · rw [HX.out]; simp
            · rw [HE2.out]; simp
            · simpa using hP12
end Go.Proofs.YtkmjcoofkgpanaaGreatDoor

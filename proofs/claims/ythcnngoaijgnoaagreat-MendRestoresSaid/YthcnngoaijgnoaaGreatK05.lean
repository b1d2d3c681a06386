/- The iterator over the knots of a hole: for every loop body that keeps what lay. Conditions: none. -/
import Derived.Test.YthcnngoaijgnoaaGreatK04
import Derived.WalkMore
namespace Go.Proofs.YthcnngoaijgnoaaGreat
open Go.RowKit Go.ChangeMaps
set_option maxHeartbeats 2000000
set_option maxRecDepth 100000
attribute [local go_sem] Oper.semAt_some

theorem keeps_of_below {B : Nat} {W W' : World} (h : Below W.heap.size W W') : KeepsFrom B W W' :=
  ⟨h.size, fun k _ _ hk _ => (h.block k (Array.getElem?_eq_some_iff.1 hk).1).trans hk⟩
theorem grown_none {W W' : World} (h : Below W.heap.size W W') : W.grownBy W' none := grownBy_of_below h none
theorem abides_below {β : Type} {B : Nat} {J : β → World → Prop} (hJ : AbidesFrom B J) {s : β} {W W' : World} (h : J s W) (hb : Below W.heap.size W W') : J s W' :=
  hJ s W W' none h (grown_none hb) (fun r e => by cases e)
/-- below n₀ the blocks that are not in S are as they were -/
structure KeepB (S : List Nat) (n₀ : Nat) (A B : World) : Prop where
  os : B.os = A.os
  tape : B.tape = A.tape
  output : B.output = A.output
  size : A.heap.size ≤ B.heap.size
  block : ∀ k, k < n₀ → k ∉ S → B.heap[k]? = A.heap[k]?
section
variable {S : List Nat} {n₀ : Nat} {A B C w : World}
theorem KeepB.refl (S : List Nat) (n₀ : Nat) (A : World) : KeepB S n₀ A A := ⟨rfl, rfl, rfl, Nat.le_refl _, fun _ _ _ => rfl⟩
theorem KeepB.trans (h : KeepB S n₀ A B) (h' : KeepB S n₀ B C) : KeepB S n₀ A C :=
  ⟨h'.os.trans h.os, h'.tape.trans h.tape, h'.output.trans h.output, Nat.le_trans h.size h'.size, fun k h1 h2 => (h'.block k h1 h2).trans (h.block k h1 h2)⟩
theorem KeepB.of_chg (h : Chg S A B) (hn : n₀ ≤ A.heap.size) : KeepB S n₀ A B := ⟨h.os, h.tape, h.output, h.size, fun k h1 h2 => h.block k (by omega) h2⟩
theorem KeepB.of_below (h : Below A.heap.size A B) (hn : n₀ ≤ A.heap.size) : KeepB S n₀ A B := KeepB.of_chg (Chg.of_below h) hn
theorem Chg.keep (h : Chg S w A) (k : KeepB S w.heap.size A B) : Chg S w B :=
  ⟨k.os.trans h.os, k.tape.trans h.tape, k.output.trans h.output, Nat.le_trans h.size k.size, fun i h1 h2 => (k.block i h1 h2).trans (h.block i h1 h2)⟩
theorem keepB_t (h : KeepB S n₀ A B) (k : KeepB S n₀ B C) : KeepB S n₀ A C := h.trans k
theorem keepB_b (hn : n₀ ≤ w.heap.size) (W : World) (l : Nat) (o o' : Obj) (hl : w.heap.size ≤ l) (h : W.heap[l]? = some o) (h1 : o.isCells = false) (h2 : o.isWalk = false) : KeepB S n₀ W (W.putObj l o') := by
  have := belowK_b hn W l o o' hl h h1 h2
  exact ⟨this.os, this.tape, this.output, this.size, fun k hk _ => this.block k hk⟩
theorem KeepB.of_grown {row : Option Nat} (h : A.grownBy B row) (hn : n₀ ≤ A.heap.size) (hr : ∀ k, row = some k → n₀ ≤ k) : KeepB S n₀ A B := ⟨h.os, h.tape, h.output, h.size, fun k h1 _ => h.block k (by omega) (fun e => by have := hr k e.symm; omega)⟩
theorem KeepB.of_set {g i : Nat} {u : Value} (hg : g ∈ S) : KeepB S n₀ A (A.setCell ⟨g, i, none⟩ u) := ⟨rfl, rfl, rfl, by simp [World.setCell], fun k _ h2 => Below.heap_setCell A ⟨g, i, none⟩ u k (fun e => h2 (by
  have e' : k = g := e
  rw [e']; exact hg))⟩
theorem HoleAt.chg {h rb rk : Nat} {D : List Bar} (H : HoleAt w h rb rk D) (hc : Chg S w A) (h1 : h ∉ S) (h2 : rb ∉ S) (h3 : rk ∉ S) : HoleAt A h rb rk D := by
  obtain ⟨a1, ⟨mb, cb, a2, a3⟩, ⟨mk, ck, a4, a5⟩, a6, a7⟩ := H
  exact ⟨a1.chg hc h1, ⟨mb, cb, a2.chg hc h2, a3⟩, ⟨mk, ck, a4.chg hc h3, a5⟩, a6, a7⟩
end
/-- a knot and its legs, as a round gets them -/
def encs (D : List Bar) (k : Knot) : Array Value := #[kk k, lv (legsAt D k)]
theorem all_stops (n : Nat) (hn : 1 ≤ n) (S : List Nat) (bl bh h rb rk base : Nat) (D : List Bar) (v : Value) (w : World) (h1 : bl ∉ S) (h2 : bh ∉ S) (h3 : h ∉ S) (h4 : rb ∉ S) (h5 : rk ∉ S) (hS : ∀ k ∈ S, k < base)
    (hBl : Blk w bl 34 #[v]) (hBh : Blk w bh 102 #[.pointer (some ⟨h, 0, none⟩)]) (H : HoleAt w h rb rk D) (hv : OwK base w v (holeK D)) :
    SeqStopsK Fence.wide n Tryz.prog 142 #[.pointer (some ⟨bl, 0, none⟩), .pointer (some ⟨bh, 0, none⟩)] (encs D) (KeepB S w.heap.size) (fun ys => ys = holeK D) (fun pre => pre <+: holeK D) (holeK D).length w := fun l J Jx W hW hJ _ hY h0 => by
  obtain ⟨A, c, rfl⟩ := hv.shape
  have hl : (holeK D).length ≤ maxLen := by
    obtain ⟨A', c', e, hlc, hcm, _⟩ := hv.rd kc_len
    omega
  unfold maxLen at hl
  obtain ⟨kn, hkn⟩ : ∃ kn, holeK D = kn := ⟨_, rfl⟩
  rw [hkn] at hY hl hv hBl ⊢
  clear hkn
  have hBlW := hBl.below hW
  have fBl := hBlW.facts
  have hcW : Chg S w W := Chg.of_below hW
  refine callsIn_of_wp Tryz.func142 rfl trivial ?_ rfl
  simp only [Tryz.ntmps142, List.size_toArray, List.length_cons, List.length_nil, Nat.reduceAdd, Nat.reduceSub, Array.replicate_succ, Array.replicate_zero, List.push_toArray, List.append_toArray, List.nil_append, List.cons_append]
  gi_wp2
  gi_loopw [8] (fun i wr => ∃ k : Nat, k ≤ kn.length ∧ i = .int .i64 k ∧ J (kn.take k) wr ∧ Chg S w wr ∧ W.heap.size ≤ wr.heap.size) (fun i _ => kn.length - (intOf i).toNat)
  case atStart => exact ⟨0, Nat.zero_le _, rfl, h0, hcW, Nat.le_refl _⟩
  case round =>
    clear fBl hBlW
    obtain ⟨k, hk, rfl, hJs, hbw, hsz⟩ := hrel
    by_cases hlt : k < kn.length
    · have hv2 := (hv.chg hbw hS).rd kc_len
      have hBl2 := hBl.chg hbw h1
      have hBh2 := hBh.chg hbw h2
      have H1 := H.chg hbw h3 h4 h5
      have H2 := H1.below (bl_alloc bl_refl (.cells #[.int .i64 kn[k].1, .int .i64 kn[k].2] 26))
      obtain ⟨A', c', e', _, _, hr2⟩ := hv2
      obtain ⟨rfl, rfl⟩ : A = A' ∧ c = c' := by simpa using e'
      clear e'
      obtain ⟨b, off, rfl, hb, e0, e1⟩ := hr2.knot hlt
      have hHB := H1.blk
      obtain ⟨mk, ck, hm, hok, gk⟩ := H2.knots
      obtain ⟨L, hL⟩ : ∃ L, legsAt D kn[k] = L := ⟨_, rfl⟩
      have hlook : ∀ g : Bel (wr.alloc (.cells #[.int .i64 kn[k].1, .int .i64 kn[k].2] 26)).heap.size (wr.alloc (.cells #[.int .i64 kn[k].1, .int .i64 kn[k].2] 26)),
          (Instr.lookup 109 (.map (some rk)) (.agg #[.int .i64 kn[k].1, .int .i64 kn[k].2]) false).run Tryz.prog g.val = .ok (.agg #[.bool L.1, .bool L.2.1, .bool L.2.2.1, .bool L.2.2.2]) g.val := fun g => by
        rw [look_legs (hm.below g.below) kn[k].1 kn[k].2, gk (kn[k].1, kn[k].2), legsO_getD, show legsAt D (kn[k].1, kn[k].2) = L from hL]; rfl
      have fBl2 := hBl2.facts
      have fBh2 := hBh2.facts
      have fHB := hHB.facts
      have hJ1 := abides_below hJ hJs (bl_drew (bl_alloc bl_refl (.cells #[.int .i64 kn[k].1, .int .i64 kn[k].2] 26)))
      obtain ⟨fn, tmps, assign, body, hy, hR⟩ := hY _ kn[k] _ hJ1 (by simp; omega)
      unfold encs at hy
      rw [hL] at hy
      have hy' : (Instr.yield l #[.agg #[.int .i64 kn[k].1, .int .i64 kn[k].2], .agg #[.bool L.1, .bool L.2.1, .bool L.2.2.1, .bool L.2.2.2]]).run Tryz.prog (wr.alloc (.cells #[.int .i64 kn[k].1, .int .i64 kn[k].2] 26)).drew = .ok (.round l fn tmps assign body) (wr.alloc (.cells #[.int .i64 kn[k].1, .int .i64 kn[k].2] 26)).drew := hy
      clear hy hL hm hok gk
      gi_wp2
      refine wpIn_region_ords [0, 1, 2, 3, 4, 5, 6, 7] [] [8, 9] (fun _ => trivial) (by kernel_rfl) (by kernel_rfl) (by kernel_rfl) (fun d _ _ _ _ h => by cases d <;> exact h) ?_
      simp only [List.map_cons, List.map_nil, List.getD_cons_zero, List.getD_cons_succ]
      repeat (go_big_quiet_step (fail))
      refine wpQuiet_nil ?_
      refine wpMidI_nil ?_
      gi_wp2
      refine hR.mono ?_
      rintro e W3 (⟨rfl, hJ3, hk3⟩ | ⟨rfl, hJx3⟩)
      · have hT : kn.take (k + 1) = kn.take k ++ [kn[k]] := List.take_succ_eq_append_getElem hlt
        have HT := Lib.hid hT
        clear hT
        gi_wp2
        go_roundw
        case rel => exact ⟨k + 1, by omega, by go_num, by rw [HT.out]; exact hJ3, ((hbw.alloc _).drew).keep hk3, by have := hk3.size; simp at this; omega⟩
        case measure => simp [intOf]; omega
      · have hT : kn.take (k + 1) = kn.take k ++ [kn[k]] := List.take_succ_eq_append_getElem hlt
        have HT := Lib.hid hT
        clear hT
        gi_wp2
        refine bodyPost_ret (results_none rfl _ _ _) rfl ?_
        exact ⟨⟨_, rfl⟩, .inr ⟨_, by rw [← HT.out]; exact List.take_prefix _ _, hJx3⟩⟩
    · have hkl : k = kn.length := by omega
      rw [hkl, List.take_length] at hJs
      gi_wp2
      go_end0
      exact ⟨⟨_, rfl⟩, .inl ⟨_, rfl, hJs⟩⟩
end Go.Proofs.YthcnngoaijgnoaaGreat

/- The odd knots of a hole, by a range over its knots, walked. Conditions: the hole's bars have sides 1 or -1. -/
namespace Go.Proofs.YthcnngoaijgnoaaGreat
open Go.RowKit Go.ChangeMaps
set_option maxHeartbeats 4000000
set_option maxRecDepth 100000
attribute [local go_sem] Oper.semAt_some

/-! ## an append within a round; what a round's invariant abides -/
section
variable {F : Fence} {n : Nat} {α : Type} {enc : α → List Value} {sz : Nat} {e : TypeId} {w : World} {P : Program}
theorem wpListIn_app {bytes : Nat} {t : TypeId} {ops : Array Oper} {rest : List Oper} {o : Oper} {a : Act} {Q : Exit → Act → World → Prop} (hgd : o.guard = none) (E : Elem P t e sz bytes) (henc : ∀ x, (enc x).length = sz) (hone : ∀ x, ∀ u ∈ enc x, u.oneCell' = true) (s x : Operand)
    (ho : o.op = .call { callee := .builtin .append, args := #[s, x], argTypes := #[t, t] }) (base : Nat) (v u : Value) (l r : List α) (hs : a.eval s = v) (hx : a.eval x = u) (hown : Own enc sz base e w v l) (hu : Sl enc sz w u r)
    (h63 : l.length + r.length ≤ maxLen) (hb : (l.length + r.length) * bytes ≤ 140737488355328) (hbase : base ≤ w.heap.size)
    (h : ∀ v' w', Own enc sz base e w' v' (l ++ r) → w.grownBy w' v.ownBlock → wpListIn F n P ops Q rest (a.put o.dst v') w') : wpListIn F n P ops Q (o :: rest) a w := by
  refine wpListIn_plain hgd fun K hK' => ?_
  obtain ⟨v', w', hr, h2, h3⟩ := run_app E henc hone base o.type v u l r hown hu h63 hb hbase
  unfold Oper.wpIn
  refine ⟨by simp [Oper.about, ho, resolve, Target.leads, Sem.run_pure], ?_⟩
  rw [Oper.semAt_plain F _ _ (by rw [ho]; intro c hc'; cases hc')]
  simp [execOp, ho, resolve, invoke, builtin, hs, hx, hr, Result.andThen]
  exact hK' _ _ (h v' w' h2 h3)
theorem nc_blk {B : Nat} {row : Option Nat} {g : Nat} {t : TypeId} {cs : Array Value} (hB : Blk w g t cs) (hr : ∀ r, row = some r → B ≤ r ∧ ∃ o : Obj, w.heap[r]? = some o ∧ o.isCells = false) : some g ≠ row := fun e => by
  obtain ⟨_, o, ho, hc⟩ := hr g e.symm
  unfold Blk at hB
  rw [hB] at ho
  cases ho
  cases hc
theorem nc_own {B base : Nat} {row : Option Nat} {v : Value} {l : List α} (ho : Own enc sz base e w v l) (hr : ∀ r, row = some r → B ≤ r ∧ ∃ o : Obj, w.heap[r]? = some o ∧ o.isCells = false) : v.ownBlock = none ∨ v.ownBlock ≠ row := by
  rcases ho.2 with ⟨rfl, _⟩ | ⟨g, cap, cur, rfl, _, hh, _⟩
  · exact .inl rfl
  · refine .inr fun e => ?_
    obtain ⟨_, o, ho, hc⟩ := hr g (by simpa [Value.ownBlock] using e.symm)
    rw [hh] at ho
    cases ho
    cases hc
theorem keeps_grown {B base : Nat} {w' : World} {v : Value} {l : List α} (ho : Own enc sz base e w v l) (hg : w.grownBy w' v.ownBlock) : KeepsFrom B w w' :=
  ⟨hg.size, fun k o _ hk hc => (hg.block k (Array.getElem?_eq_some_iff.1 hk).1 (fun e => by
    rcases ho.2 with ⟨rfl, _⟩ | ⟨g, cap, cur, rfl, _, hh, _⟩
    · cases e
    · have e' : k = g := by simpa [Value.ownBlock] using e
      rw [e', hh] at hk
      cases hk
      cases hc)).trans hk⟩
theorem keeps_set {B : Nat} {g : Nat} {t : TypeId} {cs : Array Value} (hB : Blk w g t cs) (i : Nat) (u : Value) : KeepsFrom B w (w.setCell ⟨g, i, none⟩ u) :=
  ⟨by simp [World.setCell], fun k o _ hk hc => (Below.heap_setCell w ⟨g, i, none⟩ u k (fun e => by
    have e' : k = g := e
    unfold Blk at hB
    rw [e', hB] at hk
    cases hk
    cases hc)).trans hk⟩
end
theorem wpListIn_appK1 {F : Fence} {n : Nat} {ops : Array Oper} {rest : List Oper} {o : Oper} {a : Act} {Q : Exit → Act → World → Prop} {base : Nat} {W : World} {v : Value} {X Y : Int} {l : List Knot} (hown : OwK base W v l) {g : Nat} (hgd : o.guard = none) (s x : Operand)
    (ho : o.op = .call { callee := .builtin .append, args := #[s, x], argTypes := #[34, 34] })
    (hs : a.eval s = v) (hx : a.eval x = .slice (some ⟨g, 0, none⟩) 1 1) (hg : W.heap.size = g) (hlen : l.length ≤ 1000000) (hbase : base ≤ W.heap.size)
    (h : ∀ v' w', OwK base w' v' (l ++ [(X, Y)]) → (W.alloc (.cells #[.int .i64 X, .int .i64 Y] 26)).grownBy w' v.ownBlock → wpListIn F n Tryz.prog ops Q rest (a.put o.dst v') w') :
    wpListIn F n Tryz.prog ops Q (o :: rest) a (W.alloc (.cells #[.int .i64 X, .int .i64 Y] 26)) := by
  subst hg
  exact wpListIn_app hgd knot_elem kc_len kc_one s x ho base v _ l [(X, Y)] hs hx (hown.alloc _) (Sl.one_knot W X Y) (by simp [maxLen]; omega) (by simp; omega) (by simp; omega) h

theorem Blk.putDef {W : World} {g D' : Nat} {t : TypeId} {cs : Array Value} {ds : Option (List Deferred)} (hB : Blk W g t cs) (hK : W.heap[D']? = some (.deferred ds)) (o : Obj) : Blk (W.putObj D' o) g t cs :=
  hB.grown (grownBy_putObj' W D' o) (fun e => by
    have e' : g = D' := by simpa using e
    unfold Blk at hB
    rw [e', hK] at hB
    cases hB)
theorem below_putDef {w W : World} {D' : Nat} {ds : Option (List Deferred)} (hb : Below w.heap.size w W) (hK : W.heap[D']? = some (.deferred ds)) (hD : w.heap.size ≤ D') (o : Obj) : Below w.heap.size w (W.putObj D' o) :=
  hb.trans (belowK_b (w := w) (Nat.le_refl _) W D' _ _ hD hK rfl rfl)
/-- the boxes of a round over a hole's knots -/
structure Bx (D : List Bar) (x : Knot) (n₀ Bk Bl : Nat) (W : World) : Prop where
  k : Blk W Bk 26 #[.int .i64 x.1, .int .i64 x.2]
  l : Blk W Bl 107 #[.bool (legsAt D x).1, .bool (legsAt D x).2.1, .bool (legsAt D x).2.2.1, .bool (legsAt D x).2.2.2]
  hk : n₀ ≤ Bk
  hl : n₀ ≤ Bl
theorem Bx.own {D : List Bar} {x : Knot} {n₀ Bk Bl B : Nat} : OwnFrom B (fun (_ : Unit) W => Bx D x n₀ Bk Bl W) := fun _ _ _ _ hs hg hr =>
  ⟨hs.k.grown hg (nc_blk hs.k hr), hs.l.grown hg (nc_blk hs.l hr), hs.hk, hs.hl⟩
theorem hodd_any (h rb rk : Nat) (D : List Bar) (w : World) (H : HoleAt w h rb rk D) (hs : ∀ b ∈ D, Sided b) (hlen : D.length ≤ 100000) :
    Calls Tryz.prog 106 #[.pointer (some ⟨h, 0, none⟩)] w (RK w (oddK D)) := by
  refine (callsIn_wide (n := 6)).1 ?_
  refine callsIn_of_wp_marks Tryz.func106 rfl trivial ?_ rfl
  simp only [Tryz.ntmps106, List.size_toArray, List.length_cons, List.length_nil, Nat.reduceAdd, Nat.reduceSub, Array.replicate_succ, Array.replicate_zero, List.push_toArray, List.append_toArray, List.nil_append, List.cons_append]
  gi_wp2_with (refine ⟨trivial, ?_⟩; gi_at_call 93; refine (callsIn_wide.2 (all_any h rb rk D _ (H.below (bl_alloc bl_refl _)) hs hlen)).mono ?_; rintro e w1 ⟨bh, bl, v, rfl, hbh, hbl, hBh, hBl, hv, hb1⟩)
  have hw1 : w.heap.size + 1 ≤ w1.heap.size := by have := hb1.size; simpa using this
  simp only [World.size_alloc] at hbh hbl hv
  have hHlt := H.blk.lt
  have hrblt : rb < w.heap.size := by obtain ⟨_, _, hm, _⟩ := H.bars; exact hm.lt
  have hrklt : rk < w.heap.size := by obtain ⟨_, _, hm, _⟩ := H.knots; exact hm.lt
  have hO1 := (Blk.new w 34 #[.slice none 0 0]).below hb1
  have hbw1 : Below w.heap.size w w1 := bl_a hb1
  have hH1 := (H.below (bl_alloc bl_refl (.cells #[.slice none 0 0] 34))).below hb1
  have hN := holeK_len D
  refine wpIn_rangeFunc_ownH rfl (by omega) (gf := 142) (lb := #[.pointer (some ⟨bl, 0, none⟩), .pointer (some ⟨bh, 0, none⟩)]) rfl trivial (enters_of Tryz.func142 (by kernel_rfl) rfl)
    (all_stops 5 (by omega) [w.heap.size] bl bh h rb rk (w.heap.size + 1) D v w1 (by simp; omega) (by simp; omega) (by simp; omega) (by simp; omega) (by simp; omega) (by simp) hBl hBh hH1 hv) keepB_t (keepB_b (Nat.le_refl _)) (Below.refl _ _) (fun _ => rfl)
    (fun pre W => (∃ u, Blk W w.heap.size 34 #[u] ∧ OwK w1.heap.size W u (pre.filter fun k => oddL (legsAt D k))) ∧ Below w.heap.size w W ∧ w1.heap.size ≤ W.heap.size)
    (fun _ _ _ => False)
    (fun _ W W' row hs hg hr => by
      obtain ⟨⟨u, h1, h2⟩, h3, h4⟩ := hs
      exact ⟨⟨u, h1.grown hg (nc_blk h1 hr), h2.kept hg (nc_own h2 hr)⟩, bl_grown hg h3 (fun k e => by have := (hr k e).1; omega), Nat.le_trans h4 hg.size⟩)
    (fun _ _ _ _ _ hs _ _ => hs)
    ⟨⟨_, hO1, Own.nil_⟩, hbw1, Nat.le_refl _⟩
    (fun x a' W => ∃ Bk Bl, Bx D x w1.heap.size Bk Bl W ∧ a' = { tmps := #[.pointer (some ⟨h, 0, none⟩), undef, .slice none 0 0, .pointer (some ⟨w.heap.size, 0, none⟩), .pointer (some ⟨Bk, 0, none⟩), .pointer (some ⟨Bl, 0, none⟩), .pointer (some ⟨h, 0, none⟩), .func (.func 142) #[] #[.pointer (some ⟨bl, 0, none⟩), .pointer (some ⟨bh, 0, none⟩)], kk x, lv (legsAt D x), undef, undef, undef, undef, undef, undef, undef], defers := [] })
    (fun x a' s W W' row hs hg hr => by
      obtain ⟨Bk, Bl, hX, rfl⟩ := hs
      exact ⟨Bk, Bl, Bx.own s W W' row hX hg hr, rfl⟩) ?assign ?body ?done ?stop
  case assign =>
    rintro l pre x W K ⟨⟨u, hu1, hu2⟩, hbw, hsz⟩ hK
    unfold encs kk lv
    gi_wp2
    have hb2 : Below W.heap.size W ((W.alloc (.cells #[.int .i64 x.1, .int .i64 x.2] 26)).alloc (.cells #[.bool (legsAt D x).1, .bool (legsAt D x).2.1, .bool (legsAt D x).2.2.1, .bool (legsAt D x).2.2.2] 107)) := by (repeat (first | exact bl_refl | assumption | (apply bl_then; assumption) | refine bl_alloc ?_ _ | refine bl_drew ?_ | refine bl_drewN ?_ _))
    exact hK _ _ (keeps_of_below hb2) (KeepB.of_below hb2 hsz) ⟨⟨u, hu1.below hb2, hu2.below hb2⟩, bl_then hb2 hbw, Nat.le_trans hsz hb2.size⟩
      ⟨W.heap.size, W.heap.size + 1, ⟨(Blk.new W _ _).alloc _, Blk.new1 W _ _ _, hsz, by omega⟩, rfl⟩
  case body =>
    rintro l pre x a' W _ _ ⟨⟨u, hu1, hu2⟩, hbw, hsz⟩ ⟨Bk, Bl, hX, rfl⟩ hlt
    have hpl : (pre.filter fun k => oddL (legsAt D k)).length ≤ pre.length := List.length_filter_le _ _
    have fk := hX.k.facts
    have fl := hX.l.facts
    have fo := hu1.facts
    obtain ⟨g, hg⟩ : ∃ g, oddL ((legsAt D x).1, (legsAt D x).2.1, (legsAt D x).2.2.1, (legsAt D x).2.2.2) = g := ⟨_, rfl⟩
    have hg' : oddL (legsAt D x) = g := hg
    have hT : Hid ((pre ++ [x]).filter (fun k => oddL (legsAt D k)) = pre.filter (fun k => oddL (legsAt D k)) ++ if g then [x] else []) := by
      unfold Hid
      rw [List.filter_append, ← hg']
      cases h : oddL (legsAt D x) <;> simp [h]
    unfold kk lv
    cases g
    · gi_wp2_with (refine ⟨trivial, ?_⟩; gi_at_call 128; refine (CallsIn.inRound l (callsIn_wide.2 (odd_any _ _ _ _ _))).mono ?_; rintro e w2 ⟨rfl, hb2⟩)
      exact ⟨keeps_of_below hb2, KeepB.of_below hb2 hsz, ⟨u, hu1.below hb2, by rw [hT.out]; simpa using hu2.below hb2⟩, bl_then hb2 hbw, Nat.le_trans hsz hb2.size⟩
    · gi_wp2_with (first | (refine ⟨trivial, ?_⟩; gi_at_call 128; refine (CallsIn.inRound l (callsIn_wide.2 (odd_any _ _ _ _ _))).mono ?_; rintro e w2 ⟨rfl, hb2⟩; have hu1' := hu1.below hb2; have hu2' := hu2.below hb2; have hk' := hX.k.below hb2; have fk' := hk'.facts; have fo' := hu1'.facts) | (gi_at_builtin; refine wpListIn_appK1 hu2' rfl _ _ rfl rfl rfl rfl (by omega) (Nat.le_trans hsz hb2.size) ?_; intro v3 w3 hu3 hgr3; obtain ⟨A3, c3, rfl⟩ := hu3.shape; have hu13 := (hu1'.alloc (.cells #[.int .i64 x.1, .int .i64 x.2] 26)).grown hgr3 (hu2'.ne_blk hu1' (by decide)); have fo3 := hu13.facts))
      simp only [List.length_append, List.length_cons, List.length_nil, Nat.zero_add] at hu3
      have hal : Below w2.heap.size w2 (w2.alloc (.cells #[.int .i64 x.1, .int .i64 x.2] 26)) := bl_alloc bl_refl _
      have hsz2 : w1.heap.size ≤ (w2.alloc (.cells #[.int .i64 x.1, .int .i64 x.2] 26)).heap.size := Nat.le_trans (Nat.le_trans hsz hb2.size) hal.size
      have hbw3 : Below w.heap.size w w3 := bl_grown hgr3 (bl_then hal (bl_then hb2 hbw)) (fun k e => by have := (hu2'.lt k e).1; omega)
      exact ⟨(keeps_of_below hb2).trans ((keeps_of_below hal).trans ((keeps_grown (hu2'.alloc _) hgr3).trans (keeps_set hu13 0 _))),
        (KeepB.of_below hb2 hsz).trans ((KeepB.of_below hal (Nat.le_trans hsz hb2.size)).trans ((KeepB.of_grown hgr3 hsz2 (fun k e => (hu2'.lt k e).1)).trans (KeepB.of_set (by simp)))),
        ⟨_, hu13.set_ 0 _, by rw [hT.out]; exact hu3.set (Ne.symm (hu3.ne_blk hu13 (by decide))) _⟩, bl_set hbw3 (by simp) _, Nat.le_trans hsz2 (Nat.le_trans hgr3.size (by simp [World.setCell]))⟩
  case done =>
    rintro D' ys W hD rfl ⟨⟨u, hu1, hu2⟩, hbw, hsz⟩ hK
    have fo := hu1.facts
    gi_wp2
    refine ⟨by simp, .inl ⟨_, _, rfl, run_takeDeferred hK, ?_⟩⟩
    exact ⟨_, results_tmp rfl _ _ _, u, rfl, Own.base_mono (ownsRow_putObj hu2 _ hK rfl) (by omega), hbw.trans (belowK_b (w := w) (Nat.le_refl _) W D' _ _ (by omega) hK rfl rfl)⟩
  case stop =>
    rintro D' c pre W _ _ h _
    exact h.elim
end Go.Proofs.YthcnngoaijgnoaaGreat

/- The legs of a knot as a list, and the first that is missing, walked. Conditions: none. -/
namespace Go.Proofs.YthcnngoaijgnoaaGreat
open Go.RowKit Go.ChangeMaps
set_option maxHeartbeats 2000000
set_option maxRecDepth 100000

/-- the first missing arm -/
def fstL (l : Legs) : Nat := if l.1 = true then 0 else if l.2.1 = true then 1 else if l.2.2.1 = true then 2 else 3
theorem fstL_hit {l : Legs} {k : Nat} (hk : k < 4) (h : lget l k = true) (hb : ∀ j, j < k → lget l j = false) : fstL l = k := by
  obtain rfl | rfl | rfl | rfl : k = 0 ∨ k = 1 ∨ k = 2 ∨ k = 3 := by omega
  · simp [lget] at h; simp [fstL, h]
  · have h0 := hb 0 (by omega)
    simp [lget] at h h0; simp [fstL, h, h0]
  · have h0 := hb 0 (by omega)
    have h1 := hb 1 (by omega)
    simp [lget] at h h0 h1; simp [fstL, h, h0, h1]
  · have h0 := hb 0 (by omega)
    have h1 := hb 1 (by omega)
    have h2 := hb 2 (by omega)
    simp [lget] at h h0 h1 h2; simp [fstL, h0, h1, h2]
theorem fstL_arm (D : List Bar) (k : Knot) : fstL (legsAt D k) = arm0 D k := by
  unfold fstL arm0 legsAt
  simp only [decide_eq_true_eq]
theorem fstL_lt (l : Legs) : fstL l < 4 := by
  unfold fstL
  repeat' split
  all_goals omega

theorem index_any (g : Nat) (L : Legs) (w : World) (hB : Blk w g 107 (lcs L)) (hne : L ≠ noLegs) :
    Calls Tryz.prog 125 #[.slice (some ⟨g, 0, none⟩) 4 4, .bool true] w (RV w (.int .i64 (fstL L))) := by
  have HN := Lib.hid hne
  clear hne
  have fB := hB.facts
  go_enter Tryz.func125, Tryz.ntmps125
  go_wp2
  go_loop [8] (fun i => ∃ k : Nat, k ≤ 4 ∧ i = .int .i64 k ∧ Hid (∀ j, j < k → lget L j = false)) (fun i => 4 - (intOf i).toNat)
  case atStart => exact ⟨0, by omega, rfl, fun j hj => absurd hj (by omega)⟩
  case round =>
    obtain ⟨k, hk, rfl, H⟩ := hrel
    by_cases hlt : k < 4
    · have hla := lcs_get (l := L) hlt
      obtain ⟨q, hq⟩ : ∃ q, lget L k = q := ⟨_, rfl⟩
      rw [hq] at hla
      have HQ := Lib.hid hq
      clear hq
      cases q
      · go_wp2
        go_round
        case rel => exact ⟨k + 1, by omega, by go_num, fun j hj => by
          by_cases e : j = k
          · rw [e]; exact HQ.out
          · exact H.out j (by omega)⟩
        case measure => simp [intOf]; omega
      · have hf := Lib.hid (fstL_hit hlt HQ.out H.out)
        go_wp2
        go_ret
        exact ⟨ret_int (by rw [hf.out]), by (repeat (first | exact bl_refl | assumption | (apply bl_then; assumption) | refine bl_alloc ?_ _ | refine bl_drew ?_ | refine bl_drewN ?_ _))⟩
    · exfalso
      apply HN.out
      have h := H.out
      obtain ⟨a, b, c, d⟩ := L
      have h0 := h 0 (by omega)
      have h1 := h 1 (by omega)
      have h2 := h 2 (by omega)
      have h3 := h 3 (by omega)
      simp [lget] at h0 h1 h2 h3
      simp [h0, h1, h2, h3, noLegs]

theorem legsOf_any (h rb rk : Nat) (D : List Bar) (x y : Int) (w : World) (H : HoleAt w h rb rk D) :
    Calls Tryz.prog 126 #[.pointer (some ⟨h, 0, none⟩), .agg #[.int .i64 x, .int .i64 y]] w
      fun e w' => ∃ g, e = .returned (.slice (some ⟨g, 0, none⟩) 4 4) ∧ w.heap.size ≤ g ∧ Blk w' g 107 (lcs (legsAt D (x, y))) ∧ Below w.heap.size w w' := by
  obtain ⟨mk, ck, hm, hok, gk⟩ := H.knots
  obtain ⟨L, hL⟩ : ∃ L, legsAt D (x, y) = L := ⟨_, rfl⟩
  have hm1 := hm.alloc (.cells #[.int .i64 x, .int .i64 y] 26)
  have hlook : ∀ g : Bel (w.alloc (.cells #[.int .i64 x, .int .i64 y] 26)).heap.size (w.alloc (.cells #[.int .i64 x, .int .i64 y] 26)),
      (Instr.lookup 109 (.map (some rk)) (.agg #[.int .i64 x, .int .i64 y]) false).run Tryz.prog g.val = .ok (.agg #[.bool L.1, .bool L.2.1, .bool L.2.2.1, .bool L.2.2.2]) g.val := fun g => by
    rw [look_legs (hm1.below g.below) x y, gk (x, y), legsO_getD, hL]; rfl
  rw [hL]
  have fH := H.blk.facts
  clear hm1 hm hok gk hL
  go_enter Tryz.func126, Tryz.ntmps126
  go_wp2
  refine wp_region_ords [0, 1, 2, 3, 4, 5] [(6, false)] [7] (by kernel_rfl) (by kernel_rfl) (fun d _ _ _ _ h => by cases d <;> exact h) ?_
  simp only [List.map_cons, List.map_nil, List.getD_cons_zero, List.getD_cons_succ]
  repeat (go_big_quiet_step (fail))
  refine wpQuiet_nil ?_
  clear hlook
  refine wpMid_run rfl (fun K hK => ?_)
  go_simp
  refine hK _ _ (by (repeat (first | exact bl_refl | assumption | (apply bl_then; assumption) | refine bl_alloc ?_ _ | refine bl_drew ?_ | refine bl_drewN ?_ _))) ?_
  clear hK K
  refine wpMid_nil ?_
  go_wp2
  go_ret
  exact ⟨_, rfl, by simp, by simpa [lcs] using (Blk.new (w.alloc (.cells #[.int .i64 x, .int .i64 y] 26)) 107 (lcs L)).drew, by (repeat (first | exact bl_refl | assumption | (apply bl_then; assumption) | refine bl_alloc ?_ _ | refine bl_drew ?_ | refine bl_drewN ?_ _))⟩
end Go.Proofs.YthcnngoaijgnoaaGreat

/- The walk of the twine from a knot with one missing bar, walked. Conditions: the hole's bars are within bounds, each once. -/
namespace Go.Proofs.YthcnngoaijgnoaaGreat
open Go.RowKit Go.ChangeMaps
set_option maxHeartbeats 4000000
set_option maxRecDepth 100000

/-! ## plain: what the program knows at a step -/
/-- a knot with four missing bars that has been come to from above, by the t-th step -/
def abv (D : List Bar) (d : Dart) (t : Nat) (k : Knot) : Prop := ∃ r, 0 < r ∧ r ≤ t ∧ (dart D d r).1 = k ∧ 3 - (dart D d (r - 1)).2 < 2 ∧ cnt (legsAt D k) = 4
theorem abv_zero (D : List Bar) (d : Dart) (k : Knot) : ¬ abv D d 0 k := fun ⟨r, h1, h2, _⟩ => by omega
theorem abv_step (D : List Bar) (d : Dart) (t : Nat) (k : Knot) : abv D d (t + 1) k ↔ abv D d t k ∨ ((dart D d (t + 1)).1 = k ∧ 3 - (dart D d t).2 < 2 ∧ cnt (legsAt D k) = 4) := by
  constructor
  · rintro ⟨r, h1, h2, h3, h4, h5⟩
    by_cases e : r = t + 1
    · subst e; exact .inr ⟨h3, h4, h5⟩
    · exact .inl ⟨r, h1, by omega, h3, h4, h5⟩
  · rintro (⟨r, h1, h2, h3, h4, h5⟩ | ⟨h3, h4, h5⟩)
    · exact ⟨r, h1, by omega, h3, h4, h5⟩
    · exact ⟨t + 1, by omega, Nat.le_refl _, h3, h4, h5⟩
theorem abv_no4 {D : List Bar} {d : Dart} {t : Nat} (h : cnt (legsAt D (dart D d (t + 1)).1) ≠ 4) (k : Knot) : abv D d (t + 1) k ↔ abv D d t k := by
  rw [abv_step]
  exact ⟨fun e => e.elim id (fun ⟨h1, _, h3⟩ => absurd (h1 ▸ h3) h), .inl⟩
theorem abv_low {D : List Bar} {d : Dart} {t : Nat} (h : ¬ 3 - (dart D d t).2 < 2) (k : Knot) : abv D d (t + 1) k ↔ abv D d t k := by
  rw [abv_step]
  exact ⟨fun e => e.elim id (fun ⟨_, h2, _⟩ => absurd h2 h), .inl⟩
theorem abv_up {D : List Bar} {d : Dart} {t : Nat} (h4 : cnt (legsAt D (dart D d (t + 1)).1) = 4) (h : 3 - (dart D d t).2 < 2) (k : Knot) : abv D d (t + 1) k ↔ k = (dart D d (t + 1)).1 ∨ abv D d t k := by
  rw [abv_step]
  constructor
  · rintro (h1 | ⟨h1, _⟩)
    · exact .inr h1
    · exact .inl h1.symm
  · rintro (h1 | h1)
    · exact .inr ⟨h1.symm, h, h1 ▸ h4⟩
    · exact .inl h1
theorem fineW_one (D : List Bar) (d : Dart) : fineW D d 1 := fun s h1 h2 => by omega
theorem fineW_step (D : List Bar) (d : Dart) (t : Nat) : fineW D d (t + 2) ↔ fineW D d (t + 1) ∧ (cnt (legsAt D (dart D d (t + 1)).1) = 4 → abv D d (t + 1) (dart D d (t + 1)).1) := by
  constructor
  · intro h
    refine ⟨fun s h1 h2 h4 => h s h1 (by omega) h4, fun h4 => ?_⟩
    obtain ⟨r, r1, r2, r3, r4⟩ := h (t + 1) (by omega) (by omega) h4
    exact ⟨r, r1, r2, r3, r4, h4⟩
  · rintro ⟨h1, h2⟩ s s1 s2 h4
    by_cases e : s = t + 1
    · subst e
      obtain ⟨r, r1, r2, r3, r4, _⟩ := h2 h4
      exact ⟨r, r1, r2, r3, r4⟩
    · exact h1 s s1 (by omega) h4
theorem arm_near {k : Knot} {a : Nat} (ha : a < 4) (h : BarOk (armB k a)) : -200002 ≤ k.1 ∧ k.1 ≤ 200002 ∧ -200002 ≤ k.2 ∧ k.2 ≤ 200002 := by
  obtain ⟨x, y⟩ := k
  unfold BarOk at h
  obtain rfl | rfl | rfl | rfl : a = 0 ∨ a = 1 ∨ a = 2 ∨ a = 3 := by omega
  all_goals simp only [armB] at h; omega
theorem pathK_snoc (D : List Bar) (d : Dart) (n : Nat) : pathK D d (n + 1) = pathK D d n ++ [(dart D d n).1] := by
  unfold pathK
  rw [List.range_succ, List.map_append]; rfl
theorem pathK_len (D : List Bar) (d : Dart) (n : Nat) : (pathK D d n).length = n := by simp [pathK]
def lenOf : Value → Nat
  | .slice _ n _ => n
  | _ => 0
theorem und_upper : Tryz.prog.underlying 157 = some (.map 26 4) := by kernel_rfl
theorem look_yes {w : World} {r : Nat} {m : List (Knot × Bool × Nat)} {c : Nat} (h : MapAt kk yes w r m c) (x y : Int) :
    (Instr.lookup 157 (.map (some r)) (.agg #[.int .i64 x, .int .i64 y]) false).run Tryz.prog w = .ok (.bool ((mget (x, y) m).getD false)) w := by
  have := h.look knot_key und_upper (zero_bool w) (x, y)
  refine this.trans ?_
  cases mget (x, y) m <;> rfl

theorem Own.one_knot {w : World} {base : Nat} (h : base ≤ w.heap.size) (x y : Int) : OwK base (w.alloc (.cells #[.int .i64 x, .int .i64 y] 26)) (.slice (some ⟨w.heap.size, 0, none⟩) 1 1) [(x, y)] :=
  ⟨by simp [kc], .inr ⟨w.heap.size, 1, #[.int .i64 x, .int .i64 y], rfl, h, heap_alloc_new w _, by simp, by simp [maxLen], by simp, by simp [kc]⟩⟩
theorem Own.ne_pair {w : World} {base g : Nat} {v a b : Value} {t : TypeId} {l : List Knot} (ho : OwK base w v l) (h2 : 2 ≤ l.length) (hB : Blk w g t #[a, b]) : v.ownBlock ≠ some g := by
  rcases ho.2 with ⟨rfl, hn⟩ | ⟨g', cap, cur, rfl, _, hh, hnc, _, hcs, _⟩
  · omega
  · intro e
    have : g' = g := by simpa [Value.ownBlock] using e
    subst this
    unfold Blk at hB
    rw [hh] at hB
    cases hB
    simp at hcs
    omega
/-- what the second region of the walk makes -/
def walkF (L : Legs) (i : Nat) (v : Value) (W : World) : Prop :=
  (i = 3 → ∃ g, v = .slice (some ⟨g, 0, none⟩) 4 4 ∧ Blk W g 107 (lcs L)) ∧ (i = 4 → v = .int .i64 (fstL L)) ∧ (i = 5 → ∃ g, v = .pointer (some ⟨g, 0, none⟩) ∧ Blk W g 26 #[.int .i64 0, .int .i64 0])
theorem walkF_st (L : Legs) : ∀ i v W W', walkF L i v W → Below W.heap.size W W' → walkF L i v W' := fun i v W W' h hb =>
  ⟨fun hi => by obtain ⟨g, h1, h2⟩ := h.1 hi; exact ⟨g, h1, h2.below hb⟩, h.2.1, fun hi => by obtain ⟨g, h1, h2⟩ := h.2.2 hi; exact ⟨g, h1, h2.below hb⟩⟩

theorem walk_any (h rb rk : Nat) (D : List Bar) (x y : Int) (w : World) (H : HoleAt w h rb rk D) (hk : ∀ b ∈ D, BarOk b) (hlen : D.length ≤ 100000) (h1 : cnt (legsAt D (x, y)) = 1) :
    Calls Tryz.prog 82 #[.pointer (some ⟨h, 0, none⟩), .agg #[.int .i64 x, .int .i64 y]] w
      fun e w' => ∃ v, e = .returned (.tuple #[v, .bool (isRunP D (walkL D (x, y)))]) ∧ OwK w.heap.size w' v (walkL D (x, y)) ∧ Below w.heap.size w w' := by
  have ho : ¬ evn D (x, y) := by unfold evn oddL; rw [h1]; decide
  have hne := odd_ne ho
  obtain ⟨ha0, hb0⟩ := arm0_ok hne
  obtain ⟨L, hL, hLD, hwl⟩ := walkL_eq ho
  have hrun := isRun_walk ho hL
  obtain ⟨d, hd⟩ : ∃ d : Dart, ((x, y), arm0 D (x, y)) = d := ⟨_, rfl⟩
  have hok := dart_ok (n := L - 1) ha0 hb0 (fun t h1 h2 => hL.even t h1 (by omega))
  rw [hd] at hL hrun hok hwl
  have hd1 : d.1 = (x, y) := by rw [← hd]
  have hd2 : d.2 = fstL (legsAt D (x, y)) := by rw [← hd, fstL_arm]
  have hnear : ∀ t, t < L → -200002 ≤ (dart D d t).1.1 ∧ (dart D d t).1.1 ≤ 200002 ∧ -200002 ≤ (dart D d t).1.2 ∧ (dart D d t).1.2 ≤ 200002 := fun t ht => by
    obtain ⟨q1, q2⟩ := hok t (by omega)
    exact arm_near q1 (hk _ q2)
  obtain ⟨R, hR⟩ : ∃ R, isRunP D (walkL D (x, y)) = R := ⟨_, rfl⟩
  rw [hR] at hrun ⊢
  have HRUN := Lib.hid hrun
  have HWL := Lib.hid hwl
  have HL := Lib.hid hL
  have HOK := Lib.hid hok
  have HNE := Lib.hid hnear
  have hL0 := hL.pos
  rw [hwl]
  have HD1 := Lib.hid hd1
  have HD2 := Lib.hid hd2
  have HN := Lib.hid hne
  clear hrun hwl hL hok hnear hR hd1 hd2 ha0 hb0 hd ho h1 hne
  have hHk := H.below (bl_alloc bl_refl (.cells #[.int .i64 x, .int .i64 y] 26))
  have hH2 := hHk.below (bl_alloc bl_refl (.cells #[.int .i64 x, .int .i64 y] 26))
  have hS := Sl.one_knot (w.alloc (.cells #[.int .i64 x, .int .i64 y] 26)) x y
  go_enter Tryz.func82, Tryz.ntmps82
  go_wp2
  go_step3
  go_wp2
  refine wp_region_facts (walkF (legsAt D (x, y))) [0, 1, 2] [5] [3, 4, 5] [6, 7] (by decide) (by kernel_rfl) (by kernel_rfl) (fun d _ _ _ _ h => by cases d <;> exact h) (walkF_st (legsAt D (x, y))) ?_
  simp only [List.map_cons, List.map_nil, List.getD_cons_zero, List.getD_cons_succ]
  repeat (go_big_quiet_step (fail))
  refine wpQuiet_nil ⟨List.forall_mem_cons.2 ⟨?_, List.forall_mem_cons.2 ⟨?_, List.forall_mem_cons.2 ⟨?_, List.forall_mem_nil _⟩⟩⟩, ?_⟩
  · intro vals W hbW hF
    refine facts_step (fun K hK => ?_)
    simp only [putAll, Array.getD_eq_getD_getElem?, List.getElem?_toArray, List.getElem?_cons_succ, List.getElem?_cons_zero, Option.getD_some, List.getD_cons_succ, List.getD_cons_zero, Act.put, List.setIfInBounds_toArray, List.set_cons_zero, List.set_cons_succ]
    go_simp
    refine (legsOf_any h rb rk D x y _ (hH2.below hbW)).mono ?_
    rintro e w1 ⟨g, rfl, hg, hBg, hb1⟩
    exact hK _ _ _ rfl hb1 ⟨fun _ => ⟨g, rfl, hBg⟩, fun h => by simp at h, fun h => by simp at h⟩ (fun h => by simp at h)
  · intro vals W hbW hF
    refine facts_step (fun K hK => ?_)
    simp only [putAll, Array.getD_eq_getD_getElem?, List.getElem?_toArray, List.getElem?_cons_succ, List.getElem?_cons_zero, Option.getD_some, List.getD_cons_succ, List.getD_cons_zero, Act.put, List.setIfInBounds_toArray, List.set_cons_zero, List.set_cons_succ]
    go_simp
    obtain ⟨g, hv3, hBg⟩ := (hF 3 (List.mem_of_elem_eq_true (by kernel_rfl))).1 rfl
    have hcon := index_any g _ W hBg HN.out
    rw [← hv3] at hcon
    refine hcon.mono ?_
    rintro e w1 ⟨rfl, hb1⟩
    exact hK _ _ _ rfl hb1 ⟨fun h => by simp at h, fun _ => rfl, fun h => by simp at h⟩ (fun h => by simp at h)
  · intro vals W hbW hF
    refine facts_step (fun K hK => ?_)
    simp only [putAll, Array.getD_eq_getD_getElem?, List.getElem?_toArray, List.getElem?_cons_succ, List.getElem?_cons_zero, Option.getD_some, List.getD_cons_succ, List.getD_cons_zero, Act.put, List.setIfInBounds_toArray, List.set_cons_zero, List.set_cons_succ]
    go_simp
    exact hK _ _ _ rfl (bl_alloc bl_refl _) ⟨fun h => by simp at h, fun h => by simp at h, fun _ => ⟨_, rfl, Blk.new _ _ _⟩⟩ (fun _ => ⟨_, rfl, Nat.le_refl _, by simp⟩)
  · intro vals W hbW hF hAp
    simp only [putAll, Array.getD_eq_getD_getElem?, List.getElem?_toArray, List.getElem?_cons_succ, List.getElem?_cons_zero, Option.getD_some, Act.put, List.setIfInBounds_toArray, List.set_cons_zero, List.set_cons_succ]
    have h4 := (hF 4 (by simp)).2.1 rfl
    obtain ⟨gk, e5, hB5⟩ := (hF 5 (by simp)).2.2 rfl
    obtain ⟨gk', e5', hlk, _⟩ := hAp.1 5 (by simp)
    obtain rfl : gk = gk' := by simpa [e5] using e5'
    simp only [h4, e5]
    simp at hlk
    have hbW0 : Below w.heap.size w W := bl_aa hbW
    have hO : OwK w.heap.size W (.slice (some ⟨w.heap.size + 1, 0, none⟩) 1 1) [(x, y)] := by
      have := (Own.one_knot (w := w.alloc (.cells #[.int .i64 x, .int .i64 y] 26)) (base := w.heap.size) (by simp) x y).below hbW
      simpa using this
    clear hF hAp h4 e5 e5' hHk hH2 hS
    refine wpList_store_blk hB5 rfl _ _ _ rfl rfl rfl (by rfl) (by kernel_rfl) (by kernel_rfl) fun w2 hB2 hc2 => ?_
    have hneG : (Value.slice (some ⟨w.heap.size + 1, 0, none⟩) 1 1).ownBlock ≠ some gk := by simp [Value.ownBlock]; omega
    have hO2 := (hO.chg1 hc2 hneG).alloc (.map #[] 0)
    have hbw2 : Below w.heap.size w w2 := ((Chg.of_below hbW0).trans (hc2.mono (S' := [gk]) (by simp))).below (by simp; omega) (Nat.le_refl _)
    have hBk2 := hB2.alloc (.map #[] 0)
    have hM2 := MapAt.new w2 kk yes
    have hgk2 : gk < w2.heap.size := hB2.lt
    go_wp2
    go_step3
    go_wp2
    go_loopw [6, 8, 10] (fun o a f wr => ∃ (t : Nat) (fb : Bool) (m : List (Knot × Bool × Nat)) (c : Nat), t < L ∧ a = .int .i64 ((dart D d t).2 : Nat) ∧ f = .bool fb ∧ Hid (fb = true ↔ fineW D d (t + 1)) ∧ OwK w.heap.size wr o (pathK D d (t + 1)) ∧ o.ownBlock ≠ some gk ∧
        Blk wr gk 26 #[.int .i64 (dart D d t).1.1, .int .i64 (dart D d t).1.2] ∧ MapAt kk yes wr w2.heap.size m c ∧ Hid (MOk m c ∧ ∀ k, (mget k m).getD false = true ↔ abv D d t k) ∧ Below w.heap.size w wr) (fun o _ _ _ => L + 1 - lenOf o)
    case atStart =>
      refine ⟨0, true, [], 0, hL0, ?_, rfl, ⟨fun _ => fineW_one D d, fun _ => rfl⟩, ?_, hneG, ?_, hM2, ⟨MOk.nil_, fun k => ⟨fun h => by simp [mget] at h, fun h => absurd h (abv_zero D d k)⟩⟩, by (repeat (first | exact bl_refl | assumption | (apply bl_then; assumption) | refine bl_alloc ?_ _ | refine bl_drew ?_ | refine bl_drewN ?_ _))⟩
      · show _ = Value.int .i64 (d.2 : Nat)
        rw [HD2.out]
      · have : pathK D d 1 = [(x, y)] := by show [d.1] = _; rw [HD1.out]
        rw [this]; exact hO2
      · show Blk _ gk _ #[.int .i64 d.1.1, .int .i64 d.1.2]
        rw [HD1.out]; exact hBk2
    case round =>
      clear hO2 hM2 hBk2 hO hB2 hB5
      obtain ⟨t, fb, m, c, htL, rfl, rfl, HF, hown, hneo, hBk, hM, HM, hbw⟩ := hrel
      obtain ⟨o', c', rfl⟩ := hown.shape
      rw [pathK_len] at hown hneo ⊢
      obtain ⟨dt, hdt⟩ : ∃ dt, dart D d t = dt := ⟨_, rfl⟩
      obtain ⟨hA, hbar⟩ := HOK.out t (by omega)
      have hnr := HNE.out t htL
      rw [hdt] at hA hbar hnr hBk ⊢
      obtain ⟨⟨kx, ky⟩, A⟩ := dt
      simp only at hA hnr hBk ⊢
      obtain ⟨⟨px, py⟩, hp⟩ : ∃ p, armK (kx, ky) A = p := ⟨_, rfl⟩
      have hnx : dart D d (t + 1) = ((px, py), onw (legsAt D (px, py)) (3 - A)) := by
        show nxt D (dart D d t) = _
        rw [hdt]; unfold nxt; rw [hp]
      have hArm := fun W => arm_cells kx ky A hA (by omega) (by omega) W
      rw [hp] at hArm
      have hsn := pathK_snoc D d (t + 1)
      rw [hnx] at hsn
      have HSN := Lib.hid hsn
      have HNX := Lib.hid hnx
      have HDT := Lib.hid hdt
      have HBAR := Lib.hid hbar
      have hlen2 : (pathK D d (t + 1)).length ≤ 1000000 := by have := pathK_len D d (t + 1); omega
      clear hp hsn hnx hdt hbar
      have fBk := hBk.facts
      go_wp2_with (first | (go_at_call 127; refine (hArm _).mono ?_; rintro e w3 ⟨rfl, hb3⟩; have hBk3 := hBk.below hb3; have hown3 := hown.below hb3; have hM3 := hM.below hb3) |
        (refine wpList_store_blk hBk3 rfl _ _ _ rfl rfl rfl (by rfl) (by kernel_rfl) (by kernel_rfl) ?_; intro w4 hBk4 hc4; have hc4b : Below w.heap.size w w4 := ((Chg.of_below (bl_then hb3 hbw)).trans (hc4.mono (S' := [gk]) (by simp))).below (by simp; omega) (Nat.le_refl _); have fBk4 := hBk4.facts; have hown4 := hown3.chg1 hc4 hneo; have hM4 := hM3.chg hc4 (by simp; omega)) |
        (at_builtin; refine wpList_appK1 hown4 rfl _ _ rfl rfl rfl rfl hlen2 hc4b.size ?_; intro v5 w5 hown5 hgr5))
      have hbw5 := own_step hown4 hgr5 (bl_then (bl_alloc bl_refl _) hc4b)
      have hBk5 := (hBk4.alloc (.cells #[.int .i64 px, .int .i64 py] 26)).grown hgr5 (Ne.symm hneo)
      have hM5 := (hM4.alloc (.cells #[.int .i64 px, .int .i64 py] 26)).grown hgr5 (Ne.symm ((hM4.alloc _).ne_own (hown4.alloc (.cells #[.int .i64 px, .int .i64 py] 26))))
      have H5 := H.below hbw5
      rw [← HSN.out] at hown5
      have hneo5 := hown5.ne_pair (by rw [pathK_len]; omega) hBk5
      obtain ⟨o5, c5, rfl⟩ := hown5.shape
      rw [pathK_len] at hown5 hneo5 ⊢
      clear fBk fBk4 hBk3 hBk4 hc4 hc4b hown3 hown4 hM3 hM4 hb3 hown hneo hBk hM hgr5 hbw
      obtain ⟨mk, ck, hmk, _, gk5⟩ := H5.knots
      obtain ⟨⟨l0, l1, l2, l3⟩, hL'⟩ : ∃ L', legsAt D (px, py) = L' := ⟨_, rfl⟩
      have hlook : ∀ g : Bel w5.heap.size w5, (Instr.lookup 109 (.map (some rk)) (.agg #[.int .i64 px, .int .i64 py]) false).run Tryz.prog g.val = .ok (.agg #[.bool l0, .bool l1, .bool l2, .bool l3]) g.val := fun g => by
        rw [look_legs (hmk.below g.below) px py, gk5 (px, py), legsO_getD, hL']; rfl
      have HL' := Lib.hid hL'
      have fH := H5.blk.facts
      have fBk5 := hBk5.facts
      clear hmk gk5 hL'
      refine wp_region_ords [0, 1, 2, 3, 4, 5] [(6, false)] [7] (by kernel_rfl) (by kernel_rfl) (fun d _ _ _ _ h => by cases d <;> exact h) ?_
      simp only [List.map_cons, List.map_nil, List.getD_cons_zero, List.getD_cons_succ]
      repeat (go_big_quiet_step (fail))
      refine wpQuiet_nil ?_
      clear hlook
      refine wpMid_run rfl (fun K hK => ?_)
      go_simp
      refine hK _ _ (by (repeat (first | exact bl_refl | assumption | (apply bl_then; assumption) | refine bl_alloc ?_ _ | refine bl_drew ?_ | refine bl_drewN ?_ _))) ?_
      clear hK K
      refine wpMid_nil ?_
      have hBl := (Blk.new w5 107 #[.bool l0, .bool l1, .bool l2, .bool l3]).drew
      have hbA : Below w5.heap.size w5 (w5.alloc (.cells #[.bool l0, .bool l1, .bool l2, .bool l3] 107)).drew := by (repeat (first | exact bl_refl | assumption | (apply bl_then; assumption) | refine bl_alloc ?_ _ | refine bl_drew ?_ | refine bl_drewN ?_ _))
      have hBkA := hBk5.below hbA
      have hMA := hM5.below hbA
      have hownA := hown5.below hbA
      have hbwA := bl_then hbA hbw5
      have HA := H5.below hbA
      clear fBk5 hBk5 hM5 hown5 hbw5 H5 hbA fH
      obtain ⟨B, hB⟩ : ∃ B, 3 - A = B := ⟨_, rfl⟩
      have hBcast : (3 : Int) - (A : Int) = (B : Int) := by omega
      have hB4 : B < 4 := by omega
      have HB := Lib.hid hB
      rw [hB] at HNX
      clear hB
      obtain ⟨qo, hqo⟩ : ∃ q, oddL (l0, l1, l2, l3) = q := ⟨_, rfl⟩
      have HQO : Hid (qo = true ↔ t + 1 = L) := by
        rw [← hqo]
        constructor
        · intro h1
          rcases Nat.lt_or_ge (t + 1) L with h2 | h2
          · have := HL.out.even (t + 1) (by omega) h2
            rw [HNX.out] at this
            unfold evn at this
            rw [HL'.out, h1] at this
            cases this
          · omega
        · intro hend
          have h1 := HL.out.odd
          rw [← hend, HNX.out] at h1
          unfold evn at h1
          rw [HL'.out] at h1
          simpa using h1
      go_wp2_with fail
      refine (odd_any l0 l1 l2 l3 _).mono ?_
      rintro e w6 ⟨rfl, hb6⟩
      rw [hqo]
      replace hBl := hBl.below hb6
      replace hBkA := hBkA.below hb6
      replace hMA := hMA.below hb6
      replace hownA := hownA.below hb6
      replace hbwA := bl_then hb6 hbwA
      replace HA := HA.below hb6
      have fBl := hBl.facts
      clear hb6 hqo
      cases qo
      · have hlt' : t + 1 < L := by
          have : ¬ t + 1 = L := fun e => by have := HQO.out.2 e; cases this
          omega
        go_wp2_with fail
        refine (count_any l0 l1 l2 l3 _).mono ?_
        rintro e w7 ⟨rfl, hb7⟩
        replace hBl := hBl.below hb7
        replace hBkA := hBkA.below hb7
        replace hMA := hMA.below hb7
        replace hownA := hownA.below hb7
        replace hbwA := bl_then hb7 hbwA
        clear fBl hb7 HA
        have fBl := hBl.facts
        have fBk := hBkA.facts
        have h41 : Hid ((dart D d (t + 1)).1 = (px, py)) := by unfold Hid; rw [HNX.out]
        have hAB : Hid (3 - (dart D d t).2 = B) := by unfold Hid; rw [HDT.out]; exact HB.out
        have hon : Hid (((dart D d (t + 1)).2 : Nat) = onw (l0, l1, l2, l3) B) := by unfold Hid; rw [HNX.out, HL'.out]
        have hcn : Hid (cnt (legsAt D (dart D d (t + 1)).1) = cnt (l0, l1, l2, l3)) := by unfold Hid; rw [h41.out, HL'.out]
        obtain ⟨q4, hq4⟩ : ∃ q, (((cnt (l0, l1, l2, l3) : Nat) : Int) == 4) = q := ⟨_, rfl⟩
        cases q4
        · have h4 : Hid (cnt (legsAt D (dart D d (t + 1)).1) ≠ 4) := by unfold Hid; rw [hcn.out]; intro e; rw [e] at hq4; cases hq4
          go_wp2_with (go_at_call 129; refine (onward_any l0 l1 l2 l3 B hB4 _).mono ?_; rintro e w8 ⟨rfl, hb8⟩)
          go_roundw
          case rel =>
            refine ⟨t + 1, fb, m, c, hlt', by rw [hon.out], rfl, ?_, hownA.below hb8, hneo5, by rw [HNX.out]; exact hBkA.below hb8, hMA.below hb8, ?_, bl_then hb8 hbwA⟩
            · unfold Hid
              rw [HF.out, fineW_step]
              exact ⟨fun h => ⟨h, fun e => absurd e h4.out⟩, fun h => h.1⟩
            · exact ⟨HM.out.1, fun k => by rw [HM.out.2 k, abv_no4 h4.out]⟩
          case measure => simp [lenOf]; omega
        · have h4 : Hid (cnt (legsAt D (dart D d (t + 1)).1) = 4) := by
            unfold Hid
            rw [hcn.out]
            have : ((cnt (l0, l1, l2, l3) : Nat) : Int) = 4 := by simpa using hq4
            omega
          have hne1 := blk_ne_map hBl hMA
          have hne2 := blk_ne_map hBkA hMA
          have hne3 := hMA.ne_own hownA
          by_cases hB2 : B < 2
          · obtain ⟨w8, hput, hM8, hc8⟩ := hMA.put_ knot_key und_upper (px, py) true
            have hput' : (Instr.mapUpdate 157 (.map (some w2.heap.size)) (.agg #[.int .i64 px, .int .i64 py]) (.bool true)).run Tryz.prog w7 = .ok () w8 := hput
            have hBl8 := hBl.chg hc8 (by simp [hne1])
            have hBk8 := hBkA.chg hc8 (by simp [hne2])
            have hown8 := hownA.chg1 hc8 hne3
            have hbw8 : Below w.heap.size w w8 := ((Chg.of_below hbwA).trans (hc8.mono (S' := [w2.heap.size]) (by simp))).below (by simp; exact hbw2.size) (Nat.le_refl _)
            have hlk := look_yes hM8 px py
            rw [mget_put, if_pos rfl] at hlk
            simp only [Option.getD_some] at hlk
            clear hput fBl
            have fBl8 := hBl8.facts
            have fBk8 := hBk8.facts
            have HR : Hid ((fb = true ↔ fineW D d (t + 2)) ∧ MOk (mput (px, py) true c m) (mclk (px, py) m c) ∧ ∀ k, (mget k (mput (px, py) true c m)).getD false = true ↔ abv D d (t + 1) k) := by
              refine ⟨?_, HM.out.1.put _ _, fun k => ?_⟩
              · rw [HF.out, fineW_step]
                exact ⟨fun h => ⟨h, fun _ => (abv_up h4.out (by rw [hAB.out]; exact hB2) _).2 (.inl rfl)⟩, fun h => h.1⟩
              · rw [abv_up h4.out (by rw [hAB.out]; exact hB2), ← HM.out.2 k, mget_put, h41.out]
                by_cases e : k = (px, py)
                · simp [e]
                · simp [e]
            cases fb
            all_goals
              go_wp2_with (go_at_call 129; refine (onward_any l0 l1 l2 l3 B hB4 _).mono ?_; rintro e w9 ⟨rfl, hb9⟩)
              go_roundw
              case rel => exact ⟨t + 1, _, _, _, hlt', by rw [hon.out], rfl, by have h := HR.out.1; unfold Hid; simpa using h, hown8.below hb9, hneo5, by rw [HNX.out]; exact hBk8.below hb9, hM8.below hb9, HR.out.2, bl_then hb9 hbw8⟩
              case measure => simp [lenOf]; omega
          · have hlk := look_yes hMA px py
            obtain ⟨g, hg⟩ : ∃ g, (mget (px, py) m).getD false = g := ⟨_, rfl⟩
            rw [hg] at hlk
            have HG := Lib.hid hg
            clear hg
            have HAV : Hid (∀ k, abv D d (t + 1) k ↔ abv D d t k) := fun k => abv_low (by rw [hAB.out]; exact hB2) k
            have HR : Hid (((fb && g) = true ↔ fineW D d (t + 2)) ∧ MOk m c ∧ ∀ k, (mget k m).getD false = true ↔ abv D d (t + 1) k) := by
              refine ⟨?_, HM.out.1, fun k => by rw [HAV.out]; exact HM.out.2 k⟩
              rw [Bool.and_eq_true, HF.out, fineW_step, HAV.out, h41.out, ← HM.out.2, HG.out]
              exact ⟨fun ⟨h1, h2⟩ => ⟨h1, fun _ => h2⟩, fun ⟨h1, h2⟩ => ⟨h1, h2 (by rw [← h41.out]; exact h4.out)⟩⟩
            cases fb
            all_goals
              go_wp2_with (go_at_call 129; refine (onward_any l0 l1 l2 l3 B hB4 _).mono ?_; rintro e w9 ⟨rfl, hb9⟩)
              go_roundw
              case rel => exact ⟨t + 1, _, _, _, hlt', by rw [hon.out], rfl, by have h := HR.out.1; unfold Hid; simpa using h, hownA.below hb9, hneo5, by rw [HNX.out]; exact hBkA.below hb9, hMA.below hb9, HR.out.2, bl_then hb9 hbwA⟩
              case measure => simp [lenOf]; omega
      · have hend : t + 1 = L := HQO.out.1 rfl
        obtain ⟨mk6, ck6, hmk6, _, gk6⟩ := HA.knots
        obtain ⟨mb6, cb6, hmb6, _, _, lb6⟩ := HA.bars
        have hlook : ∀ g : Bel w6.heap.size w6, (Instr.lookup 109 (.map (some rk)) (.agg #[.int .i64 px, .int .i64 py]) false).run Tryz.prog g.val = .ok (.agg #[.bool l0, .bool l1, .bool l2, .bool l3]) g.val := fun g => by
          rw [look_legs (hmk6.below g.below) px py, gk6 (px, py), legsO_getD, HL'.out]; rfl
        have fH := HA.blk.facts
        have fBk := hBkA.facts
        have hcl := cnt_le (l0, l1, l2, l3)
        clear fBl hmk6 gk6
        have HEND : Hid ((dart D d L).1 = (px, py) ∧ pathK D d (L + 1) = pathK D d (t + 1 + 1)) := by rw [← hend]; exact ⟨by rw [HNX.out], rfl⟩
        have HF' : Hid (fb = true ↔ fineW D d L) := by rw [← hend]; exact HF.out
        have HT : Hid (t + 1 = L) := hend
        have hc1 : Hid (cnt (legsAt D (dart D d L).1) = cnt (l0, l1, l2, l3)) := by unfold Hid; rw [HEND.out.1, HL'.out]
        have hLen : Hid (mb6.length = D.length) := lb6
        have hbig : mb6.length ≤ 100000 := by omega
        have htb : t + 1 + 1 ≤ 200000 := by omega
        clear hend HF HQO lb6
        cases fb
        · have hRf : R = false := by
            cases R
            · rfl
            · have := HF'.out.2 (HRUN.out.1 rfl).1; cases this
          subst hRf
          go_wp2
          refine wp_region_ords [0, 1, 2, 3, 4, 5, 6, 7, 8] [(9, false), (10, false), (11, false), (12, false), (13, true), (14, true), (15, true), (16, false), (17, false), (18, false), (19, false), (20, false), (21, true), (22, true), (23, false)] [24] (by kernel_rfl) (by kernel_rfl) (fun d _ _ _ _ h => by cases d <;> exact h) ?_
          simp only [List.map_cons, List.map_nil, List.getD_cons_zero, List.getD_cons_succ]
          repeat (go_big_quiet_step (fail))
          refine wpQuiet_nil ?_
          refine wpMid_skipF (by kernel_rfl) ?_
          intro K hK
          simp only [Act.put, List.setIfInBounds_toArray, List.set_cons_zero, List.set_cons_succ]
          refine hK _ ?_
          clear hK K
          refine wpMid_skipF (by kernel_rfl) ?_
          intro K hK
          simp only [Act.put, List.setIfInBounds_toArray, List.set_cons_zero, List.set_cons_succ]
          refine hK _ ?_
          clear hK K
          refine wpMid_run rfl (fun K hK => ?_)
          go_simp
          refine hK _ _ (by (repeat (first | exact bl_refl | assumption | (apply bl_then; assumption) | refine bl_alloc ?_ _ | refine bl_drew ?_ | refine bl_drewN ?_ _))) ?_
          clear hK K
          refine wpMid_run rfl (fun K hK => ?_)
          go_simp
          refine hK _ _ (by (repeat (first | exact bl_refl | assumption | (apply bl_then; assumption) | refine bl_alloc ?_ _ | refine bl_drew ?_ | refine bl_drewN ?_ _))) ?_
          clear hK K
          refine wpMid_skipT (by kernel_rfl) ?_
          intro K hK
          simp only [Act.put, List.setIfInBounds_toArray, List.set_cons_zero, List.set_cons_succ]
          refine hK _ ?_
          clear hK K
          refine wpMid_skipT (by kernel_rfl) ?_
          intro K hK
          simp only [Act.put, List.setIfInBounds_toArray, List.set_cons_zero, List.set_cons_succ]
          refine hK _ ?_
          clear hK K
          refine wpMid_skipT (by kernel_rfl) ?_
          intro K hK
          simp only [Act.put, List.setIfInBounds_toArray, List.set_cons_zero, List.set_cons_succ]
          refine hK _ ?_
          clear hK K
          refine wpMid_skipF (by kernel_rfl) ?_
          intro K hK
          simp only [Act.put, List.setIfInBounds_toArray, List.set_cons_zero, List.set_cons_succ]
          refine hK _ ?_
          clear hK K
          refine wpMid_skipF (by kernel_rfl) ?_
          intro K hK
          simp only [Act.put, List.setIfInBounds_toArray, List.set_cons_zero, List.set_cons_succ]
          refine hK _ ?_
          clear hK K
          refine wpMid_skipF (by kernel_rfl) ?_
          intro K hK
          simp only [Act.put, List.setIfInBounds_toArray, List.set_cons_zero, List.set_cons_succ]
          refine hK _ ?_
          clear hK K
          refine wpMid_skipF (by kernel_rfl) ?_
          intro K hK
          simp only [Act.put, List.setIfInBounds_toArray, List.set_cons_zero, List.set_cons_succ]
          refine hK _ ?_
          clear hK K
          refine wpMid_skipF (by kernel_rfl) ?_
          intro K hK
          simp only [Act.put, List.setIfInBounds_toArray, List.set_cons_zero, List.set_cons_succ]
          refine hK _ ?_
          clear hK K
          refine wpMid_skipT (by kernel_rfl) ?_
          intro K hK
          simp only [Act.put, List.setIfInBounds_toArray, List.set_cons_zero, List.set_cons_succ]
          refine hK _ ?_
          clear hK K
          refine wpMid_take rfl ?_
          intro K hK
          go_big_quiet_op
          go_big_quiet_on
          refine wpMid_run rfl (fun K hK => ?_)
          go_simp
          refine hK _ _ (by (repeat (first | exact bl_refl | assumption | (apply bl_then; assumption) | refine bl_alloc ?_ _ | refine bl_drew ?_ | refine bl_drewN ?_ _))) ?_
          clear hK K
          refine wpMid_nil ?_
          go_wp2
          rw [Exit.noGoto_ret]
          go_ret2
          exact ⟨_, rfl, by rw [HEND.out.2]; exact hownA, by (repeat (first | exact bl_refl | assumption | (apply bl_then; assumption) | refine bl_alloc ?_ _ | refine bl_drew ?_ | refine bl_drewN ?_ _))⟩
        · obtain ⟨q1, hq1⟩ : ∃ q, (((cnt (l0, l1, l2, l3) : Nat) : Int) == 1) = q := ⟨_, rfl⟩
          go_wp2
          refine wp_region_ords [0, 1, 2, 3, 4, 5, 6, 7, 8] [(9, false), (10, false), (11, false), (12, false), (13, true), (14, true), (15, true), (16, false), (17, false), (18, false), (19, false), (20, false), (21, true), (22, true), (23, false)] [24] (by kernel_rfl) (by kernel_rfl) (fun d _ _ _ _ h => by cases d <;> exact h) ?_
          simp only [List.map_cons, List.map_nil, List.getD_cons_zero, List.getD_cons_succ]
          repeat (go_big_quiet_step (fail))
          refine wpQuiet_nil ?_
          refine wpMid_run rfl (fun K hK => ?_)
          go_simp
          refine (count_any l0 l1 l2 l3 _).mono ?_
          rintro e w7 ⟨rfl, hb7⟩
          refine hK _ _ (by (repeat (first | exact bl_refl | assumption | (apply bl_then; assumption) | refine bl_alloc ?_ _ | refine bl_drew ?_ | refine bl_drewN ?_ _))) ?_
          clear hK K
          have HA7 := HA.below (bl_d hb7)
          have hmb7 := hmb6.below (bl_d hb7)
          have hlm := fun ty => hmb7.len und_bars ty
          have fH7 := HA7.blk.facts
          cases q1
          · have hRf : R = false := by
              cases R
              · rfl
              · have := (HRUN.out.1 rfl).2.1
                rw [hc1.out] at this
                rw [this] at hq1
                cases hq1
            subst hRf
            refine wpMid_run rfl (fun K hK => ?_)
            go_simp
            refine hK _ _ (by (repeat (first | exact bl_refl | assumption | (apply bl_then; assumption) | refine bl_alloc ?_ _ | refine bl_drew ?_ | refine bl_drewN ?_ _))) ?_
            clear hK K
            refine wpMid_run rfl (fun K hK => ?_)
            go_simp
            refine hK _ _ (by (repeat (first | exact bl_refl | assumption | (apply bl_then; assumption) | refine bl_alloc ?_ _ | refine bl_drew ?_ | refine bl_drewN ?_ _))) ?_
            clear hK K
            refine wpMid_run rfl (fun K hK => ?_)
            go_simp
            refine hK _ _ (by (repeat (first | exact bl_refl | assumption | (apply bl_then; assumption) | refine bl_alloc ?_ _ | refine bl_drew ?_ | refine bl_drewN ?_ _))) ?_
            clear hK K
            refine wpMid_skipT (by kernel_rfl) ?_
            intro K hK
            simp only [Act.put, List.setIfInBounds_toArray, List.set_cons_zero, List.set_cons_succ]
            refine hK _ ?_
            clear hK K
            refine wpMid_skipT (by kernel_rfl) ?_
            intro K hK
            simp only [Act.put, List.setIfInBounds_toArray, List.set_cons_zero, List.set_cons_succ]
            refine hK _ ?_
            clear hK K
            refine wpMid_skipT (by kernel_rfl) ?_
            intro K hK
            simp only [Act.put, List.setIfInBounds_toArray, List.set_cons_zero, List.set_cons_succ]
            refine hK _ ?_
            clear hK K
            refine wpMid_skipF (by kernel_rfl) ?_
            intro K hK
            simp only [Act.put, List.setIfInBounds_toArray, List.set_cons_zero, List.set_cons_succ]
            refine hK _ ?_
            clear hK K
            refine wpMid_skipF (by kernel_rfl) ?_
            intro K hK
            simp only [Act.put, List.setIfInBounds_toArray, List.set_cons_zero, List.set_cons_succ]
            refine hK _ ?_
            clear hK K
            refine wpMid_skipF (by kernel_rfl) ?_
            intro K hK
            simp only [Act.put, List.setIfInBounds_toArray, List.set_cons_zero, List.set_cons_succ]
            refine hK _ ?_
            clear hK K
            refine wpMid_skipF (by kernel_rfl) ?_
            intro K hK
            simp only [Act.put, List.setIfInBounds_toArray, List.set_cons_zero, List.set_cons_succ]
            refine hK _ ?_
            clear hK K
            refine wpMid_skipF (by kernel_rfl) ?_
            intro K hK
            simp only [Act.put, List.setIfInBounds_toArray, List.set_cons_zero, List.set_cons_succ]
            refine hK _ ?_
            clear hK K
            refine wpMid_skipT (by kernel_rfl) ?_
            intro K hK
            simp only [Act.put, List.setIfInBounds_toArray, List.set_cons_zero, List.set_cons_succ]
            refine hK _ ?_
            clear hK K
            refine wpMid_take rfl ?_
            intro K hK
            go_big_quiet_op
            go_big_quiet_on
            refine wpMid_run rfl (fun K hK => ?_)
            go_simp
            refine hK _ _ (by (repeat (first | exact bl_refl | assumption | (apply bl_then; assumption) | refine bl_alloc ?_ _ | refine bl_drew ?_ | refine bl_drewN ?_ _))) ?_
            clear hK K
            refine wpMid_nil ?_
            go_wp2
            rw [Exit.noGoto_ret]
            go_ret2
            exact ⟨_, rfl, by rw [HEND.out.2]; exact hownA.below (bl_d hb7), by (repeat (first | exact bl_refl | assumption | (apply bl_then; assumption) | refine bl_alloc ?_ _ | refine bl_drew ?_ | refine bl_drewN ?_ _))⟩
          · refine wpMid_run rfl (fun K hK => ?_)
            go_simp
            refine hK _ _ (by (repeat (first | exact bl_refl | assumption | (apply bl_then; assumption) | refine bl_alloc ?_ _ | refine bl_drew ?_ | refine bl_drewN ?_ _))) ?_
            clear hK K
            refine wpMid_run rfl (fun K hK => ?_)
            go_simp
            refine hK _ _ (by (repeat (first | exact bl_refl | assumption | (apply bl_then; assumption) | refine bl_alloc ?_ _ | refine bl_drew ?_ | refine bl_drewN ?_ _))) ?_
            clear hK K
            refine wpMid_run rfl (fun K hK => ?_)
            go_simp
            refine hK _ _ (by (repeat (first | exact bl_refl | assumption | (apply bl_then; assumption) | refine bl_alloc ?_ _ | refine bl_drew ?_ | refine bl_drewN ?_ _))) ?_
            clear hK K
            refine wpMid_take rfl ?_
            intro K hK
            go_big_quiet_op
            go_big_quiet_on
            refine wpMid_take rfl ?_
            intro K hK
            go_big_quiet_op
            go_big_quiet_on
            refine wpMid_take rfl ?_
            intro K hK
            go_big_quiet_op
            go_big_quiet_on
            refine wpMid_run rfl (fun K hK => ?_)
            go_simp
            refine hK _ _ (by (repeat (first | exact bl_refl | assumption | (apply bl_then; assumption) | refine bl_alloc ?_ _ | refine bl_drew ?_ | refine bl_drewN ?_ _))) ?_
            clear hK K
            refine wpMid_run rfl (fun K hK => ?_)
            go_simp
            refine hK _ _ (by (repeat (first | exact bl_refl | assumption | (apply bl_then; assumption) | refine bl_alloc ?_ _ | refine bl_drew ?_ | refine bl_drewN ?_ _))) ?_
            clear hK K
            refine wpMid_run rfl (fun K hK => ?_)
            go_simp
            refine hK _ _ (by (repeat (first | exact bl_refl | assumption | (apply bl_then; assumption) | refine bl_alloc ?_ _ | refine bl_drew ?_ | refine bl_drewN ?_ _))) ?_
            clear hK K
            refine wpMid_run rfl (fun K hK => ?_)
            go_simp
            refine hK _ _ (by (repeat (first | exact bl_refl | assumption | (apply bl_then; assumption) | refine bl_alloc ?_ _ | refine bl_drew ?_ | refine bl_drewN ?_ _))) ?_
            clear hK K
            refine wpMid_run rfl (fun K hK => ?_)
            go_simp
            refine hK _ _ (by (repeat (first | exact bl_refl | assumption | (apply bl_then; assumption) | refine bl_alloc ?_ _ | refine bl_drew ?_ | refine bl_drewN ?_ _))) ?_
            clear hK K
            refine wpMid_take rfl ?_
            intro K hK
            go_big_quiet_op
            go_big_quiet_on
            refine wpMid_take rfl ?_
            intro K hK
            go_big_quiet_op
            go_big_quiet_on
            refine wpMid_run rfl (fun K hK => ?_)
            go_simp
            refine hK _ _ (by (repeat (first | exact bl_refl | assumption | (apply bl_then; assumption) | refine bl_alloc ?_ _ | refine bl_drew ?_ | refine bl_drewN ?_ _))) ?_
            clear hK K
            refine wpMid_nil ?_
            go_wp2
            rw [Exit.noGoto_ret]
            go_ret2
            have hR : (((t : Int) + 1 == (mb6.length : Int)) : Bool) = R := by
              have h4 : cnt (l0, l1, l2, l3) = 1 := by
                have : ((cnt (l0, l1, l2, l3) : Nat) : Int) = 1 := by simpa using hq1
                omega
              have h5 := hLen.out
              have h6 := HT.out
              rw [Bool.eq_iff_iff, HRUN.out, hc1.out, beq_iff_eq]
              constructor
              · intro h
                exact ⟨HF'.out.1 (by trivial), h4, by omega⟩
              · rintro ⟨_, _, h⟩
                omega
            refine ⟨_, ?_, by rw [HEND.out.2]; exact hownA.below (bl_d hb7), by (repeat (first | exact bl_refl | assumption | (apply bl_then; assumption) | refine bl_alloc ?_ _ | refine bl_drew ?_ | refine bl_drewN ?_ _))⟩
            show Ending.returned (.tuple #[.slice o5 (t + 1 + 1) c5, .bool ((t : Int) + 1 == (mb6.length : Int))]) = _
            rw [hR]
end Go.Proofs.YthcnngoaijgnoaaGreat

/- The run of a hole, and whether it is ready, walked. Conditions: the hole's bars are within bounds, each once. -/
namespace Go.Proofs.YthcnngoaijgnoaaGreat
open Go.RowKit Go.ChangeMaps
set_option maxHeartbeats 4000000
set_option maxRecDepth 100000
attribute [local go_sem] Oper.semAt_some

def encB (x : Nat × Knot) : Array Value := #[.int .i64 (x.1 : Int), kk x.2]
def twoB (p q : Knot) : List (Nat × Knot) := [(1, q), (0, p)]
theorem back_any (A : Option Addr) (n c : Nat) (w : World) : Calls Tryz.prog 130 #[.slice A n c] w
    fun e w' => e = .returned (.func (.func 162) #[] #[.pointer (some ⟨w.heap.size, 0, none⟩)]) ∧ w' = w.alloc (.cells #[.slice A n c] 34) := by
  go_enter Tryz.func130, Tryz.ntmps130
  go_wp2
  go_ret
  exact ⟨rfl, rfl⟩
theorem back_stops (n : Nat) (hn : 1 ≤ n) (S : List Nat) (bs base : Nat) (p q : Knot) (A : Option Addr) (c : Nat) (w : World) (h1 : bs ∉ S) (hS : ∀ k ∈ S, k < base) (hB : Blk w bs 34 #[.slice A 2 c]) (hv : OwK base w (.slice A 2 c) [p, q]) :
    SeqStopsK Fence.wide n Tryz.prog 162 #[.pointer (some ⟨bs, 0, none⟩)] encB (KeepB S w.heap.size) (fun ys => ys = twoB p q) (fun pre => pre <+: twoB p q) 2 w := fun l J Jx W hW hJ _ hY h0 => by
  have hcW : Chg S w W := Chg.of_below hW
  have fB := (hB.below hW).facts
  refine callsIn_of_wp Tryz.func162 rfl trivial ?_ rfl
  simp only [Tryz.ntmps162, List.size_toArray, List.length_cons, List.length_nil, Nat.reduceAdd, Nat.reduceSub, Array.replicate_succ, Array.replicate_zero, List.push_toArray, List.append_toArray, List.nil_append, List.cons_append]
  gi_wp2
  gi_loopw [3] (fun i wr => ∃ k : Nat, k ≤ 2 ∧ i = .int .i64 (1 - (k : Int)) ∧ J ((twoB p q).take k) wr ∧ Chg S w wr) (fun i _ => (intOf i + 1).toNat)
  case atStart => exact ⟨0, Nat.zero_le _, rfl, h0, hcW⟩
  case round =>
    clear fB
    obtain ⟨k, hk, rfl, hJs, hc⟩ := hrel
    have hv2 := (hv.chg hc hS).rd kc_len
    obtain ⟨A', c', e', _, _, hr⟩ := hv2
    obtain ⟨rfl, rfl⟩ : A = A' ∧ c = c' := by simpa using e'
    clear e'
    have fB := (hB.chg hc h1).facts
    obtain rfl | rfl | rfl : k = 0 ∨ k = 1 ∨ k = 2 := by omega
    · obtain ⟨b, off, rfl, hb, e0, e1⟩ := hr.knot (k := 1) (by simp)
      obtain ⟨fn, tmps, assign, body, hy, hR⟩ := hY [] (1, q) wr hJs (by simp)
      unfold encB kk at hy
      simp at hy e0 e1
      gi_wp2
      refine hR.mono ?_
      rintro e W3 (⟨rfl, hJ3, hk3⟩ | ⟨rfl, hJx3⟩)
      · gi_wp2
        go_roundw
        case rel => exact ⟨1, by omega, by simp, hJ3, hc.keep hk3⟩
        case measure => simp [intOf]
      · gi_wp2
        refine bodyPost_ret (results_none rfl _ _ _) rfl ?_
        exact ⟨⟨_, rfl⟩, .inr ⟨_, ⟨[(0, p)], rfl⟩, hJx3⟩⟩
    · obtain ⟨b, off, rfl, hb, e0, e1⟩ := hr.knot (k := 0) (by simp)
      obtain ⟨fn, tmps, assign, body, hy, hR⟩ := hY [(1, q)] (0, p) wr hJs (by simp)
      unfold encB kk at hy
      simp at hy e0 e1
      gi_wp2
      refine hR.mono ?_
      rintro e W3 (⟨rfl, hJ3, hk3⟩ | ⟨rfl, hJx3⟩)
      · gi_wp2
        go_roundw
        case rel => exact ⟨2, by omega, by simp, hJ3, hc.keep hk3⟩
        case measure => simp [intOf]
      · gi_wp2
        refine bodyPost_ret (results_none rfl _ _ _) rfl ?_
        exact ⟨⟨_, rfl⟩, .inr ⟨_, ⟨[], rfl⟩, hJx3⟩⟩
    · gi_wp2
      go_end0
      exact ⟨⟨_, rfl⟩, .inl ⟨_, rfl, hJs⟩⟩

def tryAll (D : List Bar) (l : List (Nat × Knot)) : Option (List Knot) := l.findSome? fun x => tryRun D x.2
theorem tryAll_snoc (D : List Bar) (pre : List (Nat × Knot)) (x : Nat × Knot) (h : tryAll D pre = none) : tryAll D (pre ++ [x]) = tryRun D x.2 := by
  unfold tryAll at h ⊢
  rw [List.findSome?_append, h]
  simp
theorem tryAll_prefix {D : List Bar} {pre l : List (Nat × Knot)} {w : List Knot} (hp : pre <+: l) (h : tryAll D pre = some w) : tryAll D l = some w := by
  obtain ⟨r, rfl⟩ := hp
  unfold tryAll at h ⊢
  rw [List.findSome?_append, h]
  rfl
theorem runO_two {D : List Bar} {p q : Knot} (h : oddK D = [p, q]) : runO D = tryAll D (twoB p q) := by
  unfold runO tryAll twoB
  rw [h]
  simp only [List.findSome?_cons, List.findSome?_nil]
  cases tryRun D q with
  | some w => rfl
  | none => cases tryRun D p <;> rfl
theorem runO_len {D : List Bar} (h : (oddK D).length ≠ 2) : runO D = none := by
  unfold runO
  split
  · rename_i a b e
    rw [e] at h
    exact absurd rfl h
  · rfl
theorem knot_near {D : List Bar} (hk : ∀ b ∈ D, BarOk b) {k : Knot} (h : legsAt D k ≠ noLegs) : -200002 ≤ k.1 ∧ k.1 ≤ 200002 ∧ -200002 ≤ k.2 ∧ k.2 ≤ 200002 := by
  obtain ⟨a, ha, hm⟩ := legs_arm.1 h
  exact arm_near ha (hk _ hm)

theorem run_any (h rb rk : Nat) (D : List Bar) (w : World) (H : HoleAt w h rb rk D) (hk : ∀ b ∈ D, BarOk b) (hlen : D.length ≤ 100000) :
    Calls Tryz.prog 84 #[.pointer (some ⟨h, 0, none⟩)] w
      fun e w' => ∃ v, e = .returned (.tuple #[v, .bool (runO D).isSome]) ∧ OwK w.heap.size w' v ((runO D).getD []) ∧ Below w.heap.size w w' := by
  have hs : ∀ b ∈ D, Sided b := fun b hb => (hk b hb).2.2
  have hb3 : Below w.heap.size w (((w.alloc (.cells #[.pointer (some ⟨h, 0, none⟩)] 102)).alloc (.cells #[.slice none 0 0] 34)).alloc (.cells #[.bool false] 4)) := by (repeat (first | exact bl_refl | assumption | (apply bl_then; assumption) | refine bl_alloc ?_ _ | refine bl_drew ?_ | refine bl_drewN ?_ _))
  have hB0 := ((Blk.new w 102 #[.pointer (some ⟨h, 0, none⟩)]).alloc (.cells #[.slice none 0 0] 34)).alloc (.cells #[.bool false] 4)
  have hR2 := (Blk.new1 w (.cells #[.pointer (some ⟨h, 0, none⟩)] 102) 34 #[.slice none 0 0]).alloc (.cells #[.bool false] 4)
  have hR3 := Blk.new2 w (.cells #[.pointer (some ⟨h, 0, none⟩)] 102) (.cells #[.slice none 0 0] 34) 4 #[.bool false]
  have H3 := H.below hb3
  have hsz0 : (((w.alloc (.cells #[.pointer (some ⟨h, 0, none⟩)] 102)).alloc (.cells #[.slice none 0 0] 34)).alloc (.cells #[.bool false] 4)).heap.size = w.heap.size + 3 := by simp
  obtain ⟨w0, hw0⟩ : ∃ w0, (((w.alloc (.cells #[.pointer (some ⟨h, 0, none⟩)] 102)).alloc (.cells #[.slice none 0 0] 34)).alloc (.cells #[.bool false] 4)) = w0 := ⟨_, rfl⟩
  rw [hw0] at hb3 hB0 hR2 hR3 H3 hsz0
  by_cases h2 : (oddK D).length = 2
  · obtain ⟨p, q, hpq⟩ : ∃ p q, oddK D = [p, q] := by
      match hh : oddK D, h2 with
      | [p, q], _ => exact ⟨p, q, rfl⟩
    have hrun := Lib.hid (runO_two hpq)
    have hodd : Calls Tryz.prog 106 #[.pointer (some ⟨h, 0, none⟩)] w0 (RK w0 [p, q]) := by
      rw [← hpq]; exact hodd_any h rb rk D w0 H3 hs hlen
    have hmem : Hid (∀ x ∈ [p, q], legsAt D x ≠ noLegs) := fun x hx => by
      rw [← hpq] at hx
      exact (holeK_mem hs x).1 (List.mem_filter.1 hx).1
    clear hpq h2
    refine (callsIn_wide (n := 6)).1 ?_
    refine callsIn_of_wp_marks Tryz.func84 rfl trivial ?_ rfl
    simp only [Tryz.ntmps84, List.size_toArray, List.length_cons, List.length_nil, Nat.reduceAdd, Nat.reduceSub, Array.replicate_succ, Array.replicate_zero, List.push_toArray, List.append_toArray, List.nil_append, List.cons_append]
    have fB0 := hB0.facts
    gi_wp2_with (first | (refine ⟨trivial, ?_⟩; gi_at_call 106; refine (callsIn_wide.2 hodd).mono ?_; rintro e w1 ⟨v, rfl, hv1, hb1⟩; obtain ⟨A1, c1, rfl⟩ := hv1.shape) | (refine ⟨trivial, ?_⟩; gi_at_call 130; refine (callsIn_wide.2 (back_any _ _ _ _)).mono ?_; rintro e w2 ⟨rfl, hw2⟩; subst hw2))
    have hbA : Below w1.heap.size w1 (w1.alloc (.cells #[.slice A1 2 c1] 34)) := by (repeat (first | exact bl_refl | assumption | (apply bl_then; assumption) | refine bl_alloc ?_ _ | refine bl_drew ?_ | refine bl_drewN ?_ _))
    have hbs := Blk.new w1 34 #[.slice A1 2 c1]
    have hvA := hv1.below hbA
    have h01 := hb1.size
    have hHA := (H3.below hb1).below hbA
    have hbwA : Below w.heap.size w (w1.alloc (.cells #[.slice A1 2 c1] 34)) := bl_then hbA (bl_then hb1 hb3)
    have hB0A := (hB0.below hb1).below hbA
    have hR2A := (hR2.below hb1).below hbA
    have hR3A := (hR3.below hb1).below hbA
    have hszA : w1.heap.size + 1 = (w1.alloc (.cells #[.slice A1 2 c1] 34)).heap.size := by simp
    obtain ⟨w2, hw2⟩ : ∃ w2, w1.alloc (.cells #[.slice A1 2 c1] 34) = w2 := ⟨_, rfl⟩
    rw [hw2] at hbA hbs hvA hHA hbwA hB0A hR2A hR3A hszA ⊢
    clear hw0 hw2 fB0 hB0 hR2 hR3
    refine wpIn_rangeFunc_ownH rfl (by omega) (gf := 162) (lb := #[.pointer (some ⟨w1.heap.size, 0, none⟩)]) rfl trivial (enters_of Tryz.func162 (by kernel_rfl) rfl)
      (back_stops 5 (by omega) [] w1.heap.size w0.heap.size p q A1 c1 w2 (by simp) (by simp) hbs hvA) keepB_t (keepB_b (Nat.le_refl _)) (Below.refl _ _) (fun _ => rfl)
      (fun pre W => (Blk W w.heap.size 102 #[.pointer (some ⟨h, 0, none⟩)] ∧ Blk W (w.heap.size + 1) 34 #[.slice none 0 0] ∧ Blk W (w.heap.size + 1 + 1) 4 #[.bool false]) ∧ tryAll D pre = none ∧ Below w.heap.size w W ∧ w2.heap.size ≤ W.heap.size)
      (fun c pre W => c = .ret ∧ ∃ lst A c, tryAll D pre = some lst ∧ Blk W (w.heap.size + 1) 34 #[.slice A lst.length c] ∧ Blk W (w.heap.size + 1 + 1) 4 #[.bool true] ∧ OwK w.heap.size W (.slice A lst.length c) lst ∧ Below w.heap.size w W)
      (fun _ W W' row hs hg hr => by
        obtain ⟨⟨a1, a2, a3⟩, a4, a5, a6⟩ := hs
        exact ⟨⟨a1.grown hg (nc_blk a1 hr), a2.grown hg (nc_blk a2 hr), a3.grown hg (nc_blk a3 hr)⟩, a4, bl_grown hg a5 (fun k e => by have := (hr k e).1; omega), Nat.le_trans a6 hg.size⟩)
      (fun c _ W W' row hs hg hr => by
        obtain ⟨a0, lst, A, c', a1, a2, a3, a4, a5⟩ := hs
        exact ⟨a0, lst, A, c', a1, a2.grown hg (nc_blk a2 hr), a3.grown hg (nc_blk a3 hr), a4.kept hg (nc_own a4 hr), bl_grown hg a5 (fun k e => by have := (hr k e).1; omega)⟩)
      ⟨⟨hB0A, hR2A, hR3A⟩, rfl, hbwA, Nat.le_refl _⟩
      (fun x a' W => ∃ Bk, Blk W Bk 26 #[.int .i64 x.2.1, .int .i64 x.2.2] ∧ w2.heap.size ≤ Bk ∧ a' = { tmps := #[.pointer (some ⟨h, 0, none⟩), .pointer (some ⟨w.heap.size, 0, none⟩), .pointer (some ⟨w.heap.size + 1, 0, none⟩), .pointer (some ⟨w.heap.size + 1 + 1, 0, none⟩), .slice A1 2 c1, undef, .pointer (some ⟨Bk, 0, none⟩), undef, undef, .pointer (some ⟨h, 0, none⟩), .slice A1 2 c1, .slice A1 2 c1, .int .i64 2, .bool false, .slice A1 2 c1, .func (.func 162) #[] #[.pointer (some ⟨w1.heap.size, 0, none⟩)], .int .i64 (x.1 : Int), .agg #[.int .i64 x.2.1, .int .i64 x.2.2], undef, undef, undef, undef, undef, undef, undef, undef, undef, undef, undef, undef, undef, undef, undef, undef], defers := [] })
      (fun x a' s W W' row hs hg hr => by
        obtain ⟨Bk, hX, hBk, rfl⟩ := hs
        exact ⟨Bk, hX.grown hg (nc_blk hX hr), hBk, rfl⟩) ?assign ?body ?done ?stop
    case assign =>
      rintro l pre x W K ⟨⟨a1, a2, a3⟩, a4, a5, a6⟩ hK
      unfold encB kk
      gi_wp2
      have hb2 : Below W.heap.size W (W.alloc (.cells #[.int .i64 x.2.1, .int .i64 x.2.2] 26)) := by (repeat (first | exact bl_refl | assumption | (apply bl_then; assumption) | refine bl_alloc ?_ _ | refine bl_drew ?_ | refine bl_drewN ?_ _))
      exact hK _ _ (keeps_of_below hb2) (KeepB.of_below hb2 a6) ⟨⟨a1.below hb2, a2.below hb2, a3.below hb2⟩, a4, bl_then hb2 a5, Nat.le_trans a6 hb2.size⟩ ⟨W.heap.size, Blk.new W _ _, a6, rfl⟩
    case body =>
      rintro l pre ⟨i, kx, ky⟩ a' W _ _ ⟨⟨a1, a2, a3⟩, a4, a5, a6⟩ ⟨Bk, hX, hBk, rfl⟩ hlt
      have HW := H.below a5
      obtain ⟨mk, ck, hm, _, gk⟩ := HW.knots
      obtain ⟨⟨l0, l1, l2, l3⟩, hL⟩ : ∃ L, legsAt D (kx, ky) = L := ⟨_, rfl⟩
      have hlook : ∀ g : Bel W.heap.size W, (Instr.lookup 109 (.map (some rk)) (.agg #[.int .i64 kx, .int .i64 ky]) false).run Tryz.prog g.val = .ok (.agg #[.bool l0, .bool l1, .bool l2, .bool l3]) g.val := fun g => by
        rw [look_legs (hm.below g.below) kx ky, gk (kx, ky), legsO_getD, hL]; rfl
      have HL := Lib.hid hL
      have HN := Lib.hid a4
      clear hm gk hL a4
      have f1 := a1.facts
      have fX := hX.facts
      have fH := HW.blk.facts
      simp only at fX hX ⊢
      obtain ⟨q1, hq1⟩ : ∃ q, (((cnt (l0, l1, l2, l3) : Nat) : Int) != 1) = q := ⟨_, rfl⟩
      gi_wp2
      refine wpIn_region_ords [0, 1, 2, 3, 4, 5] [] [6, 7] (fun _ => trivial) (by kernel_rfl) (by kernel_rfl) (by kernel_rfl) (fun d _ _ _ _ h => by cases d <;> exact h) ?_
      simp only [List.map_cons, List.map_nil, List.getD_cons_zero, List.getD_cons_succ]
      repeat (go_big_quiet_step (fail))
      refine wpQuiet_nil ?_
      clear hlook
      refine wpMidI_nil ?_
      cases q1
      · have hc1 : cnt (legsAt D (kx, ky)) = 1 := by
          rw [HL.out]
          have : ((cnt (l0, l1, l2, l3) : Nat) : Int) = 1 := by simpa using hq1
          omega
        obtain ⟨R, hR⟩ : ∃ R, isRunP D (walkL D (kx, ky)) = R := ⟨_, rfl⟩
        have hwk := fun W' (hW' : HoleAt W' h rb rk D) => walk_any h rb rk D kx ky W' hW' hk hlen hc1
        rw [hR] at hwk
        have HT : Hid (tryRun D (kx, ky) = if R = true then some (walkL D (kx, ky)) else none) := by
          unfold Hid tryRun
          rw [hc1, hR]
          cases R <;> rfl
        clear hR hc1
        cases R
        · gi_wp2_with (first | (refine ⟨trivial, ?_⟩; gi_at_call 81; refine (CallsIn.inRound l (callsIn_wide.2 (count_any l0 l1 l2 l3 _))).mono ?_; rintro e w3 ⟨rfl, hb3'⟩; have h13 := a1.below (bl_d hb3'); have f13 := h13.facts; have hX3 := hX.below (bl_d hb3'); have fX3 := hX3.facts; have hH3' := HW.below (bl_d hb3')) |
            (refine ⟨trivial, ?_⟩; gi_at_call 82; refine (CallsIn.inRound l (callsIn_wide.2 (hwk _ hH3'))).mono ?_; rintro e w4 ⟨v4, rfl, hv4, hb4⟩; obtain ⟨A4, c4, rfl⟩ := hv4.shape))
          have hbW4 : Below W.heap.size W w4 := bl_then hb4 (bl_d hb3')
          exact ⟨keeps_of_below hbW4, KeepB.of_below hbW4 a6, ⟨a1.below hbW4, a2.below hbW4, a3.below hbW4⟩, by rw [tryAll_snoc _ _ _ HN.out]; exact HT.out, bl_then hbW4 a5, Nat.le_trans a6 hbW4.size⟩
        · gi_wp2_with (first | (refine ⟨trivial, ?_⟩; gi_at_call 81; refine (CallsIn.inRound l (callsIn_wide.2 (count_any l0 l1 l2 l3 _))).mono ?_; rintro e w3 ⟨rfl, hb3'⟩; have h13 := a1.below (bl_d hb3'); have f13 := h13.facts; have hX3 := hX.below (bl_d hb3'); have fX3 := hX3.facts; have hH3' := HW.below (bl_d hb3')) |
            (refine ⟨trivial, ?_⟩; gi_at_call 82; refine (CallsIn.inRound l (callsIn_wide.2 (hwk _ hH3'))).mono ?_; rintro e w4 ⟨v4, rfl, hv4, hb4⟩; obtain ⟨A4, c4, rfl⟩ := hv4.shape; have h24 := a2.below (bl_then hb4 (bl_d hb3')); have h34 := a3.below (bl_then hb4 (bl_d hb3')); have f24 := h24.facts; have f34 := h34.facts))
          have hbW4 : Below W.heap.size W w4 := bl_then hb4 (bl_d hb3')
          have hbw4 := bl_then hbW4 a5
          have hs4 := (hv4.lt)
          have hw3s : w.heap.size + 3 ≤ w3.heap.size := by have h1 := (bl_d hb3').size; omega
          have hne1 : (Value.slice A4 (walkL D (kx, ky)).length c4).ownBlock ≠ some (w.heap.size + 1) := fun e => by have := (hs4 _ e).1; omega
          have hne2 : (Value.slice A4 (walkL D (kx, ky)).length c4).ownBlock ≠ some (w.heap.size + 1 + 1) := fun e => by have := (hs4 _ e).1; omega
          exact ⟨(keeps_of_below hbW4).trans ((keeps_set h24 0 _).trans (keeps_set (h34.far (by simp) _) 0 _)), rfl, walkL D (kx, ky), A4, c4, by rw [tryAll_snoc _ _ _ HN.out]; exact HT.out,
            (h24.set_ 0 _).far (by simp) _, (h34.far (by simp) _).set_ 0 _, ((hv4.base_mono (by omega)).set hne1 _).set hne2 _, bl_set (bl_set hbw4 (by simp) _) (by simp; omega) _⟩
      · gi_wp2_with (refine ⟨trivial, ?_⟩; gi_at_call 81; refine (CallsIn.inRound l (callsIn_wide.2 (count_any l0 l1 l2 l3 _))).mono ?_; rintro e w3 ⟨rfl, hb3'⟩)
        have hbW3 : Below W.heap.size W w3 := bl_d hb3'
        have HT : tryRun D (kx, ky) = none := by
          unfold tryRun
          rw [HL.out]
          have h1 : (cnt (l0, l1, l2, l3) == 1) = false := by
            rw [beq_eq_false_iff_ne]
            intro e
            rw [e] at hq1
            cases hq1
          rw [h1]
          rfl
        exact ⟨keeps_of_below hbW3, KeepB.of_below hbW3 a6, ⟨a1.below hbW3, a2.below hbW3, a3.below hbW3⟩, by rw [tryAll_snoc _ _ _ HN.out]; exact HT, bl_then hbW3 a5, Nat.le_trans a6 hbW3.size⟩
    case done =>
      rintro D' ys W hD rfl ⟨⟨a1, a2, a3⟩, a4, a5, a6⟩ hK
      have f2 := a2.facts
      have f3 := a3.facts
      gi_wp2
      have hK2 := ((KeepsOthers.setCell W ⟨w.heap.size + 1, 0, none⟩ (.slice none 0 0)).trans (KeepsOthers.setCell _ ⟨w.heap.size + 1 + 1, 0, none⟩ (.bool false))).same D' _ hK rfl
      refine ⟨by simp, .inl ⟨_, _, rfl, run_takeDeferred hK2, ?_⟩⟩
      have b2 := ((a2.set_ 0 (.slice none 0 0)).far (p := ⟨w.heap.size + 1 + 1, 0, none⟩) (by simp) (.bool false)).putDef hK2 (.deferred none)
      have b3 := ((a3.far (p := ⟨w.heap.size + 1, 0, none⟩) (by simp) (.slice none 0 0)).set_ 0 (.bool false)).putDef hK2 (.deferred none)
      have g2 := b2.facts
      have g3 := b3.facts
      have hbE := below_putDef (bl_set (bl_set a5 (p := ⟨w.heap.size + 1, 0, none⟩) (by simp) (.slice none 0 0)) (p := ⟨w.heap.size + 1 + 1, 0, none⟩) (by simp; omega) (.bool false)) hK2 (by omega) (.deferred none)
      have hno : runO D = none := by rw [hrun.out, a4]
      refine ⟨.tuple #[.slice none 0 0, .bool false], by simp [results, Tryz.results84, go_sem, g2, g3], .slice none 0 0, by rw [hno]; rfl, by rw [hno]; exact Own.nil_, hbE⟩
    case stop =>
      rintro D' c pre W hD hp ⟨rfl, lst, A, c', a1, a2, a3, a4, a5⟩ hK
      have f2 := a2.facts
      have f3 := a3.facts
      gi_wp2
      refine ⟨by simp, .inl ⟨_, _, rfl, run_takeDeferred hK, ?_⟩⟩
      have b2 := a2.putDef hK (.deferred none)
      have b3 := a3.putDef hK (.deferred none)
      have g2 := b2.facts
      have g3 := b3.facts
      have hbE := below_putDef a5 hK (by omega) (.deferred none)
      have hso : runO D = some lst := by rw [hrun.out]; exact tryAll_prefix hp a1
      refine ⟨.tuple #[.slice A lst.length c', .bool true], by simp [results, Tryz.results84, go_sem, g2, g3], .slice A lst.length c', by rw [hso]; rfl, by rw [hso]; exact ownsRow_putObj a4 _ hK rfl, hbE⟩
  · have hno := runO_len h2
    have hodd : Calls Tryz.prog 106 #[.pointer (some ⟨h, 0, none⟩)] w0 (RK w0 (oddK D)) := hodd_any h rb rk D w0 H3 hs hlen
    have hol : (oddK D).length ≤ 200000 := by
      have := List.length_filter_le (fun k => oddL (legsAt D k)) (holeK D)
      have := holeK_len D
      have e : (oddK D).length ≤ (holeK D).length := by unfold oddK; assumption
      omega
    obtain ⟨od, hod⟩ : ∃ od, oddK D = od := ⟨_, rfl⟩
    rw [hod] at hodd h2 hol
    rw [hno]
    clear hod hno
    refine (callsIn_wide (n := 6)).1 ?_
    refine callsIn_of_wp_marks Tryz.func84 rfl trivial ?_ rfl
    simp only [Tryz.ntmps84, List.size_toArray, List.length_cons, List.length_nil, Nat.reduceAdd, Nat.reduceSub, Array.replicate_succ, Array.replicate_zero, List.push_toArray, List.append_toArray, List.nil_append, List.cons_append]
    have fB0 := hB0.facts
    have h2' : (((od.length : Int)) != 2) = true := by simp; omega
    gi_wp2_with (refine ⟨trivial, ?_⟩; gi_at_call 106; refine (callsIn_wide.2 hodd).mono ?_; rintro e w1 ⟨v, rfl, hv1, hb1⟩; obtain ⟨A1, c1, rfl⟩ := hv1.shape; have h21 := hR2.below hb1; have h31 := hR3.below hb1; have f21 := h21.facts; have f31 := h31.facts)
    have b2 := (h21.set_ 0 (.slice none 0 0)).far (p := ⟨w.heap.size + 1 + 1, 0, none⟩) (by simp) (.bool false)
    have b3 := (h31.far (p := ⟨w.heap.size + 1, 0, none⟩) (by simp) (.slice none 0 0)).set_ 0 (.bool false)
    have g2 := b2.facts
    have g3 := b3.facts
    refine ⟨.tuple #[.slice none 0 0, .bool false], by simp [results, Tryz.results84, go_sem, g2, g3], .slice none 0 0, rfl, Own.nil_, ?_⟩
    exact bl_set (bl_set (bl_then hb1 hb3) (by simp) _) (by simp; omega) _

/-- whether the hole is ready -/
def rdyB (D : List Bar) : Bool := (runO D).isSome
theorem ready_any (h rb rk : Nat) (D : List Bar) (w : World) (H : HoleAt w h rb rk D) (hk : ∀ b ∈ D, BarOk b) (hlen : D.length ≤ 100000) :
    Calls Tryz.prog 78 #[.pointer (some ⟨h, 0, none⟩)] w (RV w (.bool (rdyB D))) := by
  go_enter Tryz.func78, Tryz.ntmps78
  go_wp2_with (go_at_call 84; refine (run_any h rb rk D _ H hk hlen).mono ?_; rintro e w1 ⟨v, rfl, _, hb1⟩)
  go_ret
  exact ⟨rfl, hb1⟩
end Go.Proofs.YthcnngoaijgnoaaGreat

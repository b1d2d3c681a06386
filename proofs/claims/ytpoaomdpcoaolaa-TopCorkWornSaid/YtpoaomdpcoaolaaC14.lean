/- What a round of a range over a function keeps; appends in a round. Conditions: none. -/
import Derived.Test.YtpoaomdpcoaolaaC13
import Derived.Test.YtpoaomdpcoaolaaC03
import Derived.Test.YtpoaomdpcoaolaaC05
import Derived.RangeFuncNested
import Derived.RangeFuncBound
import Derived.RangeFuncCalls
import Derived.RangeFuncLeaves
import Derived.RangeFuncBox
import Derived.Test.YtpoaomdpcoaolaaC09
import Derived.Test.YtpoaomdpcoaolaaC10
import Derived.Laws.CopyRow
namespace Go.Proofs.Ytpoaomdpcoaolaa
open Go.RowKit Go.ChangeMaps
set_option maxHeartbeats 4000000
set_option maxRecDepth 100000

attribute [local go_sem] Oper.semAt_some
theorem keeps_of_below {B : Nat} {W W' : World} (h : Below W.heap.size W W') : KeepsFrom B W W' :=
  ⟨h.size, fun k _ _ hk _ => (h.block k (Array.getElem?_eq_some_iff.1 hk).1).trans hk⟩
theorem grown_none {W W' : World} (h : Below W.heap.size W W') : W.grownBy W' none := grownBy_of_below h none
theorem abides_below {β : Type} {B : Nat} {J : β → World → Prop} (hJ : AbidesFrom B J) {s : β} {W W' : World} (h : J s W) (hb : Below W.heap.size W W') : J s W' :=
  hJ s W W' none h (grown_none hb) (fun r e => by cases e)
/-- below n₀ the blocks that are not in S are as they were -/
structure KeepB (S : List Nat) (n₀ : Nat) (A B : World) : Prop where
  os : B.os = A.os
  tape : B.tape = A.tape
  output : B.output = A.output
  size : A.heap.size ≤ B.heap.size
  block : ∀ k, k < n₀ → k ∉ S → B.heap[k]? = A.heap[k]?
section
variable {S : List Nat} {n₀ : Nat} {A B C w : World}
theorem KeepB.refl (S : List Nat) (n₀ : Nat) (A : World) : KeepB S n₀ A A := ⟨rfl, rfl, rfl, Nat.le_refl _, fun _ _ _ => rfl⟩
theorem KeepB.trans (h : KeepB S n₀ A B) (h' : KeepB S n₀ B C) : KeepB S n₀ A C :=
  ⟨h'.os.trans h.os, h'.tape.trans h.tape, h'.output.trans h.output, Nat.le_trans h.size h'.size, fun k h1 h2 => (h'.block k h1 h2).trans (h.block k h1 h2)⟩
theorem KeepB.of_chg (h : Chg S A B) (hn : n₀ ≤ A.heap.size) : KeepB S n₀ A B := ⟨h.os, h.tape, h.output, h.size, fun k h1 h2 => h.block k (by omega) h2⟩
theorem KeepB.of_below (h : Below A.heap.size A B) (hn : n₀ ≤ A.heap.size) : KeepB S n₀ A B := KeepB.of_chg (Chg.of_below h) hn
theorem Chg.keep (h : Chg S w A) (k : KeepB S w.heap.size A B) : Chg S w B :=
  ⟨k.os.trans h.os, k.tape.trans h.tape, k.output.trans h.output, Nat.le_trans h.size k.size, fun i h1 h2 => (k.block i h1 h2).trans (h.block i h1 h2)⟩
theorem keepB_t (h : KeepB S n₀ A B) (k : KeepB S n₀ B C) : KeepB S n₀ A C := h.trans k
theorem keepB_b (hn : n₀ ≤ w.heap.size) (W : World) (l : Nat) (o o' : Obj) (hl : w.heap.size ≤ l) (h : W.heap[l]? = some o) (h1 : o.isCells = false) (h2 : o.isWalk = false) : KeepB S n₀ W (W.putObj l o') := by
  have := belowK_b hn W l o o' hl h h1 h2
  exact ⟨this.os, this.tape, this.output, this.size, fun k hk _ => this.block k hk⟩
theorem KeepB.of_grown {row : Option Nat} (h : A.grownBy B row) (hn : n₀ ≤ A.heap.size) (hr : ∀ k, row = some k → n₀ ≤ k) : KeepB S n₀ A B := ⟨h.os, h.tape, h.output, h.size, fun k h1 _ => h.block k (by omega) (fun e => by have := hr k e.symm; omega)⟩
theorem KeepB.of_set {g i : Nat} {u : Value} (hg : g ∈ S) : KeepB S n₀ A (A.setCell ⟨g, i, none⟩ u) := ⟨rfl, rfl, rfl, by simp [World.setCell], fun k _ h2 => Below.heap_setCell A ⟨g, i, none⟩ u k (fun e => h2 (by
  have e' : k = g := e
  rw [e']; exact hg))⟩
end
/-! ## an append within a round; what a round's invariant abides -/
section
variable {F : Fence} {n : Nat} {α : Type} {enc : α → List Value} {sz : Nat} {e : TypeId} {w : World} {P : Program}
theorem wpListIn_app {bytes : Nat} {t : TypeId} {ops : Array Oper} {rest : List Oper} {o : Oper} {a : Act} {Q : Exit → Act → World → Prop} (hgd : o.guard = none) (E : Elem P t e sz bytes) (henc : ∀ x, (enc x).length = sz) (hone : ∀ x, ∀ u ∈ enc x, u.oneCell' = true) (s x : Operand)
    (ho : o.op = .call { callee := .builtin .append, args := #[s, x], argTypes := #[t, t] }) (base : Nat) (v u : Value) (l r : List α) (hs : a.eval s = v) (hx : a.eval x = u) (hown : Own enc sz base e w v l) (hu : Sl enc sz w u r)
    (h63 : l.length + r.length ≤ maxLen) (hb : (l.length + r.length) * bytes ≤ 140737488355328) (hbase : base ≤ w.heap.size)
    (h : ∀ v' w', Own enc sz base e w' v' (l ++ r) → w.grownBy w' v.ownBlock → wpListIn F n P ops Q rest (a.put o.dst v') w') : wpListIn F n P ops Q (o :: rest) a w := by
  refine wpListIn_plain hgd fun K hK' => ?_
  obtain ⟨v', w', hr, h2, h3⟩ := run_app E henc hone base o.type v u l r hown hu h63 hb hbase
  unfold Oper.wpIn
  refine ⟨by simp [Oper.about, ho, resolve, Target.leads, Sem.run_pure], ?_⟩
  rw [Oper.semAt_plain F _ _ (by rw [ho]; intro c hc'; cases hc')]
  simp [execOp, ho, resolve, invoke, builtin, hs, hx, hr, Result.andThen]
  exact hK' _ _ (h v' w' h2 h3)
theorem nc_blk {B : Nat} {row : Option Nat} {g : Nat} {t : TypeId} {cs : Array Value} (hB : Blk w g t cs) (hr : ∀ r, row = some r → B ≤ r ∧ ∃ o : Obj, w.heap[r]? = some o ∧ o.isCells = false) : some g ≠ row := fun e => by
  obtain ⟨_, o, ho, hc⟩ := hr g e.symm
  unfold Blk at hB
  rw [hB] at ho
  cases ho
  cases hc
theorem nc_own {B base : Nat} {row : Option Nat} {v : Value} {l : List α} (ho : Own enc sz base e w v l) (hr : ∀ r, row = some r → B ≤ r ∧ ∃ o : Obj, w.heap[r]? = some o ∧ o.isCells = false) : v.ownBlock = none ∨ v.ownBlock ≠ row := by
  rcases ho.2 with ⟨rfl, _⟩ | ⟨g, cap, cur, rfl, _, hh, _⟩
  · exact .inl rfl
  · refine .inr fun e => ?_
    obtain ⟨_, o, ho, hc⟩ := hr g (by simpa [Value.ownBlock] using e.symm)
    rw [hh] at ho
    cases ho
    cases hc
theorem keeps_grown {B base : Nat} {w' : World} {v : Value} {l : List α} (ho : Own enc sz base e w v l) (hg : w.grownBy w' v.ownBlock) : KeepsFrom B w w' :=
  ⟨hg.size, fun k o _ hk hc => (hg.block k (Array.getElem?_eq_some_iff.1 hk).1 (fun e => by
    rcases ho.2 with ⟨rfl, _⟩ | ⟨g, cap, cur, rfl, _, hh, _⟩
    · cases e
    · have e' : k = g := by simpa [Value.ownBlock] using e
      rw [e', hh] at hk
      cases hk
      cases hc)).trans hk⟩
theorem keeps_set {B : Nat} {g : Nat} {t : TypeId} {cs : Array Value} (hB : Blk w g t cs) (i : Nat) (u : Value) : KeepsFrom B w (w.setCell ⟨g, i, none⟩ u) :=
  ⟨by simp [World.setCell], fun k o _ hk hc => (Below.heap_setCell w ⟨g, i, none⟩ u k (fun e => by
    have e' : k = g := e
    unfold Blk at hB
    rw [e', hB] at hk
    cases hk
    cases hc)).trans hk⟩
end
theorem wpListIn_appK1 {F : Fence} {n : Nat} {ops : Array Oper} {rest : List Oper} {o : Oper} {a : Act} {Q : Exit → Act → World → Prop} {base : Nat} {W : World} {v : Value} {X Y : Int} {l : List Knot} (hown : OwK base W v l) {g : Nat} (hgd : o.guard = none) (s x : Operand)
    (ho : o.op = .call { callee := .builtin .append, args := #[s, x], argTypes := #[36, 36] })
    (hs : a.eval s = v) (hx : a.eval x = .slice (some ⟨g, 0, none⟩) 1 1) (hg : W.heap.size = g) (hlen : l.length ≤ 1000000) (hbase : base ≤ W.heap.size)
    (h : ∀ v' w', OwK base w' v' (l ++ [(X, Y)]) → (W.alloc (.cells #[.int .i64 X, .int .i64 Y] 30)).grownBy w' v.ownBlock → wpListIn F n Try.prog ops Q rest (a.put o.dst v') w') :
    wpListIn F n Try.prog ops Q (o :: rest) a (W.alloc (.cells #[.int .i64 X, .int .i64 Y] 30)) := by
  subst hg
  exact wpListIn_app hgd knot_elem kc_len kc_one s x ho base v _ l [(X, Y)] hs hx (hown.alloc _) (Sl.one_knot W X Y) (by simp [maxLen]; omega) (by simp; omega) (by simp; omega) h

theorem Blk.putDef {W : World} {g D' : Nat} {t : TypeId} {cs : Array Value} {ds : Option (List Deferred)} (hB : Blk W g t cs) (hK : W.heap[D']? = some (.deferred ds)) (o : Obj) : Blk (W.putObj D' o) g t cs :=
  hB.grown (grownBy_putObj' W D' o) (fun e => by
    have e' : g = D' := by simpa using e
    unfold Blk at hB
    rw [e', hK] at hB
    cases hB)
theorem below_putDef {w W : World} {D' : Nat} {ds : Option (List Deferred)} (hb : Below w.heap.size w W) (hK : W.heap[D']? = some (.deferred ds)) (hD : w.heap.size ≤ D') (o : Obj) : Below w.heap.size w (W.putObj D' o) :=
  hb.trans (belowK_b (w := w) (Nat.le_refl _) W D' _ _ hD hK rfl rfl)
theorem wpListIn_pass {P : Program} {F : Fence} {n : Nat} {ops : Array Oper} {rest : List Oper} {o : Oper} {a : Act} {Q : Exit → Act → World → Prop} {w : World} (hw : Region.wanted o (yielded ops a.tmps) = false) (hF : ∀ f, F.fn f) (h : wpListIn F n P ops Q rest (a.put o.dst undef) w) : wpListIn F n P ops Q (o :: rest) a w := by
  simp only [wpListIn, hw]
  exact ⟨fun f _ => hF f, h⟩
theorem keeps_chg {B g : Nat} {t : TypeId} {cs : Array Value} {w w' : World} (hB : Blk w g t cs) (hc : Chg [g] w w') : KeepsFrom B w w' :=
  ⟨hc.size, fun k o _ hk h => (hc.block k (Array.getElem?_eq_some_iff.1 hk).1 (fun hm => by
    obtain rfl : k = g := by simpa using hm
    unfold Blk at hB
    rw [hB] at hk
    cases hk
    cases h)).trans hk⟩
end Go.Proofs.Ytpoaomdpcoaolaa

/- The bars of a sheet, of the program, walked. Conditions: small sheets. -/
namespace Go.Proofs.Ytpoaomdpcoaolaa
open Go.RowKit Go.ChangeMaps
set_option maxHeartbeats 4000000
set_option maxRecDepth 100000

attribute [local go_sem] Oper.semAt_some
theorem wpListIn_appB1 {F : Fence} {n : Nat} {ops : Array Oper} {rest : List Oper} {o : Oper} {a : Act} {Q : Exit → Act → World → Prop} {base : Nat} {W : World} {v : Value} {X Y S : Int} {l : List Bar} (hown : OwB base W v l) {g : Nat} (hgd : o.guard = none) (s x : Operand)
    (ho : o.op = .call { callee := .builtin .append, args := #[s, x], argTypes := #[22, 22] })
    (hs : a.eval s = v) (hx : a.eval x = .slice (some ⟨g, 0, none⟩) 1 1) (hg : W.heap.size = g) (hlen : l.length ≤ 1000000) (hbase : base ≤ W.heap.size)
    (h : ∀ v' w', OwB base w' v' (l ++ [(X, Y, S)]) → (W.alloc (.cells #[.int .i64 X, .int .i64 Y, .int .i64 S] 50)).grownBy w' v.ownBlock → wpListIn F n Try.prog ops Q rest (a.put o.dst v') w') :
    wpListIn F n Try.prog ops Q (o :: rest) a (W.alloc (.cells #[.int .i64 X, .int .i64 Y, .int .i64 S] 50)) := by
  subst hg
  exact wpListIn_app hgd bar_elem bc_len bc_one s x ho base v _ l [(X, Y, S)] hs hx (hown.alloc _) (Sl.one_bar W X Y S) (by simp [maxLen]; omega) (by simp; omega) (by simp; omega) h
/-! ## the bars of a sheet -/
def sdB (x0 : Int) (c : Nat) (b : Bar) : List Bar := if x0 ≤ b.1 + b.2.2 ∧ b.1 + b.2.2 ≤ x0 + 2 * c then [b] else []
def shT (x0 : Int) (c : Nat) (x y : Int) : Nat → List Bar
  | 0 => []
  | t + 1 => shT x0 c x y t ++ sdB x0 c (x, y, 2 * (t : Int) - 1)
def shI (x0 : Int) (c : Nat) (y : Int) (n : Nat) : Nat → List Bar
  | 0 => []
  | i + 1 => shI x0 c y n i ++ shT x0 c (x0 + (n % 2 : Nat) + 2 * (i : Int)) y 2
/-- the bars of the first n rows of a sheet, in the order in which they are visited -/
def shN (x0 y0 : Int) (c : Nat) : Nat → List Bar
  | 0 => []
  | n + 1 => shN x0 y0 c n ++ shI x0 c (y0 + (n : Int)) n (c + 1 - n % 2)
theorem sdB_len (x0 : Int) (c : Nat) (b : Bar) : (sdB x0 c b).length ≤ 1 := by unfold sdB; split <;> simp
theorem shT_len (x0 : Int) (c : Nat) (x y : Int) : ∀ t, (shT x0 c x y t).length ≤ t
  | 0 => Nat.le_refl _
  | t + 1 => by
    have := shT_len x0 c x y t
    have := sdB_len x0 c (x, y, 2 * (t : Int) - 1)
    rw [shT, List.length_append]; omega
theorem shI_len (x0 : Int) (c : Nat) (y : Int) (n : Nat) : ∀ i, (shI x0 c y n i).length ≤ 2 * i
  | 0 => Nat.le_refl _
  | i + 1 => by
    have := shI_len x0 c y n i
    have := shT_len x0 c (x0 + (n % 2 : Nat) + 2 * (i : Int)) y 2
    rw [shI, List.length_append]; omega
theorem shN_len (x0 y0 : Int) (c : Nat) : ∀ n, (shN x0 y0 c n).length ≤ n * (2 * (c + 1))
  | 0 => by simp [shN]
  | n + 1 => by
    have := shN_len x0 y0 c n
    have := shI_len x0 c (y0 + (n : Int)) n (c + 1 - n % 2)
    rw [shN, List.length_append, Nat.succ_mul]
    omega
theorem sheet_any (x y c r : Int) (w : World) : Calls Try.prog 37 #[.agg #[.int .i64 x, .int .i64 y], .int .i64 c, .int .i64 r] w fun e w' =>
    e = .returned (.func (.func 55) #[] #[.pointer (some ⟨w.heap.size + 2, 0, none⟩), .pointer (some ⟨w.heap.size, 0, none⟩), .pointer (some ⟨w.heap.size + 1, 0, none⟩)]) ∧
    w' = ((w.alloc (.cells #[.int .i64 x, .int .i64 y] 30)).alloc (.cells #[.int .i64 c] 3)).alloc (.cells #[.int .i64 r] 3) := by
  go_enter Try.func37, Try.ntmps37
  go_wp2
  go_ret
  exact ⟨rfl, rfl⟩
@[go_sem] theorem idx2i_0 (w : World) : (Instr.index 93 (.agg #[.int .i64 (-1), .int .i64 1]) (.int .i64 0)).run Try.prog w = .ok (.int .i64 (-1)) w := by kernel_rfl
@[go_sem] theorem idx2i_1 (w : World) : (Instr.index 93 (.agg #[.int .i64 (-1), .int .i64 1]) (.int .i64 1)).run Try.prog w = .ok (.int .i64 1) w := by kernel_rfl
def encB (b : Bar) : Array Value := #[.agg #[.int .i64 b.1, .int .i64 b.2.1, .int .i64 b.2.2]]
theorem sheet_stops (nf : Nat) (hn : 1 ≤ nf) (S : List Nat) (B : Nat) (x0 y0 : Int) (c r : Nat) (hc : c ≤ 300) (hr : r ≤ 300) (hx : -200000 ≤ x0 ∧ x0 ≤ 200000) (hy : -200000 ≤ y0 ∧ y0 ≤ 200000) (w : World) (h1 : B ∉ S) (h2 : B + 1 ∉ S)
    (hA : Blk w B 30 #[.int .i64 x0, .int .i64 y0]) (hC : Blk w (B + 1) 3 #[.int .i64 c]) (hR : Blk w (B + 2) 3 #[.int .i64 r]) :
    SeqStopsK Fence.wide nf Try.prog 55 #[.pointer (some ⟨B + 2, 0, none⟩), .pointer (some ⟨B, 0, none⟩), .pointer (some ⟨B + 1, 0, none⟩)] encB (KeepB S w.heap.size) (fun ys => ys = shN x0 y0 c r) (fun _ => True) 1000000 w := fun l J Jx W hW hJ _ hY h0 => by
  have hcW : Chg S w W := Chg.of_below hW
  have fR := (hR.below hW).facts
  refine callsIn_of_wp Try.func55 rfl trivial ?_ rfl
  simp only [Try.ntmps55, List.size_toArray, List.length_cons, List.length_nil, Nat.reduceAdd, Nat.reduceSub, Array.replicate_succ, Array.replicate_zero, List.push_toArray, List.append_toArray, List.nil_append, List.cons_append]
  gi_wp2
  gi_loopw [11] (fun i wr => ∃ n : Nat, n ≤ r ∧ i = .int .i64 n ∧ J (shN x0 y0 c n) wr ∧ Chg S w wr) (fun i _ => r - (intOf i).toNat)
  case atStart => exact ⟨0, Nat.zero_le _, rfl, h0, hcW⟩
  case round =>
    clear fR h0
    obtain ⟨n, hn1, rfl, hJn, hcn⟩ := hrel
    by_cases hlt : n < r
    · have fA := (hA.chg hcn h1).facts
      have hpar : n % 2 < 2 := Nat.mod_lt _ (by omega)
      have HD : Hid (shN x0 y0 c (n + 1) = shN x0 y0 c n ++ shI x0 c (y0 + (n : Int)) n (c + 1 - n % 2)) := rfl
      have hl1 := shN_len x0 y0 c n
      have hl2 : n * (2 * (c + 1)) ≤ 300 * 602 := Nat.mul_le_mul (by omega) (by omega)
      have hpre : (shN x0 y0 c n).length ≤ 200000 := by omega
      clear hl1 hl2
      obtain ⟨L, hL⟩ : ∃ L, shN x0 y0 c n = L := ⟨_, rfl⟩
      rw [hL] at hJn HD hpre
      clear hL
      obtain ⟨wn, rfl⟩ : ∃ x, x = wr := ⟨_, rfl⟩
      gi_wp2
      gi_loopw [6] (fun X wr => ∃ i : Nat, i ≤ c + 1 - n % 2 ∧ X = .int .i64 (x0 + ((n % 2 : Nat) : Int) + 2 * (i : Int)) ∧ J (L ++ shI x0 c (y0 + (n : Int)) n i) wr ∧ Chg S w wr) (fun X _ => (x0 + 2 * (c : Int) + 2 - intOf X).toNat)
      case atStart => exact ⟨0, Nat.zero_le _, congrArg (Value.int .i64) (by omega), by simpa [shI] using hJn, hcn⟩
      case round =>
        clear fA hJn hcn
        obtain ⟨i, hi, rfl, hJi, hci⟩ := hrel
        have HI : Hid (shI x0 c (y0 + (n : Int)) n (i + 1) = shI x0 c (y0 + (n : Int)) n i ++ shT x0 c (x0 + ((n % 2 : Nat) : Int) + 2 * (i : Int)) (y0 + (n : Int)) 2) := rfl
        have hl2 := shI_len x0 c (y0 + (n : Int)) n i
        obtain ⟨X, hX⟩ : ∃ X, x0 + ((n % 2 : Nat) : Int) + 2 * (i : Int) = X := ⟨_, rfl⟩
        rw [hX] at HI ⊢
        obtain ⟨Y, hY0⟩ : ∃ Y, y0 + (n : Int) = Y := ⟨_, rfl⟩
        rw [hY0] at HI hJi hl2
        have HX := Lib.hid (And.intro hX hY0)
        have fC := (hC.chg hci h2).facts
        have fA := (hA.chg hci h1).facts
        have hb1 : x0 ≤ X := by omega
        obtain ⟨wi, rfl⟩ : ∃ x, x = wr := ⟨_, rfl⟩
        by_cases hXl : X ≤ x0 + 2 * (c : Int)
        · obtain ⟨M, hM⟩ : ∃ M, L ++ shI x0 c Y n i = M := ⟨_, rfl⟩
          have hMl : M.length ≤ 201000 := by rw [← hM, List.length_append]; omega
          have HM := Lib.hid hM
          rw [hM] at hJi
          have hlt2 : i < c + 1 - n % 2 := by omega
          clear hM hX hl2
          gi_wp2
          gi_loopw [29] (fun s wr => ∃ t : Nat, t ≤ 2 ∧ s = .int .i64 t ∧ J (M ++ shT x0 c X Y t) wr ∧ Chg S w wr) (fun s _ => 2 - (intOf s).toNat)
          case atStart => exact ⟨0, by omega, rfl, by simpa [shT] using hJi, hci⟩
          case round =>
            clear fA fC hJi hci
            obtain ⟨t, ht, rfl, hJt, hct⟩ := hrel
            have fC := (hC.chg hct h2).facts
            have fA := (hA.chg hct h1).facts
            have hl3 := shT_len x0 c X Y t
            obtain ⟨wt, rfl⟩ : ∃ x, x = wr := ⟨_, rfl⟩
            obtain rfl | rfl | rfl : t = 0 ∨ t = 1 ∨ t = 2 := by omega
            · have hX0 := HX.out.1
              have hq2 : X + -1 ≤ x0 + 2 * (c : Int) := by omega
              by_cases hq1 : x0 ≤ X + -1
              · have hq1' : (x0 ≤ X + -1) = True := by simpa using hq1
                have HT1 : Hid (shT x0 c X Y 1 = shT x0 c X Y 0 ++ [(X, Y, -1)]) := by
                  have h0 : sdB x0 c (X, Y, -1) = [(X, Y, -1)] := by unfold sdB; rw [if_pos ⟨hq1, hq2⟩]
                  exact congrArg (shT x0 c X Y 0 ++ ·) h0
                have hJ1 := abides_below hJ hJt (bl_alloc bl_refl (.cells #[.int .i64 X, .int .i64 Y, .int .i64 (-1)] 50))
                obtain ⟨fn, tmps, assign, body, hy, hR2⟩ := hY _ (X, Y, -1) _ hJ1 (by rw [List.length_append]; omega)
                have hy' : (Instr.yield l #[.agg #[.int .i64 X, .int .i64 Y, .int .i64 (-1)]]).run Try.prog (wt.alloc (.cells #[.int .i64 X, .int .i64 Y, .int .i64 (-1)] 50)) = .ok (.round l fn tmps assign body) (wt.alloc (.cells #[.int .i64 X, .int .i64 Y, .int .i64 (-1)] 50)) := hy
                clear hy hJt
                gi_wp2
                refine hR2.mono ?_
                rintro e W3 (⟨rfl, hJ3, hk3⟩ | ⟨rfl, hJx3⟩)
                · gi_wp2
                  go_roundw
                  case rel => exact ⟨1, by omega, rfl, by rw [HT1.out, ← List.append_assoc]; exact hJ3, (hct.alloc _).keep hk3⟩
                  case measure => simp [intOf]
                · gi_wp2
                  refine bodyPost_ret (results_none rfl _ _ _) rfl ?_
                  exact ⟨⟨_, rfl⟩, .inr ⟨_, trivial, hJx3⟩⟩
              · have hq1' : (x0 ≤ X + -1) = False := by simpa using hq1
                have HT1 : Hid (shT x0 c X Y 1 = shT x0 c X Y 0) := by
                  have h0 : sdB x0 c (X, Y, -1) = [] := by unfold sdB; rw [if_neg (fun hh => by have := hh.1; have := hh.2; simp only at *; omega)]
                  exact (congrArg (shT x0 c X Y 0 ++ ·) h0).trans (List.append_nil _)
                have hJ1 := abides_below hJ hJt (bl_alloc bl_refl (.cells #[.int .i64 X, .int .i64 Y, .int .i64 (-1)] 50))
                clear hJt
                gi_wp2_with (refine wpListIn_pass (by rfl) (fun _ => trivial) ?_)
                go_roundw
                case rel => exact ⟨1, by omega, rfl, by rw [HT1.out]; exact hJ1, hct.alloc _⟩
                case measure => simp [intOf]
            · have hq1 : x0 ≤ X + 1 := by omega
              by_cases hq2 : X + 1 ≤ x0 + 2 * (c : Int)
              · have hq2' : (X + 1 ≤ x0 + 2 * (c : Int)) = True := by simpa using hq2
                have HT1 : Hid (shT x0 c X Y 2 = shT x0 c X Y 1 ++ [(X, Y, 1)]) := by
                  have h0 : sdB x0 c (X, Y, 1) = [(X, Y, 1)] := by unfold sdB; rw [if_pos ⟨hq1, hq2⟩]
                  exact congrArg (shT x0 c X Y 1 ++ ·) h0
                have hJ1 := abides_below hJ hJt (bl_alloc bl_refl (.cells #[.int .i64 X, .int .i64 Y, .int .i64 1] 50))
                obtain ⟨fn, tmps, assign, body, hy, hR2⟩ := hY _ (X, Y, 1) _ hJ1 (by rw [List.length_append]; omega)
                have hy' : (Instr.yield l #[.agg #[.int .i64 X, .int .i64 Y, .int .i64 1]]).run Try.prog (wt.alloc (.cells #[.int .i64 X, .int .i64 Y, .int .i64 1] 50)) = .ok (.round l fn tmps assign body) (wt.alloc (.cells #[.int .i64 X, .int .i64 Y, .int .i64 1] 50)) := hy
                clear hy hJt
                gi_wp2
                refine hR2.mono ?_
                rintro e W3 (⟨rfl, hJ3, hk3⟩ | ⟨rfl, hJx3⟩)
                · gi_wp2
                  go_roundw
                  case rel => exact ⟨2, by omega, rfl, by rw [HT1.out, ← List.append_assoc]; exact hJ3, (hct.alloc _).keep hk3⟩
                  case measure => simp [intOf]
                · gi_wp2
                  refine bodyPost_ret (results_none rfl _ _ _) rfl ?_
                  exact ⟨⟨_, rfl⟩, .inr ⟨_, trivial, hJx3⟩⟩
              · have hq2' : (X + 1 ≤ x0 + 2 * (c : Int)) = False := by simpa using hq2
                have HT1 : Hid (shT x0 c X Y 2 = shT x0 c X Y 1) := by
                  have h0 : sdB x0 c (X, Y, 1) = [] := by unfold sdB; rw [if_neg (fun hh => by have := hh.1; have := hh.2; simp only at *; omega)]
                  exact (congrArg (shT x0 c X Y 1 ++ ·) h0).trans (List.append_nil _)
                have hJ1 := abides_below hJ hJt (bl_alloc bl_refl (.cells #[.int .i64 X, .int .i64 Y, .int .i64 1] 50))
                clear hJt
                gi_wp2_with (refine wpListIn_pass (by rfl) (fun _ => trivial) ?_)
                go_roundw
                case rel => exact ⟨2, by omega, rfl, by rw [HT1.out]; exact hJ1, hct.alloc _⟩
                case measure => simp [intOf]
            · gi_wp2
              go_roundw
              case rel => exact ⟨i + 1, by omega, congrArg (Value.int .i64) (by have := HX.out.1; omega), by rw [HX.out.2, HI.out, ← List.append_assoc, HM.out]; exact hJt, hct⟩
              case measure => simp [intOf]; omega
        · obtain rfl : i = c + 1 - n % 2 := by omega
          clear hX hY0
          gi_wp2
          go_roundw
          case rel => exact ⟨n + 1, by omega, by go_num, by rw [HD.out, HX.out.2]; exact hJi, hci⟩
          case measure => simp [intOf]; omega
    · obtain rfl : n = r := by omega
      gi_wp2
      go_end0
      exact ⟨⟨_, rfl⟩, .inl ⟨_, rfl, hJn⟩⟩
end Go.Proofs.Ytpoaomdpcoaolaa

/- Sheets, of the program, walked. Conditions: none. -/
namespace Go.Proofs.Ytpoaomdpcoaolaa
open Go.RowKit Go.ChangeMaps
set_option maxHeartbeats 4000000
set_option maxRecDepth 100000

attribute [local go_sem] Oper.semAt_some
theorem appendSeq_any (B : Nat) (x0 y0 : Int) (c r : Nat) (hc : c ≤ 300) (hr : r ≤ 300) (hx : -200000 ≤ x0 ∧ x0 ≤ 200000) (hy : -200000 ≤ y0 ∧ y0 ≤ 200000) (w : World)
    (hA : Blk w B 30 #[.int .i64 x0, .int .i64 y0]) (hC : Blk w (B + 1) 3 #[.int .i64 c]) (hR : Blk w (B + 2) 3 #[.int .i64 r]) :
    Calls Try.prog 54 #[.slice none 0 0, .func (.func 55) #[] #[.pointer (some ⟨B + 2, 0, none⟩), .pointer (some ⟨B, 0, none⟩), .pointer (some ⟨B + 1, 0, none⟩)]] w (RB w (shN x0 y0 c r)) := by
  refine (callsIn_wide (n := 6)).1 ?_
  refine callsIn_of_wp_marks Try.func54 rfl trivial ?_ rfl
  simp only [Try.ntmps54, List.size_toArray, List.length_cons, List.length_nil, Nat.reduceAdd, Nat.reduceSub, Array.replicate_succ, Array.replicate_zero, List.push_toArray, List.append_toArray, List.nil_append, List.cons_append]
  gi_wp2
  have hBx := Blk.new w 22 #[.slice none 0 0]
  have hb1 : Below w.heap.size w (w.alloc (.cells #[.slice none 0 0] 22)) := bl_alloc bl_refl _
  have hsz : (w.alloc (.cells #[.slice none 0 0] 22)).heap.size = w.heap.size + 1 := by simp
  obtain ⟨w1, hw1⟩ : ∃ X, w.alloc (.cells #[.slice none 0 0] 22) = X := ⟨_, rfl⟩
  rw [hw1] at hBx hb1 hsz ⊢
  have hAl := hA.lt
  have hCl := hC.lt
  refine wpIn_rangeFunc_ownH rfl (by omega) (gf := 55) (lb := #[.pointer (some ⟨B + 2, 0, none⟩), .pointer (some ⟨B, 0, none⟩), .pointer (some ⟨B + 1, 0, none⟩)]) rfl trivial (enters_of Try.func55 (by kernel_rfl) rfl)
    (sheet_stops 5 (by omega) [w.heap.size] B x0 y0 c r hc hr hx hy w1 (by simp; omega) (by simp; omega) (hA.below hb1) (hC.below hb1) (hR.below hb1)) keepB_t (keepB_b (Nat.le_refl _)) (Below.refl _ _) (fun _ => rfl)
    (fun pre W => (∃ u, Blk W w.heap.size 22 #[u] ∧ OwB w1.heap.size W u pre) ∧ Below w.heap.size w W ∧ w1.heap.size ≤ W.heap.size)
    (fun _ _ _ => False)
    (fun _ W W' row hs hg hr => by
      obtain ⟨⟨u, h1, h2⟩, h3, h4⟩ := hs
      exact ⟨⟨u, h1.grown hg (nc_blk h1 hr), h2.kept hg (nc_own h2 hr)⟩, bl_grown hg h3 (fun k e => by have := (hr k e).1; omega), Nat.le_trans h4 hg.size⟩)
    (fun _ _ _ _ _ hs _ _ => hs)
    ⟨⟨_, hBx, Own.nil_⟩, hb1, Nat.le_refl _⟩
    (fun x a' W => ∃ Bk, Blk W Bk 50 #[.int .i64 x.1, .int .i64 x.2.1, .int .i64 x.2.2] ∧ w1.heap.size ≤ Bk ∧ a' = { tmps := #[.slice none 0 0, .func (.func 55) #[] #[.pointer (some ⟨B + 2, 0, none⟩), .pointer (some ⟨B, 0, none⟩), .pointer (some ⟨B + 1, 0, none⟩)], .pointer (some ⟨w.heap.size, 0, none⟩), undef, .slice none 0 0, .pointer (some ⟨Bk, 0, none⟩), .func (.func 55) #[] #[.pointer (some ⟨B + 2, 0, none⟩), .pointer (some ⟨B, 0, none⟩), .pointer (some ⟨B + 1, 0, none⟩)], .agg #[.int .i64 x.1, .int .i64 x.2.1, .int .i64 x.2.2], undef, undef, undef, undef, undef], defers := [] })
    (fun x a' s W W' row hs hg hr => by
      obtain ⟨Bk, hX, hk, rfl⟩ := hs
      exact ⟨Bk, hX.grown hg (nc_blk hX hr), hk, rfl⟩) ?assign ?body ?done ?stop
  case assign =>
    rintro l pre x W K ⟨⟨u, hu1, hu2⟩, hbw, hs2⟩ hK
    unfold encB
    gi_wp2
    have hb2 : Below W.heap.size W (W.alloc (.cells #[.int .i64 x.1, .int .i64 x.2.1, .int .i64 x.2.2] 50)) := bl_alloc bl_refl _
    exact hK _ _ (keeps_of_below hb2) (KeepB.of_below hb2 hs2) ⟨⟨u, hu1.below hb2, hu2.below hb2⟩, bl_then hb2 hbw, Nat.le_trans hs2 hb2.size⟩ ⟨W.heap.size, Blk.new W _ _, hs2, rfl⟩
  case body =>
    rintro l pre x a' W _ _ ⟨⟨u, hu1, hu2⟩, hbw, hs2⟩ ⟨Bk, hX, hk, rfl⟩ hlt
    have fk := hX.facts
    have fo := hu1.facts
    gi_wp2_with (gi_at_builtin; refine wpListIn_appB1 hu2 rfl _ _ rfl rfl rfl rfl (by omega) hs2 ?_; intro v3 w3 hu3 hgr3; obtain ⟨A3, c3, rfl⟩ := hu3.shape; have hu13 := (hu1.alloc (.cells #[.int .i64 x.1, .int .i64 x.2.1, .int .i64 x.2.2] 50)).grown hgr3 (hu2.ne_blk hu1 (by decide)); have fo3 := hu13.facts)
    simp only [List.length_append, List.length_cons, List.length_nil, Nat.zero_add] at hu3
    have hal : Below W.heap.size W (W.alloc (.cells #[.int .i64 x.1, .int .i64 x.2.1, .int .i64 x.2.2] 50)) := bl_alloc bl_refl _
    have hsz2 : w1.heap.size ≤ (W.alloc (.cells #[.int .i64 x.1, .int .i64 x.2.1, .int .i64 x.2.2] 50)).heap.size := Nat.le_trans hs2 hal.size
    have hbw3 : Below w.heap.size w w3 := bl_grown hgr3 (bl_then hal hbw) (fun k e => by have := (hu2.lt k e).1; omega)
    exact ⟨(keeps_of_below hal).trans ((keeps_grown (hu2.alloc _) hgr3).trans (keeps_set hu13 0 _)),
      (KeepB.of_below hal hs2).trans ((KeepB.of_grown hgr3 hsz2 (fun k e => (hu2.lt k e).1)).trans (KeepB.of_set (by simp))),
      ⟨_, hu13.set_ 0 _, hu3.set (Ne.symm (hu3.ne_blk hu13 (by decide))) _⟩, bl_set hbw3 (by simp) _, Nat.le_trans hsz2 (Nat.le_trans hgr3.size (by simp [World.setCell]))⟩
  case done =>
    rintro D' ys W hD rfl ⟨⟨u, hu1, hu2⟩, hbw, hs2⟩ hK
    have fo := hu1.facts
    gi_wp2
    refine ⟨by simp, .inl ⟨_, _, rfl, run_takeDeferred hK, ?_⟩⟩
    exact ⟨_, results_tmp rfl _ _ _, u, rfl, Own.base_mono (ownsRow_putObj hu2 _ hK rfl) (by omega), hbw.trans (belowK_b (w := w) (Nat.le_refl _) W D' _ _ (by omega) hK rfl rfl)⟩
  case stop =>
    rintro D' c pre W _ _ h _
    exact h.elim
theorem collect_any (B : Nat) (x0 y0 : Int) (c r : Nat) (hc : c ≤ 300) (hr : r ≤ 300) (hx : -200000 ≤ x0 ∧ x0 ≤ 200000) (hy : -200000 ≤ y0 ∧ y0 ≤ 200000) (w : World)
    (hA : Blk w B 30 #[.int .i64 x0, .int .i64 y0]) (hC : Blk w (B + 1) 3 #[.int .i64 c]) (hR : Blk w (B + 2) 3 #[.int .i64 r]) :
    Calls Try.prog 36 #[.func (.func 55) #[] #[.pointer (some ⟨B + 2, 0, none⟩), .pointer (some ⟨B, 0, none⟩), .pointer (some ⟨B + 1, 0, none⟩)]] w (RB w (shN x0 y0 c r)) := by
  go_enter Try.func36, Try.ntmps36
  go_wp2_with (go_at_call 54; refine (appendSeq_any B x0 y0 c r hc hr hx hy _ hA hC hR).mono ?_; rintro e w1 ⟨v, rfl, hO, hb⟩)
  go_ret
  exact ⟨v, rfl, hO, hb⟩
def shE1 (x y c r : Int) : Int := firstI [knotE x y, withinI c 1 256, withinI r 1 256]
def shE2 (x y c r : Int) : Int := firstI [whenI (decide (4096 < 2 * c * r)) 5, reachI (x + 2 * c) (y + r)]
def sheetE (x y c r : Int) : Int := if shE1 x y c r ≠ 0 then shE1 x y c r else shE2 x y c r
def sheetL (x y c r : Int) : List Bar := if sheetE x y c r = 0 then shN x y c.toNat r.toNat else []
theorem firstI3_zero {a b c : Int} (h : firstI [a, b, c] = 0) : a = 0 ∧ b = 0 ∧ c = 0 := by
  unfold firstI at h
  split at h
  · rename_i ha; exact ⟨ha, firstI_zero h⟩
  · contradiction
theorem withinI_zero {n lo hi : Int} (h : withinI n lo hi = 0) : lo ≤ n ∧ n ≤ hi := by
  unfold withinI whenI at h
  split at h
  · omega
  · rename_i h2; simp at h2; omega
theorem apiSheet_any (x y c r : Int) (w : World) : Calls Try.prog 14 #[.agg #[.int .i64 x, .int .i64 y], .int .i64 c, .int .i64 r] w (RBE w (sheetL x y c r) (sheetE x y c r)) := by
  have hB := Blk.new w 30 #[.int .i64 x, .int .i64 y]
  have fB := hB.facts
  have hF : ∀ A c' W, Rd ic 1 W A [knotE x y, withinI c 1 256, withinI r 1 256] → Calls Try.prog 22 #[.slice A 3 c'] W (RV W (.int .i64 (shE1 x y c r))) := fun A c' W hr => nfirst_any [knotE x y, withinI c 1 256, withinI r 1 256] A c' W (by simp [maxLen]) hr
  by_cases hE : shE1 x y c r = 0
  · obtain ⟨hz1, hz2, hz3⟩ := firstI3_zero hE
    obtain ⟨z1, z2, z3, z4, z5⟩ := knotE_zero hz1
    obtain ⟨c1, c2⟩ := withinI_zero hz2
    obtain ⟨r1, r2⟩ := withinI_zero hz3
    have hE' : (shE1 x y c r != 0) = false := by simp [hE]
    have hF2 : ∀ A c' W, Rd ic 1 W A [whenI (decide (4096 < 2 * c * r)) 5, reachI (x + 2 * c) (y + r)] → Calls Try.prog 22 #[.slice A 2 c'] W (RV W (.int .i64 (shE2 x y c r))) := fun A c' W hr => nfirst_any [whenI (decide (4096 < 2 * c * r)) 5, reachI (x + 2 * c) (y + r)] A c' W (by simp [maxLen]) hr
    have HE : Hid (sheetE x y c r = shE2 x y c r) := by unfold Hid sheetE; rw [if_neg (by simp [hE])]
    obtain ⟨cn, rfl⟩ : ∃ n : Nat, c = (n : Int) := ⟨c.toNat, by omega⟩
    obtain ⟨rn, rfl⟩ : ∃ n : Nat, r = (n : Int) := ⟨r.toNat, by omega⟩
    have hcn : cn ≤ 256 := by omega
    have hrn : rn ≤ 256 := by omega
    have hm1 : 2 * (cn : Int) * (rn : Int) ≤ 2 * 256 * 256 := by
      have := Nat.mul_le_mul (show 2 * cn ≤ 2 * 256 by omega) hrn
      have h2 : ((2 * cn * rn : Nat) : Int) ≤ ((2 * 256 * 256 : Nat) : Int) := Int.ofNat_le.2 this
      simpa using h2
    have hm0 : 0 ≤ 2 * (cn : Int) * (rn : Int) := Int.mul_nonneg (by omega) (by omega)
    clear hz1 hz2 hz3 hE
    by_cases hE2 : shE2 x y cn rn = 0
    · have HS : Hid (sheetE x y cn rn = 0 ∧ sheetL x y cn rn = shN x y cn rn) := by
        have h1 : sheetE x y cn rn = 0 := HE.out.trans hE2
        refine ⟨h1, ?_⟩
        unfold sheetL
        rw [if_pos h1, Int.toNat_natCast, Int.toNat_natCast]
      have hE2' : (shE2 x y cn rn != 0) = false := by simp [hE2]
      clear hE2
      go_enter Try.func14, Try.ntmps14
      go_wp2_with (first | (go_at_call 24; refine (nknot_any x y _).mono ?_; rintro e w1 ⟨rfl, hb1⟩; (first | replace hB := hB.st0 hb1 | replace hB := hB.st1 hb1 | replace hB := hB.std hb1 | replace hB := hB.std1 hb1 | replace hB := hB.st2 hb1 | replace hB := hB.std2 hb1 | replace hB := hB.st3 hb1); have kB := hB.facts) | (go_at_call 33; refine (nwithin_any _ _ _ _).mono ?_; rintro e w1 ⟨rfl, hb1⟩; (first | replace hB := hB.st0 hb1 | replace hB := hB.st1 hb1 | replace hB := hB.std hb1 | replace hB := hB.std1 hb1 | replace hB := hB.st2 hb1 | replace hB := hB.std2 hb1 | replace hB := hB.st3 hb1); have kB := hB.facts) | (go_at_call 22; go_must (refine (hF _ _ _ (Rd.ints3 (by simp) (by go_simp) (by go_simp) (by go_simp))).mono ?_); rintro e w3 ⟨rfl, hb3⟩; have hB3 := (hB.alloc (.cells #[.int .i64 (knotE x y), .int .i64 (withinI cn 1 256), .int .i64 (withinI rn 1 256)] 25)).below hb3; have fB3 := hB3.facts))
      refine wp_region_ords [0, 1, 2, 3, 4, 6, 7, 8, 9, 10, 11, 12, 13, 14, 15] [(5, false)] [16, 17, 18, 19] (by kernel_rfl) (by kernel_rfl) (fun d _ _ _ _ h => by cases d <;> exact h) ?_
      simp only [List.map_cons, List.map_nil, List.getD_cons_zero, List.getD_cons_succ]
      repeat (go_big_quiet_step (fail))
      refine wpQuiet_nil ?_
      refine wpMid_run rfl (fun K hK => ?_)
      go_simp
      refine (nwhen_any _ _ _).mono ?_
      rintro e w4 ⟨rfl, hb4⟩
      refine hK _ _ (by (repeat (first | exact bl_refl | assumption | (apply bl_then; assumption) | refine bl_alloc ?_ _ | refine bl_drew ?_ | refine bl_drewN ?_ _))) ?_
      clear hK K
      have hB3_w4 := hB3.below (show Below _ _ w4 by (repeat (first | exact bl_refl | assumption | (apply bl_then; assumption) | refine bl_alloc ?_ _ | refine bl_drew ?_ | refine bl_drewN ?_ _)))
      have fhB3_w4 := hB3_w4.facts
      refine wpMid_nil ?_
      go_wp2_with (first | (go_at_call 35; refine (nreach_any _ _ _).mono ?_; rintro e w5 ⟨rfl, hb5⟩; have hB5 := hB3_w4.below hb5; have fB5 := hB5.facts) | (go_at_call 22; go_must (refine (hF2 _ _ _ (Rd.ints2 (by simp) (by go_simp) (by go_simp))).mono ?_); rintro e w6 ⟨rfl, hb6⟩; have hB6 := (hB5.alloc (.cells #[.int .i64 (whenI (decide (4096 < 2 * (cn : Int) * (rn : Int))) 5), .int .i64 (reachI (x + 2 * (cn : Int)) (y + (rn : Int)))] 25)).below hb6; have fB6 := hB6.facts) | (go_at_call 37; refine (sheet_any x y cn rn _).mono ?_; rintro e w7 ⟨rfl, rfl⟩) | (go_at_call 36; refine (collect_any w6.heap.size x y cn rn (by omega) (by omega) (by omega) (by omega) _ (((Blk.new w6 _ _).alloc _).alloc _) ((Blk.new1 w6 _ _ _).alloc _) (Blk.new2 w6 _ _ _ _)).mono ?_; rintro e w8 ⟨v8, rfl, hO8, hb8⟩))
      have hbw6 : Below w.heap.size w w6 := by (repeat (first | exact bl_refl | assumption | (apply bl_then; assumption) | refine bl_alloc ?_ _ | refine bl_drew ?_ | refine bl_drewN ?_ _))
      go_ret2
      exact ⟨_, by rw [HS.out.1]; rfl, by rw [HS.out.2]; exact hO8.base_mono (by have := hbw6.size; simp; omega), by (repeat (first | exact bl_refl | assumption | (apply bl_then; assumption) | refine bl_alloc ?_ _ | refine bl_drew ?_ | refine bl_drewN ?_ _))⟩
    · have HS : Hid (sheetE x y cn rn = shE2 x y cn rn ∧ sheetL x y cn rn = []) := by
        have h1 : sheetE x y cn rn = shE2 x y cn rn := HE.out
        exact ⟨h1, by unfold sheetL; rw [h1, if_neg hE2]⟩
      have hE2' : (shE2 x y cn rn != 0) = true := by simpa using hE2
      clear hE2
      go_enter Try.func14, Try.ntmps14
      go_wp2_with (first | (go_at_call 24; refine (nknot_any x y _).mono ?_; rintro e w1 ⟨rfl, hb1⟩; (first | replace hB := hB.st0 hb1 | replace hB := hB.st1 hb1 | replace hB := hB.std hb1 | replace hB := hB.std1 hb1 | replace hB := hB.st2 hb1 | replace hB := hB.std2 hb1 | replace hB := hB.st3 hb1); have kB := hB.facts) | (go_at_call 33; refine (nwithin_any _ _ _ _).mono ?_; rintro e w1 ⟨rfl, hb1⟩; (first | replace hB := hB.st0 hb1 | replace hB := hB.st1 hb1 | replace hB := hB.std hb1 | replace hB := hB.std1 hb1 | replace hB := hB.st2 hb1 | replace hB := hB.std2 hb1 | replace hB := hB.st3 hb1); have kB := hB.facts) | (go_at_call 22; go_must (refine (hF _ _ _ (Rd.ints3 (by simp) (by go_simp) (by go_simp) (by go_simp))).mono ?_); rintro e w3 ⟨rfl, hb3⟩; have hB3 := (hB.alloc (.cells #[.int .i64 (knotE x y), .int .i64 (withinI cn 1 256), .int .i64 (withinI rn 1 256)] 25)).below hb3; have fB3 := hB3.facts))
      refine wp_region_ords [0, 1, 2, 3, 4, 6, 7, 8, 9, 10, 11, 12, 13, 14, 15] [(5, false)] [16, 17, 18, 19] (by kernel_rfl) (by kernel_rfl) (fun d _ _ _ _ h => by cases d <;> exact h) ?_
      simp only [List.map_cons, List.map_nil, List.getD_cons_zero, List.getD_cons_succ]
      repeat (go_big_quiet_step (fail))
      refine wpQuiet_nil ?_
      refine wpMid_run rfl (fun K hK => ?_)
      go_simp
      refine (nwhen_any _ _ _).mono ?_
      rintro e w4 ⟨rfl, hb4⟩
      refine hK _ _ (by (repeat (first | exact bl_refl | assumption | (apply bl_then; assumption) | refine bl_alloc ?_ _ | refine bl_drew ?_ | refine bl_drewN ?_ _))) ?_
      clear hK K
      have hB3_w4 := hB3.below (show Below _ _ w4 by (repeat (first | exact bl_refl | assumption | (apply bl_then; assumption) | refine bl_alloc ?_ _ | refine bl_drew ?_ | refine bl_drewN ?_ _)))
      have fhB3_w4 := hB3_w4.facts
      refine wpMid_nil ?_
      go_wp2_with (first | (go_at_call 35; refine (nreach_any _ _ _).mono ?_; rintro e w5 ⟨rfl, hb5⟩; have hB5 := hB3_w4.below hb5; have fB5 := hB5.facts) | (go_at_call 22; go_must (refine (hF2 _ _ _ (Rd.ints2 (by simp) (by go_simp) (by go_simp))).mono ?_); rintro e w6 ⟨rfl, hb6⟩; have hB6 := (hB5.alloc (.cells #[.int .i64 (whenI (decide (4096 < 2 * (cn : Int) * (rn : Int))) 5), .int .i64 (reachI (x + 2 * (cn : Int)) (y + (rn : Int)))] 25)).below hb6; have fB6 := hB6.facts))
      go_ret2
      exact ⟨_, by rw [HS.out.1]; rfl, by rw [HS.out.2]; exact Own.nil_, by (repeat (first | exact bl_refl | assumption | (apply bl_then; assumption) | refine bl_alloc ?_ _ | refine bl_drew ?_ | refine bl_drewN ?_ _))⟩
  · have hE' : (shE1 x y c r != 0) = true := by simpa using hE
    have HS : Hid (sheetE x y c r = shE1 x y c r ∧ sheetL x y c r = []) := by
      have h1 : sheetE x y c r = shE1 x y c r := by unfold sheetE; rw [if_pos hE]
      exact ⟨h1, by unfold sheetL; rw [h1, if_neg hE]⟩
    clear hE
    go_enter Try.func14, Try.ntmps14
    go_wp2_with (first | (go_at_call 24; refine (nknot_any x y _).mono ?_; rintro e w1 ⟨rfl, hb1⟩; (first | replace hB := hB.st0 hb1 | replace hB := hB.st1 hb1 | replace hB := hB.std hb1 | replace hB := hB.std1 hb1 | replace hB := hB.st2 hb1 | replace hB := hB.std2 hb1 | replace hB := hB.st3 hb1); have kB := hB.facts) | (go_at_call 33; refine (nwithin_any _ _ _ _).mono ?_; rintro e w1 ⟨rfl, hb1⟩; (first | replace hB := hB.st0 hb1 | replace hB := hB.st1 hb1 | replace hB := hB.std hb1 | replace hB := hB.std1 hb1 | replace hB := hB.st2 hb1 | replace hB := hB.std2 hb1 | replace hB := hB.st3 hb1); have kB := hB.facts) | (go_at_call 22; go_must (refine (hF _ _ _ (Rd.ints3 (by simp) (by go_simp) (by go_simp) (by go_simp))).mono ?_); rintro e w3 ⟨rfl, hb3⟩))
    go_ret2
    exact ⟨_, by rw [HS.out.1]; rfl, by rw [HS.out.2]; exact Own.nil_, by (repeat (first | exact bl_refl | assumption | (apply bl_then; assumption) | refine bl_alloc ?_ _ | refine bl_drew ?_ | refine bl_drewN ?_ _))⟩
end Go.Proofs.Ytpoaomdpcoaolaa

/- A permutation by a key, of the program, walked. Conditions: none. -/
namespace Go.Proofs.Ytpoaomdpcoaolaa
open Go.RowKit Go.ChangeMaps
set_option maxHeartbeats 4000000
set_option maxRecDepth 100000

section
variable {α : Type} {enc : α → List Value} {sz bytes : Nat} {P : Program} {t e : TypeId} {w : World}
theorem run_cp (E : Elem P t e sz bytes) (henc : ∀ x, (enc x).length = sz) (hone : ∀ x, ∀ u ∈ enc x, u.oneCell' = true) (base : Nat) (ty : TypeId) (v u : Value) (n : Nat) (r : List α) (hown : ∃ xs, w.ownsRow base e sz v n xs) (hu : Sl enc sz w u r) (hn : r.length = n) :
    ∃ w', (Builtin.copy_ #[t, t] ty #[v, u]).run P w = .ok (goInt n) w' ∧ Own enc sz base e w' v r ∧ w.grownBy w' v.ownBlock := by
  obtain ⟨hund, hrow, hpos⟩ := E
  obtain ⟨i, hi, hrow⟩ : ∃ i, P.info? e = some i ∧ (i.zero.map (fun z => z.cells.size), i.size, i.bytes) = (some sz, sz, bytes) := by
    cases h : P.info? e with
    | none => rw [h] at hrow; cases hrow
    | some i => rw [h] at hrow; exact ⟨i, rfl, Option.some.inj hrow⟩
  have h2 := congrArg (fun x => x.2.1) hrow
  simp only at h2
  obtain ⟨A, c, rfl, hlc, hcm, hr⟩ := hu
  obtain ⟨xs, hxl, hv⟩ := hown
  have hfl : (r.flatMap enc).length = r.length * sz := flat_len henc r
  cases A with
  | none =>
    have hr0 : r = [] := by
      cases r with
      | nil => rfl
      | cons x r =>
        obtain ⟨b, off, he, _⟩ := hr 0 x rfl
        cases he
    subst hr0
    obtain rfl : n = 0 := hn.symm
    refine ⟨w, ?_, ⟨by simp, ?_⟩, World.grownBy.refl _ _⟩
    · rcases hv with ⟨rfl, _⟩ | ⟨g, cap, cur, rfl, _, hh, _⟩
      · simp [Builtin.copy_, run_underlying hund, sizeOf, typeInfo, hi, Builtin.lenOf, Builtin.firstCells]
      · simp [Builtin.copy_, run_underlying hund, sizeOf, typeInfo, hi, Builtin.lenOf, Builtin.firstCells, storeCells]
    · rcases hv with h | ⟨g, cap, cur, rfl, hg, hh, hnc, hcm', hcs, htk⟩
      · exact .inl h
      · exact .inr ⟨g, cap, cur, rfl, hg, hh, hnc, hcm', hcs, by simp⟩
  | some ad =>
    have hsrc : ∀ j u, (r.flatMap enc)[j]? = some u → w.cell? (ad.add j) = some u := by
      intro j u hj
      have hjl : j < r.length * sz := by rw [← hfl]; exact (List.getElem?_eq_some_iff.1 hj).1
      have hk : j / sz < r.length := Nat.div_lt_of_lt_mul (by rw [Nat.mul_comm]; exact hjl)
      obtain ⟨b, off, he, hbl, hc⟩ := hr (j / sz) r[j / sz] (List.getElem?_eq_getElem hk)
      have hm : j % sz < (enc r[j / sz]).length := by rw [henc]; exact Nat.mod_lt _ hpos
      have hj' := flat_get henc r (j / sz) r[j / sz] (j % sz) _ (List.getElem?_eq_getElem hk) (List.getElem?_eq_getElem hm)
      have hdm : j / sz * sz + j % sz = j := by rw [Nat.mul_comm]; exact Nat.div_add_mod j sz
      rw [hdm, hj] at hj'
      have hcj := hc (j % sz) u (by rw [List.getElem?_eq_getElem hm]; exact hj'.symm)
      obtain rfl : ad = ⟨b, off, none⟩ := Option.some.inj he
      rw [Nat.add_assoc, hdm] at hcj
      unfold Addr.add
      split
      · rename_i h0
        subst h0
        exact hcj
      · exact hcj
    have hl := run_loadCells_list (P := P) w ad (r.flatMap enc) hsrc
    rw [hfl, hn] at hl
    have h1 : ∀ u ∈ r.flatMap enc, u.oneCell' = true := by
      intro u hu
      obtain ⟨x, hx, hux⟩ := List.mem_flatMap.1 hu
      exact hone x u hux
    rcases hv with ⟨rfl, rfl⟩ | ⟨g, cap, cur, rfl, hg, hh, hnc, hcm', hcs, htk⟩
    · have hr0 : r = [] := List.eq_nil_of_length_eq_zero hn
      subst hr0
      refine ⟨w, ?_, ⟨by simp, .inl ⟨rfl, rfl⟩⟩, World.grownBy.refl _ _⟩
      have hl0 : (loadCells ad 0).run P w = .ok #[] w := by simpa using hl
      simp [Builtin.copy_, run_underlying hund, sizeOf, typeInfo, hi, Builtin.lenOf, Builtin.firstCells, hl0]
    · have hfit : 0 + 0 + (r.flatMap enc).length ≤ cur.size := by rw [hfl, hcs, hn]; simpa using Nat.mul_le_mul_right sz hnc
      have hst := run_storeCells_at P g 0 e (r.flatMap enc) 0 cur w hh hfit h1
      refine ⟨w.setRow g (cur.toList.take (0 + 0) ++ r.flatMap enc ++ cur.toList.drop (0 + 0 + (r.flatMap enc).length)).toArray, ?_, ⟨hfl, .inr ⟨g, cap, _, by rw [hn], hg, setRow_heap w g cur _ e _ hh, by omega, hcm', ?_, ?_⟩⟩, ?_⟩
      · simp [Builtin.copy_, run_underlying hund, sizeOf, typeInfo, hi, h2, Builtin.lenOf, Builtin.firstCells, hn, hl, hst]
      · simp only [List.size_toArray, List.length_append, List.length_take, List.length_drop, Array.length_toList]; omega
      · simp [← hfl]
      · refine ⟨rfl, rfl, rfl, by simp [World.setRow], fun k hk hne => setRow_other w g k _ (fun e => hne (by simp [Value.ownBlock, e]))⟩
end

theorem wp_region_treeB {P : Program} {Q : Exit → Act → World → Prop} {id : Nat} {a : Act} {w : World} {l : List Oper} (B : Nat) (pre : List Nat) (T : OT) (post : List Nat) (hm : P.follows .mixedOrders = true) (hB : treeB .any l.toArray pre T post = true)
    (hQ : ∀ d c a v w, Q (.panic c) (Act.put a d v) w → Q (.panic c) a w)
    (h : wpQuiet P l.toArray (fun w' => ∃ g : Bel B w, w' = g.val) (fun a' => wpTree P l.toArray Q (fun w' => ∃ g : Bel B w, w' = g.val) (post.map fun i => l.getD i default) T a' w.drew) (pre.map fun i => l.getD i default) a) :
    (Code.region id l.toArray true).wp P Q a w := by
  simp only [treeB, Bool.and_eq_true, decide_eq_true_eq] at hB
  obtain ⟨⟨hs, hn⟩, hB'⟩ := hB
  refine wp_region_any hm (wpAny_of_G (C := fun w' => ∃ g : Bel B w, w' = g.val) (kp := fun j => !post.contains j) _ _ _ _ ?_)
  have hn' : pre.length + (l.toArray.size - pre.length) = l.toArray.size := by omega
  have e : ∀ (xs : List Nat), (xs.map fun i => l.toArray.getD i default) = xs.map fun i => l.getD i default := fun xs => List.map_congr_left fun i _ => by simp [Array.getD_eq_getD_getElem?, List.getD_eq_getElem?_getD]
  have := tree_pre (C := fun w' => ∃ g : Bel B w, w' = g.val) hs hQ (Bel.ex (Below.refl B w).drew) pre _ a (Closed.start _) hB' (by rw [e, e]; exact h)
  rw [hn'] at this
  exact this
theorem below_of_grown {w w' : World} {g : Nat} (h : w.grownBy w' (some g)) (hg : g ≤ w.heap.size) : Below g w w' := ⟨h.os, h.tape, h.output, h.size, fun k hk => h.block k (by omega) (by simp; omega)⟩
abbrev OwI (base : Nat) := Own ic 1 base 3
theorem ic_len (x : Int) : (ic x).length = 1 := rfl
theorem ic_one (x : Int) : ∀ u ∈ ic x, u.oneCell' = true := by intro u hu; simp [ic] at hu; subst hu; rfl
theorem int_elem : Elem Try.prog 46 3 1 8 := ⟨by kernel_rfl, by kernel_rfl, by decide⟩
theorem Sl.one_int (w : World) (x : Int) (g : Nat) (hg : w.heap.size = g) : Sl ic 1 (w.alloc (.cells #[.int .i64 x] 3)) (.slice (some ⟨g, 0, none⟩) 1 1) [x] := by
  subst hg
  have hB := Blk.new w 3 #[.int .i64 x]
  refine ⟨_, 1, rfl, by simp, by simp [maxLen], fun i b hb => ?_⟩
  match i, hb with
  | 0, hb =>
    obtain rfl : x = b := by simpa using hb
    refine ⟨_, 0, rfl, hB.lt, fun j u hj => ?_⟩
    rw [hB.cell]
    match j, hj with
    | 0, hj => simpa [ic] using hj
theorem wpList_appI {ops : Array Oper} {rest : List Oper} {o : Oper} {a : Act} {Q : Exit → Act → World → Prop} {base : Nat} {W : World} {v : Value} {X : Int} {l : List Int} (hown : OwI base W v l) {g : Nat} (hgd : o.guard = none) (s x : Operand) (ho : o.op = .call { callee := .builtin .append, args := #[s, x], argTypes := #[46, 46] })
    (hs : a.eval s = v) (hx : a.eval x = .slice (some ⟨g, 0, none⟩) 1 1) (hg : W.heap.size = g) (hlen : l.length ≤ 1000000) (hbase : base ≤ W.heap.size)
    (h : ∀ v' w', OwI base w' v' (l ++ [X]) → (W.alloc (.cells #[.int .i64 X] 3)).grownBy w' v.ownBlock → wpList Try.prog ops Q rest (a.put o.dst v') w') :
    wpList Try.prog ops Q (o :: rest) a (W.alloc (.cells #[.int .i64 X] 3)) :=
  wpList_app hgd int_elem ic_len ic_one s x ho base v _ l [X] hs hx (hown.alloc _) (Sl.one_int W X g hg) (by simp [maxLen]; omega) (by simp; omega) (by simp; omega) h
section
variable {w : World} {base g cap n : Nat} {l : List Int}
theorem flatI_set (x : Int) : ∀ (l : List Int) (i : Nat), (l.flatMap ic).set i (.int .i64 x) = (l.set i x).flatMap ic
  | [], i => rfl
  | a :: r, 0 => rfl
  | a :: r, i + 1 => by
    have := flatI_set x r i
    simp only [List.flatMap_cons, ic, List.singleton_append, List.set_cons_succ] at this ⊢
    rw [this]
theorem ownI_set {e : TypeId} (h : Own ic 1 base e w (.slice (some ⟨g, 0, none⟩) l.length cap) l) (i : Nat) (x : Int) :
    Own ic 1 base e (w.setCell ⟨g, i, none⟩ (.int .i64 x)) (.slice (some ⟨g, 0, none⟩) l.length cap) (l.set i x) ∧ w.grownBy (w.setCell ⟨g, i, none⟩ (.int .i64 x)) (some g) := by
  obtain ⟨h1, g1⟩ := World.ownsRow.stored h i (.int .i64 x)
  rw [flatI_set] at h1
  refine ⟨?_, g1⟩
  unfold Own
  rw [List.length_set]
  exact h1
theorem ownI_there {e : TypeId} (h : Own ic 1 base e w (.slice (some ⟨g, 0, none⟩) l.length cap) l) {i : Nat} (hi : i < l.length) : g < w.heap.size ∧ w.cell? ⟨g, i, none⟩ = some (.int .i64 l[i]) ∧ w.frozen? ⟨g, i, none⟩ = false := by
  obtain ⟨A, c, e, _, _, hr⟩ := h.rd ic_len
  obtain ⟨rfl, rfl⟩ : some ⟨g, 0, none⟩ = A ∧ cap = c := by simpa using e
  obtain ⟨b, off, e2, hb, hc⟩ := hr i l[i] (List.getElem?_eq_getElem hi)
  obtain ⟨rfl, rfl⟩ : g = b ∧ 0 = off := by simpa using e2
  have h0 := hc 0 (.int .i64 l[i]) rfl
  refine ⟨hb, by simpa using h0, ?_⟩
  obtain ⟨hl, hc⟩ := h
  rcases hc with ⟨hv, _⟩ | ⟨g', cap', cur, hv, hg, hh, _⟩
  · cases hv
  · obtain ⟨rfl, rfl⟩ : g = g' ∧ cap = cap' := by simpa using hv
    simp [World.frozen?, hh]
end
theorem run_store_own1 {w : World} {base g cap : Nat} {l : List Int} (h : OwI base w (.slice (some ⟨g, 0, none⟩) l.length cap) l) {i : Nat} (hi : i < l.length) (p : Int) : (storeVar 3 ⟨g, i, none⟩ (.int .i64 p)).run Try.prog w = .ok () (w.setCell ⟨g, i, none⟩ (.int .i64 p)) := by
  obtain ⟨_, h3, h4⟩ := ownI_there h hi
  have := run_storeCells_cells (P := Try.prog) g i [.int .i64 p] 0 w (fun j hj => by
    obtain rfl : j = 0 := by simpa using hj
    simp [h3]) (fun j hj => by
    obtain rfl : j = 0 := by simpa using hj
    simpa using h4) (fun v hv => by
    obtain rfl : v = .int .i64 p := by simpa using hv
    rfl)
  obtain ⟨j, hj, hs⟩ : ∃ j, Try.prog.info? 3 = some j ∧ j.size = 1 := by
    have h0 : (Try.prog.info? 3).map (·.size) = some 1 := by kernel_rfl
    cases hq : Try.prog.info? 3 with
    | none => rw [hq] at h0; cases h0
    | some j => rw [hq] at h0; exact ⟨j, rfl, by simpa using h0⟩
  simp only [Nat.add_zero] at this
  simp [storeVar, sizeOf, typeInfo, hj, Value.cells, hs, this, World.setCells]
theorem wpList_store_ownI {ops : Array Oper} {rest : List Oper} {op : Oper} {a : Act} {Q : Exit → Act → World → Prop} {w : World} {base g cap n : Nat} {l : List Int} (h : OwI base w (.slice (some ⟨g, 0, none⟩) n cap) l) (hn : l.length = n) {i : Nat} (hi : i < n) (hgd : op.guard = none) (x y : Operand) (ho : op.op = .store 3 x y)
    {p : Int} (hx : a.eval x = .pointer (some ⟨g, i, none⟩)) (hy : a.eval y = .int .i64 p)
    (hK : ∀ W', OwI base W' (.slice (some ⟨g, 0, none⟩) n cap) (l.set i p) → w.grownBy W' (some g) → wpList Try.prog ops Q rest (a.put op.dst undef) W') : wpList Try.prog ops Q (op :: rest) a w := by
  subst hn
  refine wpList_plain hgd fun K hK' => ?_
  obtain ⟨h1, h2⟩ := ownI_set h i p
  have hr := run_store_own1 h hi p
  unfold Oper.wp execOp
  simp only [ho, hx, hy, Instr.storeAt, Instr.sureAddr, Sem.run_bind, Sem.run_pure, Result.andThen_ok, hr]
  exact hK' _ _ (hK _ h1 h2)
theorem ownI_cell {w : World} {base g cap n : Nat} {l : List Int} (h : OwI base w (.slice (some ⟨g, 0, none⟩) n cap) l) (hn : l.length = n) {i : Nat} (hi : i < n) : g < w.heap.size ∧ w.cell? ⟨g, i, none⟩ = some (.int .i64 (l.getD i 0)) ∧ w.frozen? ⟨g, i, none⟩ = false := by
  subst hn
  obtain ⟨h1, h2, h3⟩ := ownI_there h hi
  exact ⟨h1, by rw [h2]; simp [hi], h3⟩
theorem op_store_ownI {op : Oper} {a : Act} {K : Act → World → Prop} {Q : Exit → Act → World → Prop} {w : World} {base g cap n : Nat} {l : List Int} (h : OwI base w (.slice (some ⟨g, 0, none⟩) n cap) l) (hn : l.length = n) {i : Nat} (hi : i < n) (x y : Operand) (ho : op.op = .store 3 x y)
    {p : Int} (hx : a.eval x = .pointer (some ⟨g, i, none⟩)) (hy : a.eval y = .int .i64 p)
    (hK : ∀ W', OwI base W' (.slice (some ⟨g, 0, none⟩) n cap) (l.set i p) → w.grownBy W' (some g) → K (a.put op.dst undef) W') : op.wp Try.prog a w K Q := by
  subst hn
  obtain ⟨h1, h2⟩ := ownI_set h i p
  have hr := run_store_own1 h hi p
  unfold Oper.wp execOp
  simp only [ho, hx, hy, Instr.storeAt, Instr.sureAddr, Sem.run_bind, Sem.run_pure, Result.andThen_ok, hr]
  exact hK _ h1 h2
/-! ## the permutation -/
def swpL (l : List Int) (i k : Nat) : List Int := (l.set i (l.getD k 0)).set k (l.getD i 0)
def drawX (x : Int) : Int := 39373 * x % 2147483647
def drawF : Nat → Int → List Int → List Int
  | 0, _, l => l
  | i + 1, x, l => drawF i (drawX x) (swpL l (i + 1) (drawX x % ((i : Int) + 2)).toNat)
def iotaL : Nat → List Int
  | 0 => []
  | n + 1 => iotaL n ++ [(n : Int)]
theorem iotaL_len : ∀ n, (iotaL n).length = n
  | 0 => rfl
  | n + 1 => by rw [iotaL, List.length_append, iotaL_len n]; rfl
def drawL (key : Int) (n : Nat) : List Int := drawF (n - 1) key (iotaL n)
theorem swpL_len (l : List Int) (i k : Nat) : (swpL l i k).length = l.length := by simp [swpL]
def drawE (key n : Int) : Int := firstI [withinI key 1 2147483646, withinI n 0 256]
def drawR (key n : Int) : List Int := if drawE key n = 0 then drawL key n.toNat else []
def RIE (w : World) (l : List Int) (n : Int) (e : Ending) (w' : World) : Prop := ∃ v, e = .returned (.tuple #[v, .int .i64 n]) ∧ OwI w.heap.size w' v l ∧ Below w.heap.size w w'
end Go.Proofs.Ytpoaomdpcoaolaa

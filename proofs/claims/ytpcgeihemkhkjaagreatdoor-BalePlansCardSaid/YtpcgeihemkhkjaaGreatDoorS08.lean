/- What a round of a range over a function keeps; appends in a round. Conditions: none. -/
import Derived.Test.YtpcgeihemkhkjaaGreatDoorS07
import Derived.Test.YtpcgeihemkhkjaaGreatDoorS05
import Derived.RangeFuncNested
import Derived.RangeFuncBound
import Derived.RangeFuncCalls
import Derived.RangeFuncLeaves
import Derived.RangeFuncBox
import Derived.Test.YtpcgeihemkhkjaaGreatDoorS06
import Derived.Laws.RangeAny
import Derived.Laws.RangeString
import Derived.Deep.CutRange
namespace Go.Proofs.YtpcgeihemkhkjaaGreatDoor
open Go.RowKit Go.ChangeMaps
set_option maxHeartbeats 4000000
set_option maxRecDepth 100000
attribute [local go_sem] Oper.semAt_some
theorem Z84 {B : Nat} {W W' : World} (h : Below W.heap.size W W') : KeepsFrom B W W' :=
 ⟨h.size, fun k _ _ hk _ => (h.block k (Array.getElem?_eq_some_iff.1 hk).1).trans hk⟩
theorem Z85 {W W' : World} (h : Below W.heap.size W W') : W.grownBy W' none := Z01 h none
theorem Z86 {β : Type} {B : Nat} {J : β → World → Prop} (hJ : AbidesFrom B J) {s : β} {W W' : World} (h : J s W) (hb : Below W.heap.size W W') : J s W' :=
 hJ s W W' none h (Z85 hb) (fun r e => by cases e)
structure Z87 (S : List Nat) (n₀ : Nat) (A B : World) : Prop where
 os : B.os = A.os
 tape : B.tape = A.tape
 output : B.output = A.output
 size : A.heap.size ≤ B.heap.size
 block : ∀ k, k < n₀ → k ∉ S → B.heap[k]? = A.heap[k]?
section
variable {S : List Nat} {n₀ : Nat} {A B C w : World}
theorem Z87.trans (h : Z87 S n₀ A B) (h' : Z87 S n₀ B C) : Z87 S n₀ A C :=
 ⟨h'.os.trans h.os, h'.tape.trans h.tape, h'.output.trans h.output, Nat.le_trans h.size h'.size, fun k h1 h2 => (h'.block k h1 h2).trans (h.block k h1 h2)⟩
theorem Z87.of_chg (h : Chg S A B) (hn : n₀ ≤ A.heap.size) : Z87 S n₀ A B := ⟨h.os, h.tape, h.output, h.size, fun k h1 h2 => h.block k (by omega) h2⟩
theorem Z87.of_below (h : Below A.heap.size A B) (hn : n₀ ≤ A.heap.size) : Z87 S n₀ A B := Z87.of_chg (Chg.of_below h) hn
theorem Chg.keep (h : Chg S w A) (k : Z87 S w.heap.size A B) : Chg S w B :=
 ⟨k.os.trans h.os, k.tape.trans h.tape, k.output.trans h.output, Nat.le_trans h.size k.size, fun i h1 h2 => (k.block i h1 h2).trans (h.block i h1 h2)⟩
theorem Z88 (h : Z87 S n₀ A B) (k : Z87 S n₀ B C) : Z87 S n₀ A C := h.trans k
theorem Z89 (hn : n₀ ≤ w.heap.size) (W : World) (l : Nat) (o o' : Obj) (hl : w.heap.size ≤ l) (h : W.heap[l]? = some o) (h1 : o.isCells = false) (h2 : o.isWalk = false) : Z87 S n₀ W (W.putObj l o') := by
 have := belowK_b hn W l o o' hl h h1 h2
 exact ⟨this.os, this.tape, this.output, this.size, fun k hk _ => this.block k hk⟩
theorem Z87.of_grown {row : Option Nat} (h : A.grownBy B row) (hn : n₀ ≤ A.heap.size) (hr : ∀ k, row = some k → n₀ ≤ k) : Z87 S n₀ A B := ⟨h.os, h.tape, h.output, h.size, fun k h1 _ => h.block k (by omega) (fun e => by have := hr k e.symm; omega)⟩
theorem Z87.of_set {g i : Nat} {u : Value} (hg : g ∈ S) : Z87 S n₀ A (A.setCell ⟨g, i, none⟩ u) := ⟨rfl, rfl, rfl, by simp [World.setCell], fun k _ h2 => Below.heap_setCell A ⟨g, i, none⟩ u k (fun e => h2 (by
 have e' : k = g := e
 rw [e']; exact hg))⟩
end
section
variable {F : Fence} {n : Nat} {α : Type} {enc : α → List Value} {sz : Nat} {e : TypeId} {w : World} {P : Program}
theorem Z8a {bytes : Nat} {t : TypeId} {ops : Array Oper} {rest : List Oper} {o : Oper} {a : Act} {Q : Exit → Act → World → Prop} (hgd : o.guard = none) (E : Elem P t e sz bytes) (henc : ∀ x, (enc x).length = sz) (hone : ∀ x, ∀ u ∈ enc x, u.oneCell' = true) (s x : Operand)
  (ho : o.op = .call { callee := .builtin .append, args := #[s, x], argTypes := #[t, t] }) (base : Nat) (v u : Value) (l r : List α) (hs : a.eval s = v) (hx : a.eval x = u) (hown : Own enc sz base e w v l) (hu : Sl enc sz w u r)
  (h63 : l.length + r.length ≤ maxLen) (hb : (l.length + r.length) * bytes ≤ 140737488355328) (hbase : base ≤ w.heap.size)
  (h : ∀ v' w', Own enc sz base e w' v' (l ++ r) → w.grownBy w' v.ownBlock → wpListIn F n P ops Q rest (a.put o.dst v') w') : wpListIn F n P ops Q (o :: rest) a w := by
 refine wpListIn_plain hgd fun K hK' => ?_
 obtain ⟨v', w', hr, h2, h3⟩ := Z3x E henc hone base o.type v u l r hown hu h63 hb hbase
 unfold Oper.wpIn
 refine ⟨by simp [Oper.about, ho, resolve, Target.leads, Sem.run_pure], ?_⟩
 rw [Oper.semAt_plain F _ _ (by rw [ho]; intro c hc'; cases hc')]
 simp [execOp, ho, resolve, invoke, builtin, hs, hx, hr, Result.andThen]
 exact hK' _ _ (h v' w' h2 h3)
theorem Z8b {B : Nat} {row : Option Nat} {g : Nat} {t : TypeId} {cs : Array Value} (hB : Blk w g t cs) (hr : ∀ r, row = some r → B ≤ r ∧ ∃ o : Obj, w.heap[r]? = some o ∧ o.isCells = false) : some g ≠ row := fun e => by
 obtain ⟨_, o, ho, hc⟩ := hr g e.symm
 unfold Blk at hB
 rw [hB] at ho
 cases ho
 cases hc
theorem Z8c {B base : Nat} {row : Option Nat} {v : Value} {l : List α} (ho : Own enc sz base e w v l) (hr : ∀ r, row = some r → B ≤ r ∧ ∃ o : Obj, w.heap[r]? = some o ∧ o.isCells = false) : v.ownBlock = none ∨ v.ownBlock ≠ row := by
 rcases ho.2 with ⟨rfl, _⟩ | ⟨g, cap, cur, rfl, _, hh, _⟩
 ·exact .inl rfl
 ·refine .inr fun e => ?_
  obtain ⟨_, o, ho, hc⟩ := hr g (by simpa [Value.ownBlock] using e.symm)
  rw [hh] at ho; cases ho
  cases hc
theorem Z8d {B base : Nat} {w' : World} {v : Value} {l : List α} (ho : Own enc sz base e w v l) (hg : w.grownBy w' v.ownBlock) : KeepsFrom B w w' :=
 ⟨hg.size, fun k o _ hk hc => (hg.block k (Array.getElem?_eq_some_iff.1 hk).1 (fun e => by
  rcases ho.2 with ⟨rfl, _⟩ | ⟨g, cap, cur, rfl, _, hh, _⟩
  ·cases e
  ·have e' : k = g := by simpa [Value.ownBlock] using e
   rw [e', hh] at hk; cases hk
   cases hc)).trans hk⟩
theorem Z8e {B : Nat} {g : Nat} {t : TypeId} {cs : Array Value} (hB : Blk w g t cs) (i : Nat) (u : Value) : KeepsFrom B w (w.setCell ⟨g, i, none⟩ u) :=
 ⟨by simp [World.setCell], fun k o _ hk hc => (Below.heap_setCell w ⟨g, i, none⟩ u k (fun e => by
  have e' : k = g := e
  unfold Blk at hB; rw [e', hB] at hk; cases hk
  cases hc)).trans hk⟩
end
theorem Z8f {F : Fence} {n : Nat} {ops : Array Oper} {rest : List Oper} {o : Oper} {a : Act} {Q : Exit → Act → World → Prop} {base : Nat} {W : World} {v : Value} {X Y : Int} {l : List Knot} (hown : OwK base W v l) {g : Nat} (hgd : o.guard = none) (s x : Operand)
  (ho : o.op = .call { callee := .builtin .append, args := #[s, x], argTypes := #[209, 209] })
  (hs : a.eval s = v) (hx : a.eval x = .slice (some ⟨g, 0, none⟩) 1 1) (hg : W.heap.size = g) (hlen : l.length ≤ 1000000) (hbase : base ≤ W.heap.size)
  (h : ∀ v' w', OwK base w' v' (l ++ [(X, Y)]) → (W.alloc (.cells #[.int .i64 X, .int .i64 Y] 90)).grownBy w' v.ownBlock → wpListIn F n Tryz.prog ops Q rest (a.put o.dst v') w') :
  wpListIn F n Tryz.prog ops Q (o :: rest) a (W.alloc (.cells #[.int .i64 X, .int .i64 Y] 90)) := by
 subst hg
 exact Z8a hgd Z3w Z21 Z40 s x ho base v _ l [(X, Y)] hs hx (hown.alloc _) (Sl.one_knot W X Y) (by simp [maxLen]; omega) (by simp; omega) (by simp; omega) h
theorem Z8g {P : Program} {F : Fence} {n : Nat} {ops : Array Oper} {rest : List Oper} {o : Oper} {a : Act} {Q : Exit → Act → World → Prop} {w : World} (hw : Region.wanted o (yielded ops a.tmps) = false) (hF : ∀ f, F.fn f) (h : wpListIn F n P ops Q rest (a.put o.dst undef) w) : wpListIn F n P ops Q (o :: rest) a w := by
 simp only [wpListIn, hw]
 exact ⟨fun f _ => hF f, h⟩
theorem Z8h {B g : Nat} {t : TypeId} {cs : Array Value} {w w' : World} (hB : Blk w g t cs) (hc : Chg [g] w w') : KeepsFrom B w w' :=
 ⟨hc.size, fun k o _ hk h => (hc.block k (Array.getElem?_eq_some_iff.1 hk).1 (fun hm => by
  obtain rfl : k = g := by simpa using hm
  unfold Blk at hB; rw [hB] at hk; cases hk
  cases h)).trans hk⟩
def ec (e : Edg) : List Value := [sV e.1, .int .i64 e.2.1, .bool e.2.2]
def sc (x : Stp) : List Value := [.int .u8 x.1.toNat, .bool x.2]
def trc (x : Strp) : List Value := [.int .i64 x.1, .int .i64 x.2.1, .int .i64 x.2.2.1, .int .i64 x.2.2.2]
theorem Z8i (e : Edg) : (ec e).length = 3 := rfl
theorem Z8j (e : Stp) : (sc e).length = 2 := rfl
theorem Z8k (e : Strp) : (trc e).length = 4 := rfl
theorem Z8l (b : Edg) : ∀ u ∈ ec b, u.oneCell' = true := by intro u hu; simp [ec] at hu; rcases hu with rfl | rfl | rfl <;> rfl
theorem Z8m (b : Stp) : ∀ u ∈ sc b, u.oneCell' = true := by intro u hu; simp [sc] at hu; rcases hu with rfl | rfl <;> rfl
theorem Z8n (b : Strp) : ∀ u ∈ trc b, u.oneCell' = true := by intro u hu; simp [trc] at hu; rcases hu with rfl | rfl | rfl | rfl <;> rfl
abbrev SlE := Sl ec 3
abbrev SlS := Sl sc 2
abbrev SlT := Sl trc 4
theorem Z8o : Elem Tryz.prog 95 133 3 32 := ⟨by kernel_rfl, by kernel_rfl, by decide⟩
theorem Z8p : Elem Tryz.prog 84 132 3 32 := ⟨by kernel_rfl, by kernel_rfl, by decide⟩
theorem Z8q : Elem Tryz.prog 165 227 2 2 := ⟨by kernel_rfl, by kernel_rfl, by decide⟩
theorem Z8r : Elem Tryz.prog 118 234 4 32 := ⟨by kernel_rfl, by kernel_rfl, by decide⟩
theorem Z8s : Elem Tryz.prog 220 223 4 32 := ⟨by kernel_rfl, by kernel_rfl, by decide⟩
theorem Z8t : Elem Tryz.prog 261 119 2 16 := ⟨by kernel_rfl, by kernel_rfl, by decide⟩
theorem Rd.edge {w : World} {A : Option Addr} {l : List Edg} (h : Rd ec 3 w A l) {k : Nat} (hk : k < l.length) : ∃ b off, A = some ⟨b, off, none⟩ ∧ b < w.heap.size ∧
  w.cell? ⟨b, off + k * 3, none⟩ = some (.string ⟨l[k].1.toArray⟩) ∧ w.cell? ⟨b, off + k * 3 + 1, none⟩ = some (.int .i64 l[k].2.1) ∧ w.cell? ⟨b, off + k * 3 + 2, none⟩ = some (.bool l[k].2.2) := by
 obtain ⟨b, off, e, hlt, hc⟩ := h k l[k] (List.getElem?_eq_getElem hk)
 exact ⟨b, off, e, hlt, hc 0 _ rfl, hc 1 _ rfl, hc 2 _ rfl⟩
theorem Rd.stp {w : World} {A : Option Addr} {l : List Stp} (h : Rd sc 2 w A l) {k : Nat} (hk : k < l.length) : ∃ b off, A = some ⟨b, off, none⟩ ∧ b < w.heap.size ∧
  w.cell? ⟨b, off + k * 2, none⟩ = some (.int .u8 l[k].1.toNat) ∧ w.cell? ⟨b, off + k * 2 + 1, none⟩ = some (.bool l[k].2) := by
 obtain ⟨b, off, e, hlt, hc⟩ := h k l[k] (List.getElem?_eq_getElem hk)
 exact ⟨b, off, e, hlt, by simpa using hc 0 _ rfl, hc 1 _ rfl⟩
theorem Rd.strp {w : World} {A : Option Addr} {l : List Strp} (h : Rd trc 4 w A l) {k : Nat} (hk : k < l.length) : ∃ b off, A = some ⟨b, off, none⟩ ∧ b < w.heap.size ∧
  w.cell? ⟨b, off + k * 4, none⟩ = some (.int .i64 l[k].1) ∧ w.cell? ⟨b, off + k * 4 + 1, none⟩ = some (.int .i64 l[k].2.1) ∧ w.cell? ⟨b, off + k * 4 + 2, none⟩ = some (.int .i64 l[k].2.2.1) ∧ w.cell? ⟨b, off + k * 4 + 3, none⟩ = some (.int .i64 l[k].2.2.2) := by
 obtain ⟨b, off, e, hlt, hc⟩ := h k l[k] (List.getElem?_eq_getElem hk)
 exact ⟨b, off, e, hlt, by simpa using hc 0 _ rfl, hc 1 _ rfl, hc 2 _ rfl, hc 3 _ rfl⟩
theorem Sl.oneG {α : Type} {enc : α → List Value} {sz : Nat} (w : World) (t : TypeId) (x : α) (cs : Array Value) (hc : cs = (enc x).toArray) : Sl enc sz (w.alloc (.cells cs t)) (.slice (some ⟨w.heap.size, 0, none⟩) 1 1) [x] := by
 subst hc
 have hB := Blk.new w t (enc x).toArray
 refine ⟨_, 1, rfl, by simp, by simp [maxLen], fun i b hb => ?_⟩
 match i, hb with
 | 0, hb =>
  obtain rfl : x = b := by simpa using hb
  refine ⟨_, 0, rfl, hB.lt, fun j u hj => ?_⟩
  rw [hB.cell]; simpa using hj
def RG {α : Type} (enc : α → List Value) (sz : Nat) (e : TypeId) (w : World) (l : List α) (en : Ending) (w' : World) : Prop := ∃ v, en = .returned v ∧ Own enc sz w.heap.size e w' v l ∧ Below w.heap.size w w'
def RGE {α : Type} (enc : α → List Value) (sz : Nat) (e : TypeId) (w : World) (l : List α) (n : Int) (en : Ending) (w' : World) : Prop := ∃ v, en = .returned (.tuple #[v, .int .i64 n]) ∧ Own enc sz w.heap.size e w' v l ∧ Below w.heap.size w w'
theorem Z8u (b : Bool) (n : Int) (w : World) : Calls Tryz.prog 178 #[.bool b, .int .i64 n] w (RV w (.int .i64 (Z15 b n))) := by
 cases b
 all_goals
  go_enter Tryz.func178, Tryz.ntmps178
  go_wp2; go_ret; exact ⟨rfl, Z03⟩
theorem Z8v (n lo hi : Int) (w : World) : Calls Tryz.prog 179 #[.int .i64 n, .int .i64 lo, .int .i64 hi] w (RV w (.int .i64 (Z16 n lo hi))) := by
 go_enter Tryz.func179, Tryz.ntmps179
 go_wp2_with (go_at_call 178; refine (Z8u _ _ _).mono ?_; rintro e w1 ⟨rfl, hb1⟩)
 all_goals go_ret
 ·exact ⟨rfl, hb1⟩
 ·exact ⟨Z0b (by simp [Z16, *]), hb1⟩
theorem Z8w (l : List Int) (A : Option Addr) (c : Nat) (w : World) (hl : l.length ≤ maxLen) (h : Rd ic 1 w A l) :
  Calls Tryz.prog 177 #[.slice A l.length c] w (RV w (.int .i64 (Z17 l))) := by
 unfold maxLen at hl
 go_enter Tryz.func177, Tryz.ntmps177
 go_wp2
 go_loop [7] (fun i => ∃ k : Nat, k ≤ l.length ∧ i = .int .i64 k ∧ Hid (Z17 l = Z17 (l.drop k))) (fun i => l.length - (intOf i).toNat)
 case atStart => exact ⟨0, Nat.zero_le _, rfl, rfl⟩
 case round =>
  obtain ⟨k, hk, rfl, H⟩ := hrel; by_cases hlt : k < l.length
  ·obtain ⟨b, off, rfl, hb, hc⟩ := h.int hlt
   have hd := Lib.hid (Z18 hlt)
   go_wp2
   ·have hne : (l[k] != 0) = true := by assumption
    go_ret; refine ⟨Z0b ?_, Z03⟩
    rw [H.out, hd.out, if_neg (by simpa using hne)]
   ·have hne : (l[k] != 0) = false := by assumption
    go_round
    case rel => exact ⟨k + 1, by omega, by go_num, by rw [H.out, hd.out, if_pos (by simpa using hne)]; rfl⟩
    case measure => simp [intOf]; omega
  ·have hkl : k = l.length := by omega
   go_wp2; go_ret; refine ⟨Z0b ?_, Z03⟩
   rw [H.out, hkl, List.drop_length]; rfl
theorem Z8x {s : List UInt8} {k : Nat} (hk : k < s.length) : Z36 (s.take (k + 1)) = (Z36 (s.take k) || !(s[k] == 78 || s[k] == 66 || s[k] == 84)) := by
 unfold Z36
 rw [List.take_succ_eq_append_getElem hk, List.any_append]
 simp
theorem Z8y {s : List UInt8} {k : Nat} (hk : k < s.length) (h : (s[k] == 78 || s[k] == 66 || s[k] == 84) = false) : Z36 s = true := by
 unfold Z36
 rw [List.any_eq_true]
 exact ⟨s[k], List.getElem_mem hk, by simp [h]⟩
def okN (n : Nat) : Bool := decide (n = 78) || decide (n = 66) || decide (n = 84)
theorem Z8z (c : UInt8) : (c == 78 || c == 66 || c == 84) = okN c.toNat := by
 unfold okN
 rw [Bool.eq_iff_iff]
 simp [← UInt8.toNat_inj]
theorem Rd.ints4 {w : World} {b : Nat} {p q r t : Int} (hb : b < w.heap.size) (h0 : w.cell? ⟨b, 0, none⟩ = some (.int .i64 p)) (h1 : w.cell? ⟨b, 1, none⟩ = some (.int .i64 q)) (h2 : w.cell? ⟨b, 2, none⟩ = some (.int .i64 r)) (h3 : w.cell? ⟨b, 3, none⟩ = some (.int .i64 t)) : Rd ic 1 w (some ⟨b, 0, none⟩) [p, q, r, t] :=
  Rd.ints hb fun i x hi => by
    match i, hi with
    | 0, hi => obtain rfl : p = x := by simpa using hi
               exact h0
    | 1, hi => obtain rfl : q = x := by simpa using hi
               exact h1
    | 2, hi => obtain rfl : r = x := by simpa using hi
               exact h2
    | 3, hi => obtain rfl : t = x := by simpa using hi
               exact h3
theorem Z90 (e : Edg) (w : World) : Calls Tryz.prog 210 #[.agg #[sV e.1, .int .i64 e.2.1, .bool e.2.2]] w (RV w (.int .i64 (edgE e))) := by
  obtain ⟨s, t, o⟩ := e; simp only
  obtain ⟨B, hB⟩ : ∃ B : ByteArray, ({ data := s.toArray } : ByteArray) = B := ⟨_, rfl⟩
  have hsz : B.size = s.length := by rw [← hB]; rfl
  have hget : ∀ k (h : k < s.length), (B[k]'(by rw [hsz]; exact h)) = s[k] := fun k h => by subst hB; rfl
  have hnil : (B.toList == []) = decide (s = []) := by
    rw [show B.toList = s by rw [← hB]; simp [ByteArray.toList_eq]]
    cases s <;> rfl
  have HZ := Lib.hid hsz
  have HGt := Lib.hid hget
  have hF : ∀ A c' W, Rd ic 1 W A [Z15 (decide (s = [])) 12, Z15 (decide (64 < (s.length : Int))) 26, Z15 (Z36 s) 1, Z16 t 1 64] → Calls Tryz.prog 177 #[.slice A 4 c'] W (RV W (.int .i64 (edgE (s, t, o)))) := fun A c' W hr => by
    rw [show decide (64 < (s.length : Int)) = decide (64 < s.length) by rw [Bool.eq_iff_iff]; simp; omega] at hr
    exact Z8w [Z15 (decide (s = [])) 12, Z15 (decide (64 < s.length)) 26, Z15 (Z36 s) 1, Z16 t 1 64] A c' W (by simp [maxLen]) hr
  unfold sV; rw [hB]; have hK := Blk.new w 133 #[.string B, .int .i64 t, .bool o]
  have fhK := hK.facts
  clear hB hget; go_enter Tryz.func210, Tryz.ntmps210
  go_upto_region 3 with fail; obtain ⟨w1, hw1⟩ : ∃ X, w.alloc (.cells #[.string B, .int .i64 t, .bool o] 133) = X := ⟨_, rfl⟩
  have hb1 : Below w.heap.size w w1 := by rw [← hw1]; exact Z04 Z03 _
  have hsz1 : w1.heap.size = w.heap.size + 1 := by rw [← hw1]; simp
  rw [hw1] at hK fhK ⊢; clear hw1; have hz1 : w1.heap.size = w.heap.size + 1 := hsz1
  go_loopw [3] (fun s3 wr => ∃ k b, s3 = .bool b ∧ wr = w1.iter B k ∧ Hid ((b = true → Z36 s = true) ∧ (b = false → k ≤ s.length ∧ Z36 (s.take k) = false))) (fun _ wr => s.length - wr.iterPos w1.heap.size)
  case atStart => exact ⟨0, false, rfl, rfl, Lib.hid ⟨(fun h => by cases h), fun _ => ⟨Nat.zero_le _, rfl⟩⟩⟩
  case round =>
    obtain ⟨k, b, rfl, rfl, H⟩ := hrel; have hbw : Below w.heap.size w (w1.iter B k) := Z04 hb1 _
    by_cases hlt : k < s.length
    · have hp : k < B.size := by have := HZ.out; omega
      have hnx : ∀ ty, (Instr.next (.pointer (some ⟨w1.heap.size, 0, none⟩)) true ty).run Tryz.prog (w1.iter B k) = _ := fun ty => run_next_any w1 B k ty hp
      rw [hz1] at hnx; obtain ⟨n, hn⟩ : ∃ n : Nat, (Utf8.decode B k).1 = n := ⟨_, rfl⟩
      obtain ⟨d, hd⟩ : ∃ n : Nat, (Utf8.decode B k).2 = n := ⟨_, rfl⟩
      have hg : (B[k]'hp) = s[k] := HGt.out k hlt
      have key : Hid (okN s[k].toNat = okN n ∧ (okN n = true → d = 1) ∧ 1 ≤ d) := by
        by_cases ha : (B[k]'hp).toNat < 128
        · have := decode_ascii B k hp ha
          rw [this] at hn hd; exact ⟨by rw [← hn, hg], fun _ => hd.symm, by simp at hd; omega⟩
        · have hh := decode_high B k hp (by omega)
          rw [hn, hd] at hh
          have f1 : ∀ m, 128 ≤ m → okN m = false := fun m hm => by
            unfold okN; rw [decide_eq_false (by omega), decide_eq_false (by omega), decide_eq_false (by omega)]
            rfl
          rw [hg] at ha; rw [f1 _ (by omega), f1 n hh.1]
          exact ⟨rfl, fun q => (by cases q), hh.2⟩
      rw [hn, hd] at hnx; have hok : ∀ v : Bool, okN n = v → okN s[k].toNat = v := fun v h => by rw [key.out.1]; exact h
      have HW := Lib.hid (Z8x hlt)
      have HI := Lib.hid (Z8y hlt)
      have HO := Lib.hid (Z8z s[k])
      have hd1 := key.out.2.2
      have HD : Hid (okN n = true → d = 1) := key.out.2.1
      have HOK := Lib.hid hok
      clear hn hd hg hok key; cases b
      · by_cases h1 : n = 78 ∨ n = 66 ∨ n = 84
        · have h78 : (((n : Nat) : Int) != 78 && ((n : Nat) : Int) != 66 && ((n : Nat) : Int) != 84) = false := by
            rcases h1 with rfl | rfl | rfl <;> rfl
          have hn2 : Hid (okN n = true) := by unfold Hid okN; rcases h1 with rfl | rfl | rfl <;> rfl
          obtain rfl : d = 1 := HD.out hn2.out
          have HT : Hid (Z36 (s.take (k + 1)) = false) := by
            unfold Hid; rw [HW.out, (H.out.2 rfl).2, HO.out, HOK.out true hn2.out]
            rfl
          rcases h1 with rfl | rfl | rfl
          all_goals
            clear h78; go_wp2; go_roundw; case rel => exact ⟨k + 1, false, rfl, rfl, Lib.hid ⟨(fun h => by cases h), fun _ => ⟨by omega, HT.out⟩⟩⟩
            case measure => simp; omega
        · have t1 : ((n : Int) != 78) = true := by rw [bne_iff_ne]; omega
          have t2 : ((n : Int) != 66) = true := by rw [bne_iff_ne]; omega
          have t3 : ((n : Int) != 84) = true := by rw [bne_iff_ne]; omega
          have hn2 : okN n = false := by
            unfold okN; rw [decide_eq_false (by omega), decide_eq_false (by omega), decide_eq_false (by omega)]
            rfl
          have HT : Hid (Z36 s = true) := HI.out (by rw [HO.out]; exact HOK.out false hn2)
          clear h1 hn2; go_wp2; go_roundw; case rel => exact ⟨k + d, true, rfl, rfl, Lib.hid ⟨fun _ => HT.out, fun h => by cases h⟩⟩
          case measure => simp; omega
      · have HT : Hid (Z36 s = true) := H.out.1 rfl
        go_wp2; go_roundw; case rel => exact ⟨k + d, true, rfl, rfl, Lib.hid ⟨fun _ => HT.out, fun h => by cases h⟩⟩
        case measure => simp; omega
    · have hnx : ∀ ty, (Instr.next (.pointer (some ⟨w1.heap.size, 0, none⟩)) true ty).run Tryz.prog (w1.iter B k) = _ := fun ty => run_next_end w1 B k ty (by have := HZ.out; omega)
      rw [hz1] at hnx
      have HE : Hid (b = Z36 s) := by
        unfold Hid; cases b
        · have := (H.out.2 rfl).2
          rw [List.take_of_length_le (by omega)] at this
          exact this.symm
        · exact (H.out.1 rfl).symm
      obtain ⟨E, hE⟩ : ∃ E, edgE (s, t, o) = E := ⟨_, rfl⟩
      rw [← HE.out, hE] at hF; have HE2 := Lib.hid hE
      clear H hE HE; have hK2 := hK.below (show Below w1.heap.size w1 (w1.iter B k) from Z04 Z03 _)
      go_upto_region 6 with fail; obtain ⟨w2, hw2⟩ : ∃ X, w1.iter B k = X := ⟨_, rfl⟩
      rw [hw2] at hK2 hbw ⊢; clear hw2 hnx hK fhK; have fhK := hK2.facts
      refine Z0z [0, 1, 2, 4, 5, 6, 7, 9, 11, 12] [(3, false), (8, false), (10, false)] [13, 14, 15, 16] (by kernel_rfl) (by kernel_rfl) (fun d _ _ _ _ h => by cases d <;> exact h) ?_
      simp only [List.map_cons, List.map_nil, List.getD_cons_zero, List.getD_cons_succ]; repeat (go_big_quiet_step (fail))
      refine wpQuiet_nil ?_; refine Z11 rfl (fun K hK => ?_); go_simp; refine (Z8u _ 12 _).mono ?_
      rintro e w3 ⟨rfl, hb3⟩; refine hK _ _ (by (repeat first|exact J0|assumption|(apply J1;assumption)|apply J2|apply J3|apply J4)) ?_
      clear hK K; have hK2_w3 := hK2.below (show Below _ _ w3 by (repeat first|exact J0|assumption|(apply J1;assumption)|apply J2|apply J3|apply J4))
      have fhK2_w3 := hK2_w3.facts
      refine Z11 rfl (fun K hK => ?_); go_simp; refine (Z8u _ 26 _).mono ?_
      rintro e w4 ⟨rfl, hb4⟩; refine hK _ _ (by (repeat first|exact J0|assumption|(apply J1;assumption)|apply J2|apply J3|apply J4)) ?_
      clear hK K; have hK2_w4 := hK2.below (show Below _ _ w4 by (repeat first|exact J0|assumption|(apply J1;assumption)|apply J2|apply J3|apply J4))
      have fhK2_w4 := hK2_w4.facts
      refine Z11 rfl (fun K hK => ?_); go_simp; refine (Z8u _ 1 _).mono ?_
      rintro e w5 ⟨rfl, hb5⟩; refine hK _ _ (by (repeat first|exact J0|assumption|(apply J1;assumption)|apply J2|apply J3|apply J4)) ?_
      clear hK K; have hK2_w5 := hK2.below (show Below _ _ w5 by (repeat first|exact J0|assumption|(apply J1;assumption)|apply J2|apply J3|apply J4))
      have fhK2_w5 := hK2_w5.facts
      refine Z10 ?_; go_wp2_with (first | (go_at_call 179; refine (Z8v _ _ _ _).mono ?_; rintro e w6 ⟨rfl, hb6⟩) | (go_at_call 177; go_must (refine (hF _ _ _ (Rd.ints4 (by simp) (by go_simp) (by go_simp) (by go_simp) (by go_simp))).mono ?_); rintro e w7 ⟨rfl, hb7⟩))
      refine bodyPost_ret (v := .int .i64 E) (by simp [results, Tryz.results210, go_sem]) rfl ?_
      exact ⟨by rw [HE2.out], by (repeat first|exact J0|assumption|(apply J1;assumption)|apply J2|apply J3|apply J4)⟩
theorem Z91 (e : Edg) (h : edgE e = 0) : (e.1.length : Int) * e.2.1 = ((edgS e).length : Nat) := by
 obtain ⟨_, _, _, h4, h5⟩ := Z39 h
 rw [Z2h]
 obtain ⟨t, ht⟩ : ∃ t : Nat, e.2.1 = t := ⟨e.2.1.toNat, by omega⟩
 rw [ht, Int.toNat_natCast, Nat.mul_comm]
 push_cast
 rfl
theorem Z92 {l : List Edg} {k : Nat} (hk : k < l.length) (n : Int) : Z37 (l.drop k) n = if edgE l[k] = 0 then Z37 (l.drop (k + 1)) (n + l[k].1.length * l[k].2.1) else edgE l[k] := by
 rw [List.drop_eq_getElem_cons hk, Z37]
theorem Z93 {v : Value} (l : List Edg) (w : World) (h : SlE w v l) : Calls Tryz.prog 180 #[v] w (RV w (.int .i64 (Z38 l))) := by
 obtain ⟨A, c, rfl, hlc, hcm, hr⟩ := h
 have hl : l.length ≤ maxLen := Nat.le_trans hlc hcm
 unfold maxLen at hl
 by_cases h64 : 64 < l.length
 ·have HS : Hid (Z38 l = 5) := by unfold Hid Z38; rw [if_pos h64]
  go_enter Tryz.func180, Tryz.ntmps180
  go_wp2; go_ret; exact ⟨by rw [HS.out]; rfl, by (repeat first|exact J0|assumption|(apply J1;assumption)|apply J2|apply J3|apply J4)⟩
 have HS : Hid (Z38 l = Z37 l 0) := by unfold Hid Z38; rw [if_neg h64]
 have t1 : (64 < (l.length : Int)) = False := eq_false (by omega)
 have h65 : l.length ≤ 64 := by omega
 clear h64
 go_enter Tryz.func180, Tryz.ntmps180
 go_wp2
 go_loopw [3, 12] (fun n i wr => ∃ (k : Nat) (m : Int), k ≤ l.length ∧ i = .int .i64 k ∧ n = .int .i64 m ∧ (0 ≤ m ∧ m ≤ 4096 * (k : Int)) ∧ Hid (Z37 l 0 = Z37 (l.drop k) m) ∧ Below w.heap.size w wr) (fun _ i _ => l.length - (intOf i).toNat)
 case atStart => exact ⟨0, 0, Nat.zero_le _, rfl, rfl, by omega, rfl, by (repeat first|exact J0|assumption|(apply J1;assumption)|apply J2|apply J3|apply J4)⟩
 case round =>
  obtain ⟨k, m, hk, rfl, rfl, hm, H, hbw⟩ := hrel; obtain ⟨wo, rfl⟩ : ∃ x, x = wr := ⟨_, rfl⟩
  by_cases hlt : k < l.length
  ·obtain ⟨b, off, rfl, hb, e0, e1, e2⟩ := (hr.below hbw).edge hlt
   have HD := Lib.hid (Z92 hlt m)
   have HM := Lib.hid (Z91 l[k])
   have HZ := Lib.hid (Z39 (e := l[k]))
   have HC := fun W => Z90 l[k] W
   obtain ⟨⟨s, t, o⟩, hx⟩ : ∃ z, l[k] = z := ⟨_, rfl⟩
   rw [hx] at e0 e1 e2 HD HM HZ HC; simp only at e0 e1 e2 HC
   unfold sV at HC; have hK := Blk.new wo 133 #[.string ⟨s.toArray⟩, .int .i64 t, .bool o]
   have fhK := hK.facts
   obtain ⟨E, hE⟩ : ∃ E, edgE (s, t, o) = E := ⟨_, rfl⟩
   rw [hE] at HC HD HM HZ; clear hx hE; go_wp2_with fail; refine (HC _).mono ?_
   rintro e w2 ⟨rfl, hb2⟩; have hbw2 : Below w.heap.size w w2 := by (repeat first|exact J0|assumption|(apply J1;assumption)|apply J2|apply J3|apply J4)
   have fhK2 := (hK.below hb2).facts
   by_cases hE0 : E = 0
   ·have hE' : (E != 0) = false := by simp [hE0]
    obtain ⟨_, q2, _, q4, q5⟩ := HZ.out hE0
    have q2' : s.length ≤ 64 := q2
    have q4' : 1 ≤ t := q4
    have q5' : t ≤ 64 := q5
    clear q2 q4 q5
    have hmul : 0 ≤ (s.length : Int) * t ∧ (s.length : Int) * t ≤ 64 * 64 := by
     obtain ⟨tn, rfl⟩ : ∃ tn : Nat, t = tn := ⟨t.toNat, by omega⟩
     have := Nat.mul_le_mul q2' (show tn ≤ 64 by omega)
     exact ⟨Int.mul_nonneg (by omega) (by omega), by exact_mod_cast this⟩
    obtain ⟨P, hP⟩ : ∃ P, (s.length : Int) * t = P := ⟨_, rfl⟩
    have hsz : (({ data := s.toArray } : ByteArray)).size = s.length := rfl
    rw [hP] at hmul
    have HN : Hid (Z37 l 0 = Z37 (l.drop (k + 1)) (m + P)) := by
     unfold Hid; rw [H.out, HD.out, if_pos hE0, ← hP]
    clear hE0; go_wp2; go_roundw; case rel => exact ⟨k + 1, m + P, by omega, by go_num, rfl, by push_cast; omega, HN.out, hbw2⟩
    case measure => simp [intOf]; omega
   ·have hE' : (E != 0) = true := by simp [hE0]
    have HN : Hid (Z37 l 0 = E) := by unfold Hid; rw [H.out, HD.out, if_neg hE0]
    clear hE0; go_wp2; go_ret; exact ⟨by rw [HS.out, HN.out]; rfl, hbw2⟩
  ·obtain rfl : k = l.length := by omega
   have HN : Hid (Z37 l 0 = Z15 (decide (512 < m)) 5) := by unfold Hid; rw [H.out, List.drop_length]; rfl
   go_wp2_with fail; refine (Z8u (decide (512 < m)) 5 _).mono ?_
   rintro e w2 ⟨rfl, hb2⟩; go_wp2; go_ret; exact ⟨by rw [HS.out, HN.out]; rfl, by (repeat first|exact J0|assumption|(apply J1;assumption)|apply J2|apply J3|apply J4)⟩
end Go.Proofs.YtpcgeihemkhkjaaGreatDoor

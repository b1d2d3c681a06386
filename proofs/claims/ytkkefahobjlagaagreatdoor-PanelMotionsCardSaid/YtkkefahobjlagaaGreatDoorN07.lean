/- Lists told apart, a net copied, short lists, the first error: the reference's small functions, walked. Conditions: the slices read as lists. -/
import Derived.Test.YtkkefahobjlagaaGreatDoorN06
import Derived.Maps.RangeRun
import Derived.Test.YtkkefahobjlagaaGreatDoorN02
import Derived.Test.YtkkefahobjlagaaGreatDoorN03
import Derived.Deep.CutRange
namespace Go.Proofs.YtkkefahobjlagaaGreatDoor
open Go.RowKit
set_option maxHeartbeats 2000000
set_option maxRecDepth 100000
theorem same_drop {α : Type} [DecidableEq α] {l r : List α} {k : Nat} (hlen : l.length = r.length) (hk : k < l.length) : decide (l.drop k = r.drop k) = (decide (l[k] = r[k]'(hlen ▸ hk)) && decide (l.drop (k + 1) = r.drop (k + 1))) := by
 rw [List.drop_eq_getElem_cons hk, List.drop_eq_getElem_cons (l := r) (show k < r.length by omega)]
 rw [Bool.eq_iff_iff, Bool.and_eq_true, decide_eq_true_eq, decide_eq_true_eq, decide_eq_true_eq, List.cons.injEq]
theorem sameBars_any {v u : Value} (l r : List Bar) (w : World) (h : SlB w v l) (h' : SlB w u r) : Calls Tryz.prog 21 #[v, u] w (RV w (.bool (decide (l = r)))) := by
 obtain ⟨A, c, rfl, hlc, hcm, h⟩ := h
 obtain ⟨A', c', rfl, hlc', hcm', h'⟩ := h'
 have hl : l.length ≤ maxLen := Nat.le_trans hlc hcm
 have hl' : r.length ≤ maxLen := Nat.le_trans hlc' hcm'
 unfold maxLen at hl hl'
 by_cases hlen : l.length = r.length
 ·have he : (l.length != r.length) = false := by simp [hlen]
  have he2 : ((l.length : Int) != (r.length : Int)) = false := by simp [hlen]
  go_enter Tryz.func21, Tryz.ntmps21
  go_wp2
  go_loopw [5] (fun i wr => ∃ k : Nat, k ≤ l.length ∧ i = .int .i64 k ∧ Hid (decide (l = r) = decide (l.drop k = r.drop k)) ∧ Below w.heap.size w wr) (fun i _ => l.length - (intOf i).toNat)
  case atStart => exact ⟨0, Nat.zero_le _, rfl, by simp [Hid], by (repeat first|exact J0|assumption|(apply J1;assumption)|apply J2|apply J3|apply J4)⟩
  case round =>
   obtain ⟨k, hk, rfl, H, hbw⟩ := hrel
   by_cases hlt : k < l.length
   ·have hr := h.below hbw
    have hr' := h'.below hbw
    obtain ⟨b, off, rfl, hb, e0, e1, e2⟩ := hr.bar hlt
    obtain ⟨b', off', rfl, hb', e0', e1', e2'⟩ := hr'.bar (hlen ▸ hlt)
    have HD := Lib.hid (same_drop hlen hlt)
    have hlt' : k < r.length := hlen ▸ hlt
    obtain ⟨g, hg⟩ : ∃ g, beqB l[k].1 l[k].2.1 l[k].2.2 r[k].1 r[k].2.1 r[k].2.2 = g := ⟨_, rfl⟩
    have hg' : decide (l[k] = r[k]) = g := hg
    cases g
    ·go_wp2
     refine wp_region_ords [0, 1, 2, 3, 4, 5, 6, 7, 8] [] [] (by kernel_rfl) (by kernel_rfl) (fun d _ _ _ _ h => by cases d <;> exact h) ?_
     simp only [List.map_cons, List.map_nil, List.getD_cons_zero, List.getD_cons_succ]
     repeat (go_big_quiet_step (fail))
     refine wpQuiet_nil ?_
     refine wpMid_nil ?_
     go_wp2
     go_ret
     exact ⟨ret_bool (by rw [H.out, HD.out, hg']; rfl), by (repeat first|exact J0|assumption|(apply J1;assumption)|apply J2|apply J3|apply J4)⟩
    ·go_wp2
     refine wp_region_ords [0, 1, 2, 3, 4, 5, 6, 7, 8] [] [] (by kernel_rfl) (by kernel_rfl) (fun d _ _ _ _ h => by cases d <;> exact h) ?_
     simp only [List.map_cons, List.map_nil, List.getD_cons_zero, List.getD_cons_succ]
     repeat (go_big_quiet_step (fail))
     refine wpQuiet_nil ?_
     refine wpMid_nil ?_
     go_wp2
     go_roundw
     case rel => exact ⟨k + 1, by omega, by go_num, by rw [H.out, HD.out, hg']; rfl, by (repeat first|exact J0|assumption|(apply J1;assumption)|apply J2|apply J3|apply J4)⟩
     case measure => simp [intOf]; omega
   ·have hkl : k = l.length := by omega
    go_wp2
    go_ret
    refine ⟨ret_bool ?_, by (repeat first|exact J0|assumption|(apply J1;assumption)|apply J2|apply J3|apply J4)⟩
    rw [H.out, hkl, List.drop_length, hlen, List.drop_length]; rfl
 ·have he2 : ((l.length : Int) != (r.length : Int)) = true := by simp; omega
  have hd : Hid (decide (l = r) = false) := by simp [Hid]; rintro rfl; exact hlen rfl
  go_enter Tryz.func21, Tryz.ntmps21
  go_wp2
  go_ret
  exact ⟨ret_bool hd.out.symm, by (repeat first|exact J0|assumption|(apply J1;assumption)|apply J2|apply J3|apply J4)⟩
theorem sameKnots_any {v u : Value} (l r : List Knot) (w : World) (h : SlK w v l) (h' : SlK w u r) : Calls Tryz.prog 47 #[v, u] w (RV w (.bool (decide (l = r)))) := by
 obtain ⟨A, c, rfl, hlc, hcm, h⟩ := h
 obtain ⟨A', c', rfl, hlc', hcm', h'⟩ := h'
 have hl : l.length ≤ maxLen := Nat.le_trans hlc hcm
 have hl' : r.length ≤ maxLen := Nat.le_trans hlc' hcm'
 unfold maxLen at hl hl'
 by_cases hlen : l.length = r.length
 ·have he2 : ((l.length : Int) != (r.length : Int)) = false := by simp [hlen]
  go_enter Tryz.func47, Tryz.ntmps47
  go_wp2
  go_loopw [5] (fun i wr => ∃ k : Nat, k ≤ l.length ∧ i = .int .i64 k ∧ Hid (decide (l = r) = decide (l.drop k = r.drop k)) ∧ Below w.heap.size w wr) (fun i _ => l.length - (intOf i).toNat)
  case atStart => exact ⟨0, Nat.zero_le _, rfl, by simp [Hid], by (repeat first|exact J0|assumption|(apply J1;assumption)|apply J2|apply J3|apply J4)⟩
  case round =>
   obtain ⟨k, hk, rfl, H, hbw⟩ := hrel
   by_cases hlt : k < l.length
   ·have hr := h.below hbw
    have hr' := h'.below hbw
    obtain ⟨b, off, rfl, hb, e0, e1⟩ := hr.knot hlt
    obtain ⟨b', off', rfl, hb', e0', e1'⟩ := hr'.knot (hlen ▸ hlt)
    have HD := Lib.hid (same_drop hlen hlt)
    have hlt' : k < r.length := hlen ▸ hlt
    obtain ⟨g, hg⟩ : ∃ g, beqK l[k].1 l[k].2 r[k].1 r[k].2 = g := ⟨_, rfl⟩
    have hg' : decide (l[k] = r[k]) = g := hg
    cases g
    ·go_wp2
     refine wp_region_ords [0, 1, 2, 3, 4, 5, 6, 7, 8] [] [] (by kernel_rfl) (by kernel_rfl) (fun d _ _ _ _ h => by cases d <;> exact h) ?_
     simp only [List.map_cons, List.map_nil, List.getD_cons_zero, List.getD_cons_succ]
     repeat (go_big_quiet_step (fail))
     refine wpQuiet_nil ?_
     refine wpMid_nil ?_
     go_wp2
     go_ret
     exact ⟨ret_bool (by rw [H.out, HD.out, hg']; rfl), by (repeat first|exact J0|assumption|(apply J1;assumption)|apply J2|apply J3|apply J4)⟩
    ·go_wp2
     refine wp_region_ords [0, 1, 2, 3, 4, 5, 6, 7, 8] [] [] (by kernel_rfl) (by kernel_rfl) (fun d _ _ _ _ h => by cases d <;> exact h) ?_
     simp only [List.map_cons, List.map_nil, List.getD_cons_zero, List.getD_cons_succ]
     repeat (go_big_quiet_step (fail))
     refine wpQuiet_nil ?_
     refine wpMid_nil ?_
     go_wp2
     go_roundw
     case rel => exact ⟨k + 1, by omega, by go_num, by rw [H.out, HD.out, hg']; rfl, by (repeat first|exact J0|assumption|(apply J1;assumption)|apply J2|apply J3|apply J4)⟩
     case measure => simp [intOf]; omega
   ·have hkl : k = l.length := by omega
    go_wp2
    go_ret
    refine ⟨ret_bool ?_, by (repeat first|exact J0|assumption|(apply J1;assumption)|apply J2|apply J3|apply J4)⟩
    rw [H.out, hkl, List.drop_length, hlen, List.drop_length]; rfl
 ·have he2 : ((l.length : Int) != (r.length : Int)) = true := by simp; omega
  have hd : Hid (decide (l = r) = false) := by simp [Hid]; rintro rfl; exact hlen rfl
  go_enter Tryz.func47, Tryz.ntmps47
  go_wp2
  go_ret
  exact ⟨ret_bool hd.out.symm, by (repeat first|exact J0|assumption|(apply J1;assumption)|apply J2|apply J3|apply J4)⟩
theorem rnet_sl {v : Value} (l : List Bar) (w : World) (h : SlB w v l) : Calls Tryz.prog 17 #[v] w (RV w (.int .i64 (netE l))) := by
 obtain ⟨A, c, rfl, hlc, hcm, h⟩ := h
 exact rnet_any l A c w (Nat.le_trans hlc hcm) h
theorem rfirst_any (l : List Int) (A : Option Addr) (c : Nat) (w : World) (hl : l.length ≤ maxLen) (h : Rd ic 1 w A l) :
  Calls Tryz.prog 54 #[.slice A l.length c] w (RV w (.int .i64 (firstI l))) := by
 unfold maxLen at hl
 go_enter Tryz.func54, Tryz.ntmps54
 go_wp2
 go_loop [3] (fun i => ∃ k : Nat, k ≤ l.length ∧ i = .int .i64 k ∧ Hid (firstI l = firstI (l.drop k))) (fun i => l.length - (intOf i).toNat)
 case atStart => exact ⟨0, Nat.zero_le _, rfl, rfl⟩
 case round =>
  obtain ⟨k, hk, rfl, H⟩ := hrel
  by_cases hlt : k < l.length
  ·obtain ⟨b, off, rfl, hb, hc⟩ := h.int hlt
   have hd := Lib.hid (firstI_drop hlt)
   go_wp2
   ·have hne : (l[k] != 0) = true := by assumption
    go_ret
    refine ⟨ret_int ?_, bl_refl⟩
    rw [H.out, hd.out, if_neg (by simpa using hne)]
   ·have hne : (l[k] != 0) = false := by assumption
    go_round
    case rel => exact ⟨k + 1, by omega, by go_num, by rw [H.out, hd.out, if_pos (by simpa using hne)]; rfl⟩
    case measure => simp [intOf]; omega
  ·have hkl : k = l.length := by omega
   go_wp2
   go_ret
   refine ⟨ret_int ?_, bl_refl⟩
   rw [H.out, hkl, List.drop_length]; rfl
theorem rrange_any (n lo hi : Int) (w : World) : Calls Tryz.prog 55 #[.int .i64 n, .int .i64 lo, .int .i64 hi] w (RV w (.int .i64 (withinI n lo hi))) := by
 go_enter Tryz.func55, Tryz.ntmps55
 go_wp2
 all_goals go_ret
 all_goals refine ⟨ret_int ?_, bl_refl⟩
 all_goals
  simp [withinI, whenI, *]
  try omega
end Go.Proofs.YtkkefahobjlagaaGreatDoor
namespace Go.Proofs.YtkkefahobjlagaaGreatDoor
open Go.RowKit Go.ChangeMaps
set_option maxHeartbeats 2000000
set_option maxRecDepth 100000
section
variable {κ ν : Type} {w w' : World} {r rk : Nat} {m : List (κ × ν × Nat)} {done : List κ} {c : Nat} {ek : κ → Value} {ev : ν → Value} {P : Program}
theorem Own.ne_blk {α : Type} {enc : α → List Value} {sz base : Nat} {e : TypeId} {v : Value} {l : List α} (ho : Own enc sz base e w v l) {g : Nat} {t : TypeId} {cs : Array Value} (hB : Blk w g t cs) (ht : t ≠ e) : some g ≠ v.ownBlock := by
 rcases ho.2 with ⟨rfl, _⟩ | ⟨g', cap, cur, rfl, _, hh, _⟩
 ·simp [Value.ownBlock]
 ·intro he
  have : g = g' := by simpa [Value.ownBlock] using he
  subst this
  unfold Blk at hB
  rw [hh] at hB
  cases hB
  exact ht rfl
theorem Own.chg1 {α : Type} {enc : α → List Value} {sz base : Nat} {e : TypeId} {v : Value} {l : List α} (ho : Own enc sz base e w v l) (hc : Chg [r] w w') (hr : v.ownBlock ≠ some r) : Own enc sz base e w' v l :=
 ho.kept (row := some r) ⟨hc.os, hc.tape, hc.output, hc.size, fun k hk hne => hc.block k hk (by simpa using hne)⟩ (.inr hr)
theorem Own.set {α : Type} {enc : α → List Value} {sz base : Nat} {e : TypeId} {v : Value} {l : List α} (ho : Own enc sz base e w v l) {p : Addr} (hp : v.ownBlock ≠ some p.block) (u : Value) : Own enc sz base e (w.setCell p u) v l :=
 ho.kept (row := some p.block) ⟨rfl, rfl, rfl, by simp [World.setCell], fun k _ hne => Below.heap_setCell w p u k (fun e => hne (by rw [e]))⟩ (.inr hp)
end
end Go.Proofs.YtkkefahobjlagaaGreatDoor
namespace Go.Proofs.YtkkefahobjlagaaGreatDoor
open Go.RowKit Go.ChangeMaps
def BelM (B : Nat) (w : World) (p : World → Prop) : Type := { x : World // Below B w x ∧ p x }
section
variable {B : Nat} {w w' : World} {p : World → Prop}
def BelM.val (g : BelM B w p) : World := g.1
theorem BelM.has (g : BelM B w p) : p g.val := g.2.2
@[go_sem] theorem BelM.cellAt (g : BelM B w p) (b o : Nat) (h : b < B) : g.val.cell? ⟨b, o, none⟩ = w.cell? ⟨b, o, none⟩ := g.2.1.cell (p := ⟨b, o, none⟩) h
@[go_sem] theorem BelM.frozenAt (g : BelM B w p) (b o : Nat) (h : b < B) : g.val.frozen? ⟨b, o, none⟩ = w.frozen? ⟨b, o, none⟩ := g.2.1.frozen (p := ⟨b, o, none⟩) h
theorem BelM.ex (h : Below B w w') (hp : p w') : ∃ g : BelM B w p, w' = g.val := ⟨⟨w', h, hp⟩, rfl⟩
theorem BelM.none_empty (h : Below B w w') (hp : p w') : Nonempty (BelM B w p) := ⟨⟨w', h, hp⟩⟩
end
section
variable {P : Program} {ops : Array Oper} {Q : Exit → Act → World → Prop} {C : World → Prop}
theorem wp_region_ordm {id : Nat} {a : Act} {w : World} {l : List Oper} (B : Nat) (p : World → Prop) (pre : List Nat) (mid : List (Nat × Bool)) (post : List Nat) (hm : P.follows .mixedOrders = true) (hB : ordB .any l.toArray pre mid post = true)
  (hQ : ∀ d c a v w, Q (.panic c) (Act.put a d v) w → Q (.panic c) a w) (hp : p w.drew)
  (h : wpQuiet P l.toArray (fun w' => ∃ g : BelM B w p, w' = g.val) (fun a' => wpMid P l.toArray Q (fun w' => ∃ g : BelM B w p, w' = g.val) (post.map fun i => l.getD i default) (mid.map fun i => (l.getD i.1 default, i.2)) a' w.drew) (pre.map fun i => l.getD i default) a) :
  (Code.region id l.toArray true).wp P Q a w := by
 simp only [ordB, Bool.and_eq_true, decide_eq_true_eq] at hB
 obtain ⟨⟨hs, hn⟩, hB'⟩ := hB
 refine wp_region_any hm (wpAny_of_G (C := fun w' => ∃ g : BelM B w p, w' = g.val) (kp := fun j => !post.contains j) _ _ _ _ ?_)
 rw [hn, Nat.add_assoc]
 refine wpAnyG_pre hs hQ (BelM.ex (Below.refl B w).drew hp) pre _ a (Closed.start _) (by simpa [hn, Nat.add_assoc] using hB') ?_
 have e : ∀ (xs : List Nat), (xs.map fun i => l.toArray.getD i default) = xs.map fun i => l.getD i default := fun xs => List.map_congr_left fun i _ => by simp [Array.getD_eq_getD_getElem?, List.getD_eq_getElem?_getD]
 have e2 : (mid.map fun i => (l.toArray.getD i.1 default, i.2)) = mid.map fun i => (l.getD i.1 default, i.2) := List.map_congr_left fun i _ => by simp [Array.getD_eq_getD_getElem?, List.getD_eq_getElem?_getD]
 rw [e, e, e2]
 exact h
unseal wpMid in
theorem wpMid_runm {B : Nat} {p : World → Prop} {w0 : World} {post : List Oper} {o : Oper} {r : List (Oper × Bool)} {a : Act} {w : World} (hw : Region.wanted o (yielded ops a.tmps) = true)
  (h : ∀ K : Act → World → Prop, (∀ a w', Below B w0 w' → p w' → wpMid P ops Q (fun w' => ∃ g : BelM B w0 p, w' = g.val) post r a w' → K a w') → o.wp P a w K Q) :
  wpMid P ops Q (fun w' => ∃ g : BelM B w0 p, w' = g.val) post ((o, false) :: r) a w := by
 have := h (fun a w' => (∃ g : BelM B w0 p, w' = g.val) ∧ wpMid P ops Q (fun w' => ∃ g : BelM B w0 p, w' = g.val) post r a w') (fun a w h1 h2 h3 => ⟨BelM.ex h1 h2, h3⟩)
 simp only [wpMid, Bool.false_eq_true, if_false, hw, if_true]
 exact this
end
section
variable {κ : Type} [DecidableEq κ]
variable {ek : κ → Value} {w : World} {r : Nat} {m : List (κ × Nat × Nat)} {c : Nat} {P : Program} {k e t : TypeId}
def cntV (n : Nat) : Value := .int .i64 (n : Int)
end
end Go.Proofs.YtkkefahobjlagaaGreatDoor
namespace Go.Proofs.YtkkefahobjlagaaGreatDoor
open Go.RowKit Go.ChangeMaps
set_option maxHeartbeats 4000000
set_option maxRecDepth 100000
section
variable {α : Type} {enc : α → List Value} {sz bytes : Nat} {P : Program} {t e : TypeId} {w : World}
theorem op_app {o : Oper} {a : Act} {K : Act → World → Prop} {Q : Exit → Act → World → Prop} (E : Elem P t e sz bytes) (henc : ∀ x, (enc x).length = sz) (hone : ∀ x, ∀ u ∈ enc x, u.oneCell' = true) (s x : Operand)
  (ho : o.op = .call { callee := .builtin .append, args := #[s, x], argTypes := #[t, t] }) (base : Nat) (v u : Value) (l r : List α) (hs : a.eval s = v) (hx : a.eval x = u) (hown : Own enc sz base e w v l) (hu : Sl enc sz w u r)
  (h63 : l.length + r.length ≤ maxLen) (hb : (l.length + r.length) * bytes ≤ 140737488355328) (hbase : base ≤ w.heap.size)
  (h : ∀ v' w', Own enc sz base e w' v' (l ++ r) → w.grownBy w' v.ownBlock → K (a.put o.dst v') w') : o.wp P a w K Q := by
 obtain ⟨v', w', hr, h2, h3⟩ := run_app E henc hone base o.type v u l r hown hu h63 hb hbase
 unfold Oper.wp
 simp [execOp, ho, resolve, invoke, builtin, hs, hx, hr, Result.andThen]
 exact h v' w' h2 h3
end
section
variable {α : Type} {enc : α → List Value} {sz n c : Nat} {w : World} {A : Option Addr} {l : List α}
theorem sl_post (h : Rd enc sz w A l) (hlc : l.length ≤ c) {k : Nat} (hk : k ≤ l.length) (hc : c ≤ maxLen) : Sl enc sz w (.slice (if c = k then A else Option.map (fun x => x.add (k * sz)) A) (l.length - k) (c - k)) (l.drop k) := by
 refine ⟨_, _, by rw [List.length_drop], by rw [List.length_drop]; omega, by omega, fun i x hx => ?_⟩
 rw [List.getElem?_drop] at hx
 have hlt := (List.getElem?_eq_some_iff.1 hx).1
 obtain ⟨b, off, rfl, hb, hc2⟩ := h (k + i) x hx
 rw [if_neg (by omega)]
 refine ⟨b, off + k * sz, ?_, hb, fun j u hu => ?_⟩
 ·simp only [Option.map_some, Addr.add]
  split
  ·rename_i h0; rw [h0, Nat.add_zero]
  ·rfl
 ·have := hc2 j u hu
  rwa [show off + (k + i) * sz + j = off + k * sz + i * sz + j by rw [Nat.add_mul]; omega] at this
end
section
variable {ops : Array Oper} {rest : List Oper} {o : Oper} {a : Act} {Q : Exit → Act → World → Prop} {base : Nat} {W : World} {v : Value} {X Y S : Int}
theorem wpList_appB1 {l : List Bar} (hown : OwB base W v l) {g : Nat} (hgd : o.guard = none) (s x : Operand) (ho : o.op = .call { callee := .builtin .append, args := #[s, x], argTypes := #[36, 36] })
    (hs : a.eval s = v) (hx : a.eval x = .slice (some ⟨g, 0, none⟩) 1 1) (hg : W.heap.size = g) (hlen : l.length ≤ 1000000) (hbase : base ≤ W.heap.size)
    (h : ∀ v' w', OwB base w' v' (l ++ [(X, Y, S)]) → (W.alloc (.cells #[.int .i64 X, .int .i64 Y, .int .i64 S] 77)).grownBy w' v.ownBlock → wpList Tryz.prog ops Q rest (a.put o.dst v') w') :
    wpList Tryz.prog ops Q (o :: rest) a (W.alloc (.cells #[.int .i64 X, .int .i64 Y, .int .i64 S] 77)) := by
  subst hg
  exact wpList_appB hown hgd s x ho hs hx hlen hbase h
end
theorem insK_len (k : Knot) : ∀ l : List Knot, (insK l k).length ≤ l.length + 1
 | [] => by simp [insK]
 | x :: r => by
  unfold insK
  have := insK_len k r
  split
  ·simp only [List.length_cons]; omega
  ·split <;> simp
theorem flat_set2 (x y : Int) : ∀ (l : List Knot) (i : Nat), i < l.length → ((l.flatMap kc).set (i * 2) (.int .i64 x)).set (i * 2 + 1) (.int .i64 y) = (l.set i (x, y)).flatMap kc
 | [], i, h => by simp at h
 | b :: r, 0, _ => by simp [kc]
 | b :: r, i + 1, h => by
  have ih := flat_set2 x y r i (by simpa using h)
  have e0 : (i + 1) * 2 = i * 2 + 2 := by omega
  have e1 : (i + 1) * 2 + 1 = i * 2 + 1 + 2 := by omega
  rw [e1, e0, List.flatMap_cons, List.set_cons_succ, List.flatMap_cons, ← ih]
  simp only [kc, List.cons_append, List.nil_append, List.set_cons_succ]
theorem flatK_take : ∀ (l : List Knot) (k : Nat), (l.flatMap kc).take (k * 2) = (l.take k).flatMap kc
 | _, 0 => by simp
 | [], k + 1 => by simp
 | b :: r, k + 1 => by
  have ih := flatK_take r k
  rw [show (k + 1) * 2 = k * 2 + 1 + 1 by omega, List.flatMap_cons, List.take_succ_cons, List.flatMap_cons, ← ih]
  simp [kc]
section
variable {P : Program} {w : World} {base g cap : Nat} {l : List Knot}
theorem ownK_set {e : TypeId} (h : Own kc 2 base e w (.slice (some ⟨g, 0, none⟩) l.length cap) l) {i : Nat} (hi : i < l.length) (x y : Int) :
  Own kc 2 base e (w.setCells g (i * 2) [.int .i64 x, .int .i64 y]) (.slice (some ⟨g, 0, none⟩) l.length cap) (l.set i (x, y)) ∧ w.grownBy (w.setCells g (i * 2) [.int .i64 x, .int .i64 y]) (some g) := by
 obtain ⟨h1, g1⟩ := World.ownsRow.stored h (i * 2) (.int .i64 x)
 obtain ⟨h2, g2⟩ := World.ownsRow.stored h1 (i * 2 + 1) (.int .i64 y)
 rw [flat_set2 x y l i hi] at h2
 refine ⟨?_, g1.trans g2⟩
 unfold Own
 rw [List.length_set]
 exact h2
theorem ownK_there {e : TypeId} (h : Own kc 2 base e w (.slice (some ⟨g, 0, none⟩) l.length cap) l) {i : Nat} (hi : i < l.length) : w.there g (i * 2) 2 := by
 obtain ⟨hl, hc⟩ := h
 rcases hc with ⟨hv, _⟩ | ⟨g', cap', cur, hv, hg, hh, hnc, hcm, hcs, htk⟩
 ·cases hv
 ·obtain ⟨rfl, rfl⟩ : g = g' ∧ cap = cap' := by simpa using hv
  intro j hj
  refine ⟨?_, by simp [World.frozen?, hh]⟩
  have : i * 2 + j < cur.size := by rw [hcs]; omega
  simp [World.cell?, hh, this]
end
theorem wpList_store_ownK {ops : Array Oper} {rest : List Oper} {op : Oper} {a : Act} {Q : Exit → Act → World → Prop} {w : World} {base g cap n : Nat} {l : List Knot} (h : OwK base w (.slice (some ⟨g, 0, none⟩) n cap) l) (hn : l.length = n) {i : Nat} (hi : i < n) (hgd : op.guard = none) (x y : Operand) (ho : op.op = .store 40 x y)
  {p q : Int} (hx : a.eval x = .pointer (some ⟨g, i * 2, none⟩)) (hy : a.eval y = .agg #[.int .i64 p, .int .i64 q])
  (hK : ∀ W', OwK base W' (.slice (some ⟨g, 0, none⟩) n cap) (l.set i (p, q)) → w.grownBy W' (some g) → wpList Tryz.prog ops Q rest (a.put op.dst undef) W') : wpList Tryz.prog ops Q (op :: rest) a w := by
 subst hn
 refine wpList_plain hgd fun K hK' => ?_
 obtain ⟨h1, h2⟩ := ownK_set h hi p q
 have hr := run_storeVar_mid (P := Tryz.prog) w g (i * 2) 40 #[.int .i64 p, .int .i64 q] (ownK_there h hi) (by kernel_rfl) (by kernel_rfl)
 unfold Oper.wp execOp
 simp only [ho, hx, hy, Instr.storeAt, Instr.sureAddr, Sem.run_bind, Sem.run_pure, Result.andThen_ok, hr]
 exact hK' _ _ (hK _ h1 h2)
theorem run_clrK {w : World} {base g cap n : Nat} {l : List Knot} (h : OwK base w (.slice (some ⟨g, 0, none⟩) n cap) l) (hn : l.length = n) (k m c : Nat) (hk : k + m = n) (hm : 0 < m) (ty : TypeId) :
  ∃ W', (Builtin.clear_ #[93] ty #[.slice (some ⟨g, k * 2, none⟩) m c]).run Tryz.prog w = .ok (.tuple #[]) W' ∧ w.grownBy W' (some g) ∧ OwK base W' (.slice (some ⟨g, 0, none⟩) k cap) (l.take k) := by
 subst hn
 obtain ⟨hl, hc⟩ := h
 rcases hc with ⟨hv, _⟩ | ⟨g', cap', cur, hv, hg, hh, hnc, hcm, hcs, htk⟩
 ·cases hv
 ·obtain ⟨rfl, rfl⟩ : g = g' ∧ cap = cap' := by simpa using hv
  have hz : (zeroValue 40).run Tryz.prog w = .ok (.agg #[.int .i64 0, .int .i64 0]) w := by kernel_rfl
  have hsz : (Builtin.zeroCells (Value.agg #[.int .i64 0, .int .i64 0]).cells m).toList.length = m * 2 := by simp [Builtin.zeroCells, Value.cells]
  have h1 : ∀ v ∈ (Builtin.zeroCells (Value.agg #[.int .i64 0, .int .i64 0]).cells m).toList, v.oneCell' = true := by
   intro v hv
   simp only [Builtin.zeroCells, Value.cells, Array.toList_map, List.mem_map] at hv
   obtain ⟨i, _, rfl⟩ := hv
   have : i % 2 < 2 := Nat.mod_lt _ (by decide)
   show (#[Value.int .i64 0, Value.int .i64 0][i % 2]!).oneCell' = true
   match i % 2, this with
   | 0, _ => rfl
   | 1, _ => rfl
  obtain ⟨m, rfl⟩ : ∃ m', m = m' + 1 := ⟨m - 1, by omega⟩
  obtain ⟨zs, hzs⟩ : ∃ zs, (Builtin.zeroCells (Value.agg #[.int .i64 0, .int .i64 0]).cells (m + 1)).toList = zs := ⟨_, rfl⟩
  rw [hzs] at hsz h1
  obtain ⟨cs, hce, hst⟩ : ∃ cs, cs = (cur.toList.take (k * 2 + 0) ++ zs ++ cur.toList.drop (k * 2 + 0 + zs.length)).toArray ∧ (storeCells ⟨g, k * 2, none⟩ zs 0).run Tryz.prog w = .ok () (w.setRow g cs) :=
   ⟨_, rfl, run_storeCells_at Tryz.prog g (k * 2) 40 _ 0 cur w hh (by rw [hsz, hcs]; omega) h1⟩
  refine ⟨w.setRow g cs, ?_, ⟨rfl, rfl, rfl, by simp [World.setRow], fun k hk hne => setRow_other w g k _ (fun e => hne (by simp [e]))⟩, ?_⟩
  ·unfold Builtin.clear_
   simp [run_underlying knot_elem.und, hz, hzs, hst]
  ·have hfl : (l.flatMap kc).length = l.length * 2 := flat_len kc_len l
   have htk2 : cs.toList.take (k * 2) = (l.take k).flatMap kc := by
    rw [hce, ← flatK_take]
    rw [← htk, List.take_take, Nat.min_eq_left (by omega)]
    simp only [Nat.add_zero]
    rw [List.append_assoc, List.take_append_of_le_length (by rw [List.length_take]; simp; rw [hcs]; omega), List.take_take, Nat.min_self]
   have hsz2 : cs.size = cap * 2 := by
    rw [hce]
    simp only [Nat.add_zero, List.size_toArray, List.length_append, List.length_take, List.length_drop, hsz, Array.length_toList, hcs]
    omega
   have hll : (l.take k).length = k := by rw [List.length_take]; omega
   unfold OwK Own
   rw [hll]
   refine ⟨by rw [flat_len kc_len, hll], .inr ⟨g, cap, cs, rfl, hg, setRow_heap w g cur _ _ _ hh, by omega, hcm, hsz2, htk2⟩⟩
def ddFrom {α : Type} [DecidableEq α] (p : α) : List α → List α
 | [] => []
 | x :: r => if x = p then ddFrom p r else x :: ddFrom x r
def ddL {α : Type} [DecidableEq α] : List α → List α
 | [] => []
 | x :: r => x :: ddFrom x r
section
variable {α : Type} [DecidableEq α]
theorem ddFrom_snoc (x : α) : ∀ (r : List α) (p : α), ddFrom p (r ++ [x]) = ddFrom p r ++ if x = r.getLastD p then [] else [x]
 | [], p => by by_cases h : x = p <;> simp [ddFrom, h]
 | y :: r, p => by
  by_cases h : y = p
  ·subst h
   have := ddFrom_snoc x r y
   simp only [List.cons_append, ddFrom, if_true]
   rw [this]
   cases r <;> rfl
  ·have := ddFrom_snoc x r y
   simp only [List.cons_append, ddFrom, if_neg h]
   rw [this]
   cases r <;> rfl
theorem dd_take {l : List α} {m : Nat} (h : m + 1 < l.length) : ddL (l.take (m + 2)) = ddL (l.take (m + 1)) ++ if l[m + 1] = l[m] then [] else [l[m + 1]] := by
 rw [List.take_succ_eq_append_getElem h]
 cases l with
 | nil => simp at h
 | cons y r =>
  simp only [List.take_succ_cons, List.cons_append, ddL]
  rw [ddFrom_snoc]
  congr 2
  have : (r.take m).getLastD y = (y :: r)[m]'(by simp at h ⊢; omega) := by
   cases m with
   | zero => rfl
   | succ m =>
    have h' : m < r.length := by simp at h; omega
    rw [List.getLastD_eq_getLast?, List.getLast?_take]
    simp [h']
  rw [this]
theorem ddFrom_mem (x : α) : ∀ (r : List α) (p : α), x ∈ ddFrom p r → x ∈ r
 | [], p, h => by simp [ddFrom] at h
 | y :: r, p, h => by
  unfold ddFrom at h
  split at h
  ·exact List.mem_cons_of_mem _ (ddFrom_mem x r p h)
  ·rcases List.mem_cons.1 h with rfl | h
   ·simp
   ·exact List.mem_cons_of_mem _ (ddFrom_mem x r y h)
theorem mem_ddFrom (x : α) : ∀ (r : List α) (p : α), x ∈ r → x = p ∨ x ∈ ddFrom p r
 | [], p, h => by simp at h
 | y :: r, p, h => by
  unfold ddFrom
  rcases List.mem_cons.1 h with rfl | h
  ·by_cases hp : x = p
   ·exact .inl hp
   ·rw [if_neg hp]; exact .inr (by simp)
  ·by_cases hp : y = p
   ·rw [if_pos hp]; exact mem_ddFrom x r p h
   ·rw [if_neg hp]
    rcases mem_ddFrom x r y h with h | h
    ·exact .inr (by simp [h])
    ·exact .inr (by simp [h])
theorem dd_mem (x : α) (l : List α) : x ∈ ddL l ↔ x ∈ l := by
 cases l with
 | nil => simp [ddL]
 | cons y r =>
  simp only [ddL, List.mem_cons]
  constructor
  ·rintro (h | h)
   ·exact .inl h
   ·exact .inr (ddFrom_mem x r y h)
  ·rintro (h | h)
   ·exact .inl h
   ·exact mem_ddFrom x r y h
theorem dd_sorted_from {R : α → α → Prop} : ∀ (r : List α) (p : α), (p :: r).Pairwise (fun a b => a = b ∨ R a b) → (∀ a b c, R a b → R b c → R a c) → (ddFrom p r).Pairwise R ∧ ∀ x ∈ ddFrom p r, R p x
 | [], p, _, _ => by simp [ddFrom]
 | y :: r, p, h, tr => by
  obtain ⟨h1, h2⟩ := List.pairwise_cons.1 h
  unfold ddFrom
  by_cases hp : y = p
  ·rw [if_pos hp]
   subst hp
   exact dd_sorted_from r y h2 tr
  ·rw [if_neg hp]
   obtain ⟨i1, i2⟩ := dd_sorted_from r y h2 tr
   have hpy : R p y := by
    rcases h1 y (by simp) with h3 | h3
    ·exact absurd h3.symm hp
    ·exact h3
   refine ⟨List.pairwise_cons.2 ⟨i2, i1⟩, fun x hx => ?_⟩
   rcases List.mem_cons.1 hx with rfl | hx
   ·exact hpy
   ·exact tr _ _ _ hpy (i2 x hx)
theorem dd_sorted {R : α → α → Prop} (tr : ∀ a b c, R a b → R b c → R a c) {l : List α} (h : l.Pairwise (fun a b => a = b ∨ R a b)) : (ddL l).Pairwise R := by
 cases l with
 | nil => simp [ddL]
 | cons y r =>
  obtain ⟨i1, i2⟩ := dd_sorted_from r y h tr
  exact List.pairwise_cons.2 ⟨i2, i1⟩
end
theorem gb_of {w W : World} {row : Option Nat} (h : Below w.heap.size w W) : w.grownBy W row := ⟨h.os, h.tape, h.output, h.size, fun k hk _ => h.block k hk⟩
theorem ownK_cells {w : World} {base g cap n : Nat} {l : List Knot} (h : OwK base w (.slice (some ⟨g, 0, none⟩) n cap) l) {k : Nat} (hk : k < l.length) (_ : l.length = n) : g < w.heap.size ∧
  w.cell? ⟨g, k * 2, none⟩ = some (.int .i64 l[k].1) ∧ w.cell? ⟨g, k * 2 + 1, none⟩ = some (.int .i64 l[k].2) := by
 obtain ⟨A, c, he, _, _, hr⟩ := h.rd kc_len
 obtain rfl := (Value.slice.inj he).1
 obtain ⟨h0, h1, h2⟩ := hr.knotAt hk
 exact ⟨h0, by simpa using h1, by simpa using h2⟩
theorem keq_any (x y x' y' : Int) (w : World) : Calls Tryz.prog 149 #[.agg #[.int .i64 x, .int .i64 y], .agg #[.int .i64 x', .int .i64 y']] w (RV w (.bool (beqK x y x' y'))) := by
 have hB1 := (Blk.new w 40 #[.int .i64 x, .int .i64 y]).alloc (.cells #[.int .i64 x', .int .i64 y'] 40)
 have hB2 := Blk.new1 w (.cells #[.int .i64 x, .int .i64 y] 40) 40 #[.int .i64 x', .int .i64 y']
 have f1 := hB1.facts
 have f2 := hB2.facts
 obtain ⟨q, hq⟩ : ∃ q, beqK x y x' y' = q := ⟨_, rfl⟩
 rw [hq]
 cases q
 all_goals
  go_enter Tryz.func149, Tryz.ntmps149
  go_wp2
  go_ret
  exact ⟨rfl, by (repeat first|exact J0|assumption|(apply J1;assumption)|apply J2|apply J3|apply J4)⟩
theorem compactK_any {v : Value} {base : Nat} (l : List Knot) (w : World) (h : OwK base w v l) (hlen : l.length ≤ 100000) :
    Calls Tryz.prog 148 #[v, .func (.func 149) #[] #[]] w fun e w' => ∃ v', e = .returned v' ∧ OwK base w' v' (ddL l) ∧ w.grownBy w' v.ownBlock := by
  by_cases hsm : l.length < 2
  · have hd : Hid (ddL l = l) := by
      unfold Hid
      match l, hsm with
      | [], _ => rfl
      | [a], _ => rfl
    have hs2 : ((l.length : Int) < 2) = True := by simp; omega
    obtain ⟨A, c, rfl⟩ := h.shape
    have HS := Lib.hid hsm
    clear hsm
    go_enter Tryz.func148, Tryz.ntmps148
    go_wp2
    go_ret
    exact ⟨_, rfl, by rw [hd.out]; exact h, World.grownBy.refl _ _⟩
  · obtain ⟨g, cap, cur, rfl, hgb, hnc, hgl0⟩ : ∃ g cap cur, v = .slice (some ⟨g, 0, none⟩) l.length cap ∧ w.heap[g]? = some (.cells cur 40 (0, 0)) ∧ l.length ≤ cap ∧ base ≤ g := by
      rcases h.2 with ⟨_, hn⟩ | ⟨g, cap, cur, rfl, hg, hh, hnc, _⟩
      · omega
      · exact ⟨g, cap, cur, rfl, hh, hnc, hg⟩
    have hs2 : ((l.length : Int) < 2) = False := by simp; omega
    obtain ⟨n, hn⟩ : ∃ n, l.length = n := ⟨_, rfl⟩
    have h2n : 2 ≤ n := by omega
    rw [hn] at h hlen hs2 hnc ⊢
    have hgl : g < w.heap.size := (Array.getElem?_eq_some_iff.1 hgb).1
    have HD0 : Hid (ddL (l.take 1) = l.take 1) := by
      unfold Hid
      match l, hn with
      | [], _ => rfl
      | a :: r, _ => simp [ddL, ddFrom]
    clear hgb hsm
    go_enter Tryz.func148, Tryz.ntmps148
    go_wp2
    go_loopw [5] (fun i wr => ∃ k : Nat, k + 1 ≤ n ∧ i = .int .i64 ((k : Int) + 1) ∧ Hid (ddL (l.take (k + 1)) = l.take (k + 1)) ∧ Below w.heap.size w wr) (fun i _ => n - (intOf i).toNat)
    case atStart => exact ⟨0, by omega, rfl, HD0, bl_refl⟩
    case round =>
      obtain ⟨k, hk, rfl, H, hbw⟩ := hrel
      obtain ⟨wo, rfl⟩ : ∃ x, x = wr := ⟨_, rfl⟩
      by_cases hlt : k + 1 < n
      · have how := h.below hbw
        have hk1 : k < l.length := by omega
        have hck : ¬ cap = k + 1 := by omega
        have hkt : ((k : Int) + 1 < (n : Int)) = True := by simp; omega
        have hk2 : k + 1 < l.length := by omega
        obtain ⟨c0, c1, c2⟩ := ownK_cells how hk1 hn
        obtain ⟨_, d1, d2⟩ := ownK_cells how hk2 hn
        have HD := Lib.hid (dd_take hk2)
        obtain ⟨⟨x1, y1⟩, e1⟩ : ∃ z, l[k] = z := ⟨_, rfl⟩
        obtain ⟨⟨x2, y2⟩, e2⟩ : ∃ z, l[k + 1] = z := ⟨_, rfl⟩
        have HE2 := Lib.hid e2
        rw [e1] at c1 c2 HD
        rw [e2] at d1 d2 HD
        clear e1 e2
        obtain ⟨q, hq⟩ : ∃ q, beqK x2 y2 x1 y1 = q := ⟨_, rfl⟩
        have he := fun W => keq_any x2 y2 x1 y1 W
        rw [hq] at he
        cases q
        · have hne : Hid (ddL (l.take (k + 1 + 1)) = l.take (k + 1 + 1)) := by
            unfold Hid
            have : l.take (k + 1 + 1) = l.take (k + 1) ++ [(x2, y2)] := by rw [List.take_succ_eq_append_getElem hk2, HE2.out]
            rw [this, ← this]
            have h3 := HD.out
            rw [if_neg (fun e => by rw [beqK_true.2 e] at hq; cases hq), H.out] at h3
            rw [show k + 1 + 1 = k + 2 from rfl, h3, ← this]
          clear HD hq
          go_wp2
          refine wp_region_ords [0, 1, 2, 3, 4, 5, 6, 7, 8, 9] [] [10] (by kernel_rfl) (by kernel_rfl) (fun d _ _ _ _ h => by cases d <;> exact h) ?_
          simp only [List.map_cons, List.map_nil, List.getD_cons_zero, List.getD_cons_succ]
          repeat (go_big_quiet_step (fail))
          refine wpQuiet_nil ?_
          refine wpMid_nil ?_
          go_wp2_with (go_at_call 149; refine (he _).mono ?_; rintro e w4 ⟨rfl, hb4⟩)
          go_roundw
          case rel => exact ⟨k + 1, by omega, by go_num, hne, by (repeat first|exact J0|assumption|(apply J1;assumption)|apply J2|apply J3|apply J4)⟩
          case measure => simp [intOf]; omega
        · have HT : Hid (ddL (l.take (k + 2)) = l.take (k + 1)) := by
            unfold Hid
            rw [HD.out, if_pos (beqK_true.1 hq), List.append_nil, H.out]
          clear HD hq
          go_wp2
          refine wp_region_ords [0, 1, 2, 3, 4, 5, 6, 7, 8, 9] [] [10] (by kernel_rfl) (by kernel_rfl) (fun d _ _ _ _ h => by cases d <;> exact h) ?_
          simp only [List.map_cons, List.map_nil, List.getD_cons_zero, List.getD_cons_succ]
          repeat (go_big_quiet_step (fail))
          refine wpQuiet_nil ?_
          refine wpMid_nil ?_
          go_wp2_with (go_at_call 149; refine (he _).mono ?_; rintro e w4 ⟨rfl, hb4⟩)
          have hbw4 : Below w.heap.size w w4 := by (repeat first|exact J0|assumption|(apply J1;assumption)|apply J2|apply J3|apply J4)
          have how4 := h.below hbw4
          clear how hb4 he
          go_loopw [5, 7] (fun i j wq => ∃ (a b : Nat) (l' : List Knot), k + b + 2 ≤ n ∧ a ≤ k + b + 1 ∧ i = .int .i64 a ∧ j = .int .i64 ((b : Int) + 1) ∧ Hid (l'.length = n) ∧ Hid (l'.take a = ddL (l.take (k + b + 2)) ∧ ∀ t, k + b + 1 ≤ t → l'[t]? = l[t]?) ∧ OwK base wq (.slice (some ⟨g, 0, none⟩) n cap) l' ∧ w.grownBy wq (some g)) (fun _ j _ => n - (intOf j).toNat)
          case atStart => exact ⟨k + 1, 0, l, by omega, by omega, by simp, rfl, hn, ⟨HT.out.symm, fun _ _ => rfl⟩, how4, gb_of hbw4⟩
          case round =>
            obtain ⟨a, b, l', hb2, ha, rfl, rfl, HL, HV, ho', hg'⟩ := hrel
            obtain ⟨wp, rfl⟩ : ∃ x, x = wr := ⟨_, rfl⟩
            have hgs := ho'.lt g (by simp [Value.ownBlock])
            by_cases hlt2 : k + b + 2 < n
            · have hc1 : ((b : Int) + 1 < ((n - (k + 1) : Nat) : Int)) = True := by simp; omega
              have hi1 : k + b + 1 < l'.length := by rw [HL.out]; omega
              have hi2 : k + b + 2 < l'.length := by rw [HL.out]; omega
              have hj1 : k + b + 1 < l.length := by omega
              have hj2 : k + b + 2 < l.length := by omega
              obtain ⟨c0, c1, c2⟩ := ownK_cells ho' hi1 HL.out
              obtain ⟨_, d1, d2⟩ := ownK_cells ho' hi2 HL.out
              rw [show (k + b + 1) * 2 = (k + 1) * 2 + b * 2 by omega] at c1 c2
              rw [show (k + b + 2) * 2 = (k + 1) * 2 + (b + 1) * 2 by omega] at d1 d2
              have hDD := dd_take (l := l) (m := k + b + 1) hj2
              have g1 : l'[k + b + 1] = l[k + b + 1] := by
                have := HV.out.2 (k + b + 1) (Nat.le_refl _)
                rw [List.getElem?_eq_getElem hi1, List.getElem?_eq_getElem hj1] at this
                exact Option.some.inj this
              have g2 : l'[k + b + 2] = l[k + b + 2] := by
                have := HV.out.2 (k + b + 2) (by omega)
                rw [List.getElem?_eq_getElem hi2, List.getElem?_eq_getElem hj2] at this
                exact Option.some.inj this
              obtain ⟨⟨x1, y1⟩, e1⟩ : ∃ z, l[k + b + 1] = z := ⟨_, rfl⟩
              obtain ⟨⟨x2, y2⟩, e2⟩ : ∃ z, l[k + b + 2] = z := ⟨_, rfl⟩
              rw [g1, e1] at c1 c2
              rw [g2, e2] at d1 d2
              have e2' : l[k + b + 1 + 1] = (x2, y2) := e2
              rw [e1, e2'] at hDD
              have HDD := Lib.hid hDD
              have HG2 := Lib.hid (g2.trans e2)
              clear e1 e2 e2' g1 g2 hDD
              obtain ⟨q, hq⟩ : ∃ q, beqK x2 y2 x1 y1 = q := ⟨_, rfl⟩
              have han : a < n := by omega
              have he2 := fun W => keq_any x2 y2 x1 y1 W
              rw [hq] at he2
              cases q
              · have hset : Hid ((l'.set a (x2, y2)).take (a + 1) = ddL (l.take (k + (b + 1) + 2)) ∧ ∀ t, k + (b + 1) + 1 ≤ t → (l'.set a (x2, y2))[t]? = l[t]?) := by
                  refine ⟨?_, fun t ht => ?_⟩
                  · have hal : a < (l'.set a (x2, y2)).length := by rw [List.length_set, HL.out]; omega
                    rw [List.take_succ_eq_append_getElem hal, List.getElem_set_self, List.take_set_of_le (Nat.le_refl _), HV.out.1, show k + (b + 1) + 2 = k + b + 1 + 2 by omega, HDD.out, if_neg (fun e => by rw [beqK_true.2 e] at hq; cases hq)]
                  · rw [List.getElem?_set_ne (by omega)]
                    exact HV.out.2 t (by omega)
                clear hq HDD
                go_wp2
                refine wp_region_ords [0, 1, 2, 3, 4, 5, 6, 7, 8, 9] [] [10, 11] (by kernel_rfl) (by kernel_rfl) (fun d _ _ _ _ h => by cases d <;> exact h) ?_
                simp only [List.map_cons, List.map_nil, List.getD_cons_zero, List.getD_cons_succ]
                repeat (go_big_quiet_step (fail))
                refine wpQuiet_nil ?_
                refine wpMid_nil ?_
                go_wp2_with fail
                refine (he2 _).mono ?_
                rintro e w6 ⟨rfl, hb6⟩
                have hb6' : Below wp.heap.size wp w6 := by (repeat first|exact J0|assumption|(apply J1;assumption)|apply J2|apply J3|apply J4)
                have ho6 := ho'.below hb6'
                obtain ⟨_, f1, f2⟩ := ownK_cells ho6 hi2 HL.out
                rw [show (k + b + 2) * 2 = (k + 1) * 2 + (b + 1) * 2 by omega, HG2.out] at f1 f2
                simp only at f1 f2
                have hg6 := hg'.trans (gb_of hb6')
                clear c1 c2 d1 d2
                go_wp2_with (refine wpList_store_ownK ho6 HL.out han rfl _ _ rfl rfl rfl ?_; intro w7 hown7 hgr7)
                go_roundw
                case rel => exact ⟨a + 1, b + 1, _, by omega, by omega, by go_num, by go_num, by unfold Hid; rw [List.length_set]; exact HL.out, hset, hown7, hg6.trans hgr7⟩
                case measure => simp [intOf]; omega
              · have hset : Hid (l'.take a = ddL (l.take (k + (b + 1) + 2)) ∧ ∀ t, k + (b + 1) + 1 ≤ t → l'[t]? = l[t]?) := by
                  refine ⟨?_, fun t ht => HV.out.2 t (by omega)⟩
                  rw [HV.out.1, show k + (b + 1) + 2 = k + b + 1 + 2 by omega, HDD.out, if_pos (beqK_true.1 hq), List.append_nil]
                clear hq HDD
                go_wp2
                refine wp_region_ords [0, 1, 2, 3, 4, 5, 6, 7, 8, 9] [] [10, 11] (by kernel_rfl) (by kernel_rfl) (fun d _ _ _ _ h => by cases d <;> exact h) ?_
                simp only [List.map_cons, List.map_nil, List.getD_cons_zero, List.getD_cons_succ]
                repeat (go_big_quiet_step (fail))
                refine wpQuiet_nil ?_
                refine wpMid_nil ?_
                go_wp2_with (go_at_call 149; refine (he2 _).mono ?_; rintro e w6 ⟨rfl, hb6⟩)
                have hb6' : Below wp.heap.size wp w6 := by (repeat first|exact J0|assumption|(apply J1;assumption)|apply J2|apply J3|apply J4)
                go_roundw
                case rel => exact ⟨a, b + 1, l', by omega, by omega, rfl, by go_num, HL, hset, ho'.below hb6', hg'.trans (gb_of hb6')⟩
                case measure => simp [intOf]; omega
            · have hbn : k + b + 2 = n := by omega
              have hc1 : ((b : Int) + 1 < ((n - (k + 1) : Nat) : Int)) = False := by simp; omega
              have han : a ≤ n := by omega
              have hac : ¬ cap = a := by omega
              have HR : Hid (l'.take a = ddL l) := by
                unfold Hid
                rw [HV.out.1, List.take_of_length_le (by omega)]
              obtain ⟨W9, hclr, hgr9, ho9⟩ := run_clrK ho' HL.out a (n - a) (cap - a) (by omega) (by omega) 0
              go_wp2
              go_ret
              exact ⟨_, rfl, by rw [← HR.out]; exact ho9, hg'.trans hgr9⟩
      · have hkn : k + 1 = n := by omega
        have hd : Hid (ddL l = l) := by
          unfold Hid
          have := H.out
          rw [List.take_of_length_le (by omega)] at this
          exact this
        have hO := h.below hbw
        go_wp2
        go_ret
        exact ⟨_, rfl, by rw [hd.out]; exact hO, gb_of hbw⟩
def btwB (a b : Knot) : Bar := if b.2 < a.2 then (b.1, b.2, a.1 - b.1) else (a.1, a.2, b.1 - a.1)
def nearK (k : Knot) : Prop := (-1000000 ≤ k.1 ∧ k.1 ≤ 1000000) ∧ (-1000000 ≤ k.2 ∧ k.2 ≤ 1000000)
def mirB (b : Bar) : Bar := (-b.1, b.2.1, -b.2.2)
theorem map_take {α β : Type} (f : α → β) {l : List α} {k : Nat} (hk : k < l.length) : (l.take (k + 1)).map f = (l.take k).map f ++ [f l[k]] := by
 rw [List.take_succ_eq_append_getElem hk, List.map_append]; rfl
def turnB (b : Bar) : Bar := btwB (-b.2.1, b.1) (-(b.2.1 + 1), b.1 + b.2.2)
def shB (d : Knot) (b : Bar) : Bar := (b.1 + d.1, b.2.1 + d.2, b.2.2)
def inB (b : Bar) : Bool := !farB b.1 && !farB b.2.1 && !farB (b.1 + b.2.2) && !farB (b.2.1 + 1)
def allIn (l : List Bar) : Bool := l.all inB
theorem allIn_take {l : List Bar} {f : Bar → Bar} {k : Nat} (hk : k < l.length) : allIn ((l.take (k + 1)).map f) = (allIn ((l.take k).map f) && inB (f l[k])) := by
 rw [map_take f hk]; unfold allIn; rw [List.all_append]; simp
end Go.Proofs.YtkkefahobjlagaaGreatDoor

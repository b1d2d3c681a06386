/- Lists told apart, a net copied, short lists, the first error: the reference's small functions, walked. Conditions: the slices read as lists. -/
import Derived.Test.YtkkefahobjlagaaGreatDoorQ06
import Derived.Maps.RangeRun
import Derived.Test.YtkkefahobjlagaaGreatDoorQ02
import Derived.Test.YtkkefahobjlagaaGreatDoorQ03
import Derived.Deep.CutRange
namespace Go.Proofs.YtkkefahobjlagaaGreatDoor
open Go.RowKit
set_option maxHeartbeats 2000000
set_option maxRecDepth 100000
theorem same_drop {α : Type} [DecidableEq α] {l r : List α} {k : Nat} (hlen : l.length = r.length) (hk : k < l.length) : decide (l.drop k = r.drop k) = (decide (l[k] = r[k]'(hlen ▸ hk)) && decide (l.drop (k + 1) = r.drop (k + 1))) := by
 rw [List.drop_eq_getElem_cons hk, List.drop_eq_getElem_cons (l := r) (show k < r.length by omega)]
 rw [Bool.eq_iff_iff, Bool.and_eq_true, decide_eq_true_eq, decide_eq_true_eq, decide_eq_true_eq, List.cons.injEq]
theorem sameBars_any {v u : Value} (l r : List Bar) (w : World) (h : SlB w v l) (h' : SlB w u r) : Calls Tryz.prog 21 #[v, u] w (RV w (.bool (decide (l = r)))) := by
 obtain ⟨A, c, rfl, hlc, hcm, h⟩ := h
 obtain ⟨A', c', rfl, hlc', hcm', h'⟩ := h'
 have hl : l.length ≤ maxLen := Nat.le_trans hlc hcm
 have hl' : r.length ≤ maxLen := Nat.le_trans hlc' hcm'
 unfold maxLen at hl hl'
 by_cases hlen : l.length = r.length
 ·have he : (l.length != r.length) = false := by simp [hlen]
  have he2 : ((l.length : Int) != (r.length : Int)) = false := by simp [hlen]
  go_enter Tryz.func21, Tryz.ntmps21
  go_wp2
  go_loopw [5] (fun i wr => ∃ k : Nat, k ≤ l.length ∧ i = .int .i64 k ∧ Hid (decide (l = r) = decide (l.drop k = r.drop k)) ∧ Below w.heap.size w wr) (fun i _ => l.length - (intOf i).toNat)
  case atStart => exact ⟨0, Nat.zero_le _, rfl, by simp [Hid], by (repeat first|exact J0|assumption|(apply J1;assumption)|apply J2|apply J3|apply J4)⟩
  case round =>
   obtain ⟨k, hk, rfl, H, hbw⟩ := hrel
   by_cases hlt : k < l.length
   ·have hr := h.below hbw
    have hr' := h'.below hbw
    obtain ⟨b, off, rfl, hb, e0, e1, e2⟩ := hr.bar hlt
    obtain ⟨b', off', rfl, hb', e0', e1', e2'⟩ := hr'.bar (hlen ▸ hlt)
    have HD := Lib.hid (same_drop hlen hlt)
    have hlt' : k < r.length := hlen ▸ hlt
    obtain ⟨g, hg⟩ : ∃ g, beqB l[k].1 l[k].2.1 l[k].2.2 r[k].1 r[k].2.1 r[k].2.2 = g := ⟨_, rfl⟩
    have hg' : decide (l[k] = r[k]) = g := hg
    cases g
    ·go_wp2
     refine wp_region_ords [0, 1, 2, 3, 4, 5, 6, 7, 8] [] [] (by kernel_rfl) (by kernel_rfl) (fun d _ _ _ _ h => by cases d <;> exact h) ?_
     simp only [List.map_cons, List.map_nil, List.getD_cons_zero, List.getD_cons_succ]
     repeat (go_big_quiet_step (fail))
     refine wpQuiet_nil ?_
     refine wpMid_nil ?_
     go_wp2
     go_ret
     exact ⟨ret_bool (by rw [H.out, HD.out, hg']; rfl), by (repeat first|exact J0|assumption|(apply J1;assumption)|apply J2|apply J3|apply J4)⟩
    ·go_wp2
     refine wp_region_ords [0, 1, 2, 3, 4, 5, 6, 7, 8] [] [] (by kernel_rfl) (by kernel_rfl) (fun d _ _ _ _ h => by cases d <;> exact h) ?_
     simp only [List.map_cons, List.map_nil, List.getD_cons_zero, List.getD_cons_succ]
     repeat (go_big_quiet_step (fail))
     refine wpQuiet_nil ?_
     refine wpMid_nil ?_
     go_wp2
     go_roundw
     case rel => exact ⟨k + 1, by omega, by go_num, by rw [H.out, HD.out, hg']; rfl, by (repeat first|exact J0|assumption|(apply J1;assumption)|apply J2|apply J3|apply J4)⟩
     case measure => simp [intOf]; omega
   ·have hkl : k = l.length := by omega
    go_wp2
    go_ret
    refine ⟨ret_bool ?_, by (repeat first|exact J0|assumption|(apply J1;assumption)|apply J2|apply J3|apply J4)⟩
    rw [H.out, hkl, List.drop_length, hlen, List.drop_length]; rfl
 ·have he2 : ((l.length : Int) != (r.length : Int)) = true := by simp; omega
  have hd : Hid (decide (l = r) = false) := by simp [Hid]; rintro rfl; exact hlen rfl
  go_enter Tryz.func21, Tryz.ntmps21
  go_wp2
  go_ret
  exact ⟨ret_bool hd.out.symm, by (repeat first|exact J0|assumption|(apply J1;assumption)|apply J2|apply J3|apply J4)⟩
theorem sameKnots_any {v u : Value} (l r : List Knot) (w : World) (h : SlK w v l) (h' : SlK w u r) : Calls Tryz.prog 47 #[v, u] w (RV w (.bool (decide (l = r)))) := by
 obtain ⟨A, c, rfl, hlc, hcm, h⟩ := h
 obtain ⟨A', c', rfl, hlc', hcm', h'⟩ := h'
 have hl : l.length ≤ maxLen := Nat.le_trans hlc hcm
 have hl' : r.length ≤ maxLen := Nat.le_trans hlc' hcm'
 unfold maxLen at hl hl'
 by_cases hlen : l.length = r.length
 ·have he2 : ((l.length : Int) != (r.length : Int)) = false := by simp [hlen]
  go_enter Tryz.func47, Tryz.ntmps47
  go_wp2
  go_loopw [5] (fun i wr => ∃ k : Nat, k ≤ l.length ∧ i = .int .i64 k ∧ Hid (decide (l = r) = decide (l.drop k = r.drop k)) ∧ Below w.heap.size w wr) (fun i _ => l.length - (intOf i).toNat)
  case atStart => exact ⟨0, Nat.zero_le _, rfl, by simp [Hid], by (repeat first|exact J0|assumption|(apply J1;assumption)|apply J2|apply J3|apply J4)⟩
  case round =>
   obtain ⟨k, hk, rfl, H, hbw⟩ := hrel
   by_cases hlt : k < l.length
   ·have hr := h.below hbw
    have hr' := h'.below hbw
    obtain ⟨b, off, rfl, hb, e0, e1⟩ := hr.knot hlt
    obtain ⟨b', off', rfl, hb', e0', e1'⟩ := hr'.knot (hlen ▸ hlt)
    have HD := Lib.hid (same_drop hlen hlt)
    have hlt' : k < r.length := hlen ▸ hlt
    obtain ⟨g, hg⟩ : ∃ g, beqK l[k].1 l[k].2 r[k].1 r[k].2 = g := ⟨_, rfl⟩
    have hg' : decide (l[k] = r[k]) = g := hg
    cases g
    ·go_wp2
     refine wp_region_ords [0, 1, 2, 3, 4, 5, 6, 7, 8] [] [] (by kernel_rfl) (by kernel_rfl) (fun d _ _ _ _ h => by cases d <;> exact h) ?_
     simp only [List.map_cons, List.map_nil, List.getD_cons_zero, List.getD_cons_succ]
     repeat (go_big_quiet_step (fail))
     refine wpQuiet_nil ?_
     refine wpMid_nil ?_
     go_wp2
     go_ret
     exact ⟨ret_bool (by rw [H.out, HD.out, hg']; rfl), by (repeat first|exact J0|assumption|(apply J1;assumption)|apply J2|apply J3|apply J4)⟩
    ·go_wp2
     refine wp_region_ords [0, 1, 2, 3, 4, 5, 6, 7, 8] [] [] (by kernel_rfl) (by kernel_rfl) (fun d _ _ _ _ h => by cases d <;> exact h) ?_
     simp only [List.map_cons, List.map_nil, List.getD_cons_zero, List.getD_cons_succ]
     repeat (go_big_quiet_step (fail))
     refine wpQuiet_nil ?_
     refine wpMid_nil ?_
     go_wp2
     go_roundw
     case rel => exact ⟨k + 1, by omega, by go_num, by rw [H.out, HD.out, hg']; rfl, by (repeat first|exact J0|assumption|(apply J1;assumption)|apply J2|apply J3|apply J4)⟩
     case measure => simp [intOf]; omega
   ·have hkl : k = l.length := by omega
    go_wp2
    go_ret
    refine ⟨ret_bool ?_, by (repeat first|exact J0|assumption|(apply J1;assumption)|apply J2|apply J3|apply J4)⟩
    rw [H.out, hkl, List.drop_length, hlen, List.drop_length]; rfl
 ·have he2 : ((l.length : Int) != (r.length : Int)) = true := by simp; omega
  have hd : Hid (decide (l = r) = false) := by simp [Hid]; rintro rfl; exact hlen rfl
  go_enter Tryz.func47, Tryz.ntmps47
  go_wp2
  go_ret
  exact ⟨ret_bool hd.out.symm, by (repeat first|exact J0|assumption|(apply J1;assumption)|apply J2|apply J3|apply J4)⟩
theorem rnet_sl {v : Value} (l : List Bar) (w : World) (h : SlB w v l) : Calls Tryz.prog 17 #[v] w (RV w (.int .i64 (netE l))) := by
 obtain ⟨A, c, rfl, hlc, hcm, h⟩ := h
 exact rnet_any l A c w (Nat.le_trans hlc hcm) h
theorem rfirst_any (l : List Int) (A : Option Addr) (c : Nat) (w : World) (hl : l.length ≤ maxLen) (h : Rd ic 1 w A l) :
  Calls Tryz.prog 54 #[.slice A l.length c] w (RV w (.int .i64 (firstI l))) := by
 unfold maxLen at hl
 go_enter Tryz.func54, Tryz.ntmps54
 go_wp2
 go_loop [3] (fun i => ∃ k : Nat, k ≤ l.length ∧ i = .int .i64 k ∧ Hid (firstI l = firstI (l.drop k))) (fun i => l.length - (intOf i).toNat)
 case atStart => exact ⟨0, Nat.zero_le _, rfl, rfl⟩
 case round =>
  obtain ⟨k, hk, rfl, H⟩ := hrel
  by_cases hlt : k < l.length
  ·obtain ⟨b, off, rfl, hb, hc⟩ := h.int hlt
   have hd := Lib.hid (firstI_drop hlt)
   go_wp2
   ·have hne : (l[k] != 0) = true := by assumption
    go_ret
    refine ⟨ret_int ?_, bl_refl⟩
    rw [H.out, hd.out, if_neg (by simpa using hne)]
   ·have hne : (l[k] != 0) = false := by assumption
    go_round
    case rel => exact ⟨k + 1, by omega, by go_num, by rw [H.out, hd.out, if_pos (by simpa using hne)]; rfl⟩
    case measure => simp [intOf]; omega
  ·have hkl : k = l.length := by omega
   go_wp2
   go_ret
   refine ⟨ret_int ?_, bl_refl⟩
   rw [H.out, hkl, List.drop_length]; rfl
theorem rrange_any (n lo hi : Int) (w : World) : Calls Tryz.prog 55 #[.int .i64 n, .int .i64 lo, .int .i64 hi] w (RV w (.int .i64 (withinI n lo hi))) := by
 go_enter Tryz.func55, Tryz.ntmps55
 go_wp2
 all_goals go_ret
 all_goals refine ⟨ret_int ?_, bl_refl⟩
 all_goals
  simp [withinI, whenI, *]
  try omega
end Go.Proofs.YtkkefahobjlagaaGreatDoor
namespace Go.Proofs.YtkkefahobjlagaaGreatDoor
open Go.RowKit Go.ChangeMaps
set_option maxHeartbeats 2000000
set_option maxRecDepth 100000
structure RngAt {κ ν : Type} (w : World) (r rk : Nat) (m : List (κ × ν × Nat)) (c : Nat) (done : List κ) : Prop where
 it : ∃ since seen c0, w.heap[r]? = some (.mapIter (some rk) since seen c0) ∧ (∀ x ∈ m, x.2.2 < since) ∧ (since ≤ c0 ∧ since ≤ c) ∧ seen.size = done.length ∧ ∀ x ∈ m, (x.1 ∈ done ↔ x.2.2 ∈ seen.toList)
 nodup : done.Nodup
 sub : ∀ k ∈ done, k ∈ mkeys m
section
variable {κ ν : Type} {w w' : World} {r rk : Nat} {m : List (κ × ν × Nat)} {done : List κ} {c : Nat} {ek : κ → Value} {ev : ν → Value} {P : Program}
theorem RngAt.lt (h : RngAt w r rk m c done) : r < w.heap.size := by
 obtain ⟨_, _, _, h1, _⟩ := h.it
 exact (Array.getElem?_eq_some_iff.1 h1).1
theorem Own.ne_blk {α : Type} {enc : α → List Value} {sz base : Nat} {e : TypeId} {v : Value} {l : List α} (ho : Own enc sz base e w v l) {g : Nat} {t : TypeId} {cs : Array Value} (hB : Blk w g t cs) (ht : t ≠ e) : some g ≠ v.ownBlock := by
 rcases ho.2 with ⟨rfl, _⟩ | ⟨g', cap, cur, rfl, _, hh, _⟩
 ·simp [Value.ownBlock]
 ·intro he
  have : g = g' := by simpa [Value.ownBlock] using he
  subst this
  unfold Blk at hB
  rw [hh] at hB
  cases hB
  exact ht rfl
theorem Own.chg1 {α : Type} {enc : α → List Value} {sz base : Nat} {e : TypeId} {v : Value} {l : List α} (ho : Own enc sz base e w v l) (hc : Chg [r] w w') (hr : v.ownBlock ≠ some r) : Own enc sz base e w' v l :=
 ho.kept (row := some r) ⟨hc.os, hc.tape, hc.output, hc.size, fun k hk hne => hc.block k hk (by simpa using hne)⟩ (.inr hr)
theorem Own.set {α : Type} {enc : α → List Value} {sz base : Nat} {e : TypeId} {v : Value} {l : List α} (ho : Own enc sz base e w v l) {p : Addr} (hp : v.ownBlock ≠ some p.block) (u : Value) : Own enc sz base e (w.setCell p u) v l :=
 ho.kept (row := some p.block) ⟨rfl, rfl, rfl, by simp [World.setCell], fun k _ hne => Below.heap_setCell w p u k (fun e => hne (by rw [e]))⟩ (.inr hp)
end
end Go.Proofs.YtkkefahobjlagaaGreatDoor
namespace Go.Proofs.YtkkefahobjlagaaGreatDoor
open Go.RowKit
inductive OT where
 | fin | stop
 | take (i : Nat) (t : OT)
 | alt (b : OT)
 | br (i : Nat) (t r : OT)
def OT.heads : OT → List Nat
 | .br i _ r => i :: r.heads
 | _ => []
def OT.node : OT → Bool
 | .fin | .take .. | .alt _ => true
 | _ => false
section
variable {P : Program} {ops : Array Oper} {Q : Exit → Act → World → Prop} {md : Region.Mode} {C : World → Prop}
def wpTree (P : Program) (ops : Array Oper) (Q : Exit → Act → World → Prop) (C : World → Prop) (post : List Oper) : OT → Act → World → Prop
 | .fin, a, w => wpList P ops Q post a w
 | .stop, _, _ => True
 | .take i t, a, w => if Region.wanted (ops.getD i default) (yielded ops a.tmps) then (ops.getD i default).quiet P a C (fun a' => wpTree P ops Q C post t a' w) else wpTree P ops Q C post t (a.put (ops.getD i default).dst undef) w
 | .alt b, a, w => wpTree P ops Q C post b a w
 | .br i t r, a, w => (if Region.wanted (ops.getD i default) (yielded ops a.tmps) then (ops.getD i default).wp P a w (fun a' w' => C w' ∧ wpTree P ops Q C post t a' w') Q else wpTree P ops Q C post t (a.put (ops.getD i default).dst undef) w) ∧ wpTree P ops Q C post r a w
def treeOk (md : Region.Mode) (ops : Array Oper) (post : List Nat) : OT → Nat → Array Bool → Bool
 | .fin, n, listed => decide (n = post.length) && seqOne md ops post listed
 | .stop, _, _ => true
 | .take i t, n, listed => match n with | 0 => false | n + 1 => t.node && takeB md ops post i listed && treeOk md ops post t n (listed.setIfInBounds i true)
 | .alt b, n, listed => !(Region.ready md ops listed).isEmpty && ((Region.ready md ops listed).all fun j => b.heads.contains j) && treeOk md ops post b n listed
 | .br i t r, n, listed => match n with | 0 => false | k + 1 => (!(Region.ready md ops listed).contains i || (t.node && treeOk md ops post t k (listed.setIfInBounds i true))) && treeOk md ops post r n listed
theorem tree_go {post : List Nat} (hs : Region.noSelect ops = true) (hQ : ∀ d c a v w, Q (.panic c) (Act.put a d v) w → Q (.panic c) a w) :
  ∀ (T : OT) (n : Nat) (listed : Array Bool) (a : Act) (w : World), Closed md ops listed → C w → treeOk md ops post T n listed = true → wpTree P ops Q C (post.map fun i => ops.getD i default) T a w →
   (T.node = true → wpAnyG P md ops Q C (fun j => !post.contains j) n listed a w) ∧
   (∀ j ∈ T.heads, j ∈ Region.ready md ops listed → ∃ k, n = k + 1 ∧ wpOp P ops Q j (fun a' w' => ((fun j => !post.contains j) j = true → C w') ∧ wpAnyG P md ops Q C (fun j => !post.contains j) k (listed.setIfInBounds j true) a' w') a w)
 | .fin, n, listed, a, w, hcl, hC, hB, h => by
  simp only [treeOk, Bool.and_eq_true, decide_eq_true_eq] at hB
  refine ⟨fun _ => ?_, fun j hj => by simp [OT.heads] at hj⟩
  rw [hB.1]
  exact wpAnyG_one post listed a w (fun i hi => by simp [hi]) hB.2 h
 | .stop, n, listed, a, w, _, _, _, _ => ⟨fun h => by simp [OT.node] at h, fun j hj => by simp [OT.heads] at hj⟩
 | .take i t, n, listed, a, w, hcl, hC, hB, h => by
  refine ⟨fun _ => ?_, fun j hj => by simp [OT.heads] at hj⟩
  cases n with
  | zero => simp [treeOk] at hB
  | succ n =>
   simp only [treeOk, Bool.and_eq_true] at hB
   exact wpAnyG_take (post := post) hs hQ hC (o := ops.getD i default) rfl hcl hB.1.2 (fun a' => wpTree P ops Q C (post.map fun i => ops.getD i default) t a' w)
    (fun v h' => (tree_go hs hQ t n _ _ w (hcl.set (takeB_ready hB.1.2)) hC hB.2 h').1 hB.1.1) h
 | .alt b, n, listed, a, w, hcl, hC, hB, h => by
  refine ⟨fun _ => ?_, fun j hj => by simp [OT.heads] at hj⟩
  simp only [treeOk, Bool.and_eq_true, Bool.not_eq_true'] at hB
  have ih := (tree_go hs hQ b n listed a w hcl hC hB.2 h).2
  have hall := List.all_eq_true.1 hB.1.2
  cases n with
  | zero =>
   cases hr : Region.ready md ops listed with
   | nil => rw [hr] at hB; simp at hB
   | cons j l =>
    have hj : j ∈ Region.ready md ops listed := by rw [hr]; simp
    obtain ⟨k, hk, _⟩ := ih j (by simpa using hall j hj) hj
    omega
  | succ n =>
   refine ⟨fun h0 => (by rw [h0] at hB; simp at hB), fun j hj => ?_⟩
   obtain ⟨k, hk, h2⟩ := ih j (by simpa using hall j hj) hj
   obtain rfl : n = k := by omega
   exact h2
 | .br i t r, n, listed, a, w, hcl, hC, hB, h => by
  refine ⟨fun h => by simp [OT.node] at h, fun j hj hjr => ?_⟩
  cases n with
  | zero => simp [treeOk] at hB
  | succ n =>
   simp only [treeOk, Bool.and_eq_true] at hB
   simp only [OT.heads, List.mem_cons] at hj
   rcases hj with rfl | hj
   ·refine ⟨n, rfl, ?_⟩
    have hb : t.node = true ∧ treeOk md ops post t n (listed.setIfInBounds j true) = true := by
     have := hB.1
     rw [Bool.or_eq_true] at this
     rcases this with h1 | h1
     ·exfalso
      have : (Region.ready md ops listed).contains j = true := by simpa using hjr
      rw [this] at h1; simp at h1
     ·simpa using h1
    obtain ⟨_, o, ho, _⟩ := mem_ready.1 hjr
    have hg : ops.getD j default = o := by simp [ho]
    have h1 := h.1
    rw [hg] at h1
    unfold wpOp
    simp only [ho]
    split
    ·rename_i hw
     rw [if_pos hw] at h1
     exact .inl (Oper.wp_mono (fun a' w' h' => ⟨fun _ => h'.1, (tree_go hs hQ t n _ a' w' (hcl.set hjr) h'.1 hb.2 h'.2).1 hb.1⟩) h1)
    ·rename_i hw
     rw [if_neg hw] at h1
     exact ⟨fun _ => hC, (tree_go hs hQ t n _ _ w (hcl.set hjr) hC hb.2 h1).1 hb.1⟩
   ·exact (tree_go hs hQ r (n + 1) listed a w hcl hC hB.2 h.2).2 j hj hjr
def treePre (md : Region.Mode) (ops : Array Oper) (T : OT) (n : Nat) (post : List Nat) : List Nat → Array Bool → Bool
 | [], listed => T.node && treeOk md ops post T n listed
 | i :: r, listed => takeB md ops post i listed && treePre md ops T n post r (listed.setIfInBounds i true)
def treeB (md : Region.Mode) (ops : Array Oper) (pre : List Nat) (T : OT) (post : List Nat) : Bool :=
 Region.noSelect ops && decide (pre.length ≤ ops.size) && treePre md ops T (ops.size - pre.length) post pre (Array.replicate ops.size false)
theorem tree_pre {T : OT} {n : Nat} {post : List Nat} (hs : Region.noSelect ops = true) (hQ : ∀ d c a v w, Q (.panic c) (Act.put a d v) w → Q (.panic c) a w) {w : World} (hC : C w) :
  ∀ (pre : List Nat) (listed : Array Bool) (a : Act), Closed md ops listed → treePre md ops T n post pre listed = true →
  wpQuiet P ops C (fun a' => wpTree P ops Q C (post.map fun i => ops.getD i default) T a' w) (pre.map fun i => ops.getD i default) a →
  wpAnyG P md ops Q C (fun j => !post.contains j) (pre.length + n) listed a w
 | [], listed, a, hcl, hB, h => by
  rw [List.length_nil, Nat.zero_add]
  simp only [treePre, Bool.and_eq_true] at hB
  exact (tree_go hs hQ T n listed a w hcl hC hB.2 h).1 hB.1
 | i :: r, listed, a, hcl, hB, h => by
  rw [List.length_cons, show r.length + 1 + n = (r.length + n) + 1 by omega]
  simp only [treePre, Bool.and_eq_true] at hB
  simp only [List.map_cons] at h
  unfold wpQuiet at h
  exact wpAnyG_take (post := post) hs hQ hC (o := ops.getD i default) rfl hcl hB.1 (fun a' => wpQuiet P ops C (fun a' => wpTree P ops Q C (post.map fun i => ops.getD i default) T a' w) (r.map fun i => ops.getD i default) a')
   (fun v h' => tree_pre hs hQ hC r _ _ (hcl.set (takeB_ready hB.1)) hB.2 h') h
theorem wp_region_tree {id : Nat} {a : Act} {w : World} {l : List Oper} (pre : List Nat) (T : OT) (post : List Nat) (hm : P.follows .mixedOrders = true) (hB : treeB .any l.toArray pre T post = true)
  (hQ : ∀ d c a v w, Q (.panic c) (Act.put a d v) w → Q (.panic c) a w)
  (h : wpQuiet P l.toArray (fun w' => ∃ g : Bel w.heap.size w, w' = g.val) (fun a' => wpTree P l.toArray Q (fun w' => ∃ g : Bel w.heap.size w, w' = g.val) (post.map fun i => l.getD i default) T a' w.drew) (pre.map fun i => l.getD i default) a) :
  (Code.region id l.toArray true).wp P Q a w := by
 simp only [treeB, Bool.and_eq_true, decide_eq_true_eq] at hB
 obtain ⟨⟨hs, hn⟩, hB'⟩ := hB
 refine wp_region_any hm (wpAny_of_G (C := fun w' => ∃ g : Bel w.heap.size w, w' = g.val) (kp := fun j => !post.contains j) _ _ _ _ ?_)
 have hn' : pre.length + (l.toArray.size - pre.length) = l.toArray.size := by omega
 have e : ∀ (xs : List Nat), (xs.map fun i => l.toArray.getD i default) = xs.map fun i => l.getD i default := fun xs => List.map_congr_left fun i _ => by simp [Array.getD_eq_getD_getElem?, List.getD_eq_getElem?_getD]
 have := tree_pre (C := fun w' => ∃ g : Bel w.heap.size w, w' = g.val) hs hQ (Bel.ex (Below.refl w.heap.size w).drew) pre _ a (Closed.start _) hB' (by rw [e, e]; exact h)
 rw [hn'] at this
 exact this
variable {B : Nat} {w0 w : World} {post : List Oper} {a : Act} {t r b : OT} {i : Nat}
theorem wpTree_fin (h : wpList P ops Q post a w) : wpTree P ops Q C post .fin a w := h
theorem wpTree_alt (h : wpTree P ops Q C post b a w) : wpTree P ops Q C post (.alt b) a w := h
theorem wpTree_stop : wpTree P ops Q C post .stop a w := trivial
theorem wpTree_br {o : Oper} (ho : ops.getD i default = o) (hw : Region.wanted o (yielded ops a.tmps) = true)
  (h : ∀ K : Act → World → Prop, (∀ a w', Below B w0 w' → wpTree P ops Q (fun w' => ∃ g : Bel B w0, w' = g.val) post t a w' → K a w') → o.wp P a w K Q) (h2 : wpTree P ops Q (fun w' => ∃ g : Bel B w0, w' = g.val) post r a w) :
  wpTree P ops Q (fun w' => ∃ g : Bel B w0, w' = g.val) post (.br i t r) a w := by
 subst ho
 have := h (fun a' w' => (∃ g : Bel B w0, w' = g.val) ∧ wpTree P ops Q (fun w' => ∃ g : Bel B w0, w' = g.val) post t a' w') (fun a w h1 h2 => ⟨Bel.ex h1, h2⟩)
 refine ⟨?_, h2⟩
 rw [if_pos hw]
 exact this
theorem wpTree_take {o : Oper} (ho : ops.getD i default = o) (hw : Region.wanted o (yielded ops a.tmps) = true) (h : ∀ K : Act → Prop, (∀ a, wpTree P ops Q C post t a w → K a) → o.quiet P a C K) : wpTree P ops Q C post (.take i t) a w := by
 subst ho
 unfold wpTree
 rw [if_pos hw]
 exact h _ fun a h => h
end
attribute [irreducible] wpTree
end Go.Proofs.YtkkefahobjlagaaGreatDoor
namespace Go.Proofs.YtkkefahobjlagaaGreatDoor
open Go.RowKit Go.ChangeMaps
def BelM (B : Nat) (w : World) (p : World → Prop) : Type := { x : World // Below B w x ∧ p x }
section
variable {B : Nat} {w w' : World} {p : World → Prop}
def BelM.val (g : BelM B w p) : World := g.1
theorem BelM.has (g : BelM B w p) : p g.val := g.2.2
@[go_sem] theorem BelM.cellAt (g : BelM B w p) (b o : Nat) (h : b < B) : g.val.cell? ⟨b, o, none⟩ = w.cell? ⟨b, o, none⟩ := g.2.1.cell (p := ⟨b, o, none⟩) h
@[go_sem] theorem BelM.frozenAt (g : BelM B w p) (b o : Nat) (h : b < B) : g.val.frozen? ⟨b, o, none⟩ = w.frozen? ⟨b, o, none⟩ := g.2.1.frozen (p := ⟨b, o, none⟩) h
theorem BelM.ex (h : Below B w w') (hp : p w') : ∃ g : BelM B w p, w' = g.val := ⟨⟨w', h, hp⟩, rfl⟩
theorem BelM.none_empty (h : Below B w w') (hp : p w') : Nonempty (BelM B w p) := ⟨⟨w', h, hp⟩⟩
end
section
variable {P : Program} {ops : Array Oper} {Q : Exit → Act → World → Prop} {C : World → Prop}
theorem wp_region_ordm {id : Nat} {a : Act} {w : World} {l : List Oper} (B : Nat) (p : World → Prop) (pre : List Nat) (mid : List (Nat × Bool)) (post : List Nat) (hm : P.follows .mixedOrders = true) (hB : ordB .any l.toArray pre mid post = true)
  (hQ : ∀ d c a v w, Q (.panic c) (Act.put a d v) w → Q (.panic c) a w) (hp : p w.drew)
  (h : wpQuiet P l.toArray (fun w' => ∃ g : BelM B w p, w' = g.val) (fun a' => wpMid P l.toArray Q (fun w' => ∃ g : BelM B w p, w' = g.val) (post.map fun i => l.getD i default) (mid.map fun i => (l.getD i.1 default, i.2)) a' w.drew) (pre.map fun i => l.getD i default) a) :
  (Code.region id l.toArray true).wp P Q a w := by
 simp only [ordB, Bool.and_eq_true, decide_eq_true_eq] at hB
 obtain ⟨⟨hs, hn⟩, hB'⟩ := hB
 refine wp_region_any hm (wpAny_of_G (C := fun w' => ∃ g : BelM B w p, w' = g.val) (kp := fun j => !post.contains j) _ _ _ _ ?_)
 rw [hn, Nat.add_assoc]
 refine wpAnyG_pre hs hQ (BelM.ex (Below.refl B w).drew hp) pre _ a (Closed.start _) (by simpa [hn, Nat.add_assoc] using hB') ?_
 have e : ∀ (xs : List Nat), (xs.map fun i => l.toArray.getD i default) = xs.map fun i => l.getD i default := fun xs => List.map_congr_left fun i _ => by simp [Array.getD_eq_getD_getElem?, List.getD_eq_getElem?_getD]
 have e2 : (mid.map fun i => (l.toArray.getD i.1 default, i.2)) = mid.map fun i => (l.getD i.1 default, i.2) := List.map_congr_left fun i _ => by simp [Array.getD_eq_getD_getElem?, List.getD_eq_getElem?_getD]
 rw [e, e, e2]
 exact h
unseal wpMid in
theorem wpMid_runm {B : Nat} {p : World → Prop} {w0 : World} {post : List Oper} {o : Oper} {r : List (Oper × Bool)} {a : Act} {w : World} (hw : Region.wanted o (yielded ops a.tmps) = true)
  (h : ∀ K : Act → World → Prop, (∀ a w', Below B w0 w' → p w' → wpMid P ops Q (fun w' => ∃ g : BelM B w0 p, w' = g.val) post r a w' → K a w') → o.wp P a w K Q) :
  wpMid P ops Q (fun w' => ∃ g : BelM B w0 p, w' = g.val) post ((o, false) :: r) a w := by
 have := h (fun a w' => (∃ g : BelM B w0 p, w' = g.val) ∧ wpMid P ops Q (fun w' => ∃ g : BelM B w0 p, w' = g.val) post r a w') (fun a w h1 h2 h3 => ⟨BelM.ex h1 h2, h3⟩)
 simp only [wpMid, Bool.false_eq_true, if_false, hw, if_true]
 exact this
end
section
variable {κ : Type} [DecidableEq κ]
variable {ek : κ → Value} {w : World} {r : Nat} {m : List (κ × Nat × Nat)} {c : Nat} {P : Program} {k e t : TypeId}
def cntV (n : Nat) : Value := .int .i64 (n : Int)
end
end Go.Proofs.YtkkefahobjlagaaGreatDoor
namespace Go.Proofs.YtkkefahobjlagaaGreatDoor
open Go.RowKit Go.ChangeMaps
set_option maxHeartbeats 4000000
set_option maxRecDepth 100000
section
variable {α : Type} {enc : α → List Value} {sz bytes : Nat} {P : Program} {t e : TypeId} {w : World}
theorem op_app {o : Oper} {a : Act} {K : Act → World → Prop} {Q : Exit → Act → World → Prop} (E : Elem P t e sz bytes) (henc : ∀ x, (enc x).length = sz) (hone : ∀ x, ∀ u ∈ enc x, u.oneCell' = true) (s x : Operand)
  (ho : o.op = .call { callee := .builtin .append, args := #[s, x], argTypes := #[t, t] }) (base : Nat) (v u : Value) (l r : List α) (hs : a.eval s = v) (hx : a.eval x = u) (hown : Own enc sz base e w v l) (hu : Sl enc sz w u r)
  (h63 : l.length + r.length ≤ maxLen) (hb : (l.length + r.length) * bytes ≤ 140737488355328) (hbase : base ≤ w.heap.size)
  (h : ∀ v' w', Own enc sz base e w' v' (l ++ r) → w.grownBy w' v.ownBlock → K (a.put o.dst v') w') : o.wp P a w K Q := by
 obtain ⟨v', w', hr, h2, h3⟩ := run_app E henc hone base o.type v u l r hown hu h63 hb hbase
 unfold Oper.wp
 simp [execOp, ho, resolve, invoke, builtin, hs, hx, hr, Result.andThen]
 exact h v' w' h2 h3
end
theorem opB_app {o : Oper} {a : Act} {K : Act → World → Prop} {Q : Exit → Act → World → Prop} {w : World} {base : Nat} {v u : Value} {l r : List Bar} (hown : OwB base w v l) (hu : SlB w u r) (s x : Operand)
  (ho : o.op = .call { callee := .builtin .append, args := #[s, x], argTypes := #[36, 36] }) (hs : a.eval s = v) (hx : a.eval x = u) (hlen : l.length + r.length ≤ 1000000) (hbase : base ≤ w.heap.size)
  (h : ∀ v' w', OwB base w' v' (l ++ r) → w.grownBy w' v.ownBlock → K (a.put o.dst v') w') : o.wp Tryz.prog a w K Q :=
 op_app bar_elem bc_len bc_one s x ho base v u l r hs hx hown hu (by simp [maxLen]; omega) (by omega) hbase h
section
variable {α : Type} {enc : α → List Value} {sz n c : Nat} {w : World} {A : Option Addr} {l : List α}
theorem sl_post (h : Rd enc sz w A l) (hlc : l.length ≤ c) {k : Nat} (hk : k ≤ l.length) (hc : c ≤ maxLen) : Sl enc sz w (.slice (if c = k then A else Option.map (fun x => x.add (k * sz)) A) (l.length - k) (c - k)) (l.drop k) := by
 refine ⟨_, _, by rw [List.length_drop], by rw [List.length_drop]; omega, by omega, fun i x hx => ?_⟩
 rw [List.getElem?_drop] at hx
 have hlt := (List.getElem?_eq_some_iff.1 hx).1
 obtain ⟨b, off, rfl, hb, hc2⟩ := h (k + i) x hx
 rw [if_neg (by omega)]
 refine ⟨b, off + k * sz, ?_, hb, fun j u hu => ?_⟩
 ·simp only [Option.map_some, Addr.add]
  split
  ·rename_i h0; rw [h0, Nat.add_zero]
  ·rfl
 ·have := hc2 j u hu
  rwa [show off + (k + i) * sz + j = off + k * sz + i * sz + j by rw [Nat.add_mul]; omega] at this
end
section
variable {ops : Array Oper} {rest : List Oper} {o : Oper} {a : Act} {Q : Exit → Act → World → Prop} {base : Nat} {W : World} {v : Value} {X Y S : Int}
theorem wpList_appB1 {l : List Bar} (hown : OwB base W v l) {g : Nat} (hgd : o.guard = none) (s x : Operand) (ho : o.op = .call { callee := .builtin .append, args := #[s, x], argTypes := #[36, 36] })
    (hs : a.eval s = v) (hx : a.eval x = .slice (some ⟨g, 0, none⟩) 1 1) (hg : W.heap.size = g) (hlen : l.length ≤ 1000000) (hbase : base ≤ W.heap.size)
    (h : ∀ v' w', OwB base w' v' (l ++ [(X, Y, S)]) → (W.alloc (.cells #[.int .i64 X, .int .i64 Y, .int .i64 S] 77)).grownBy w' v.ownBlock → wpList Tryz.prog ops Q rest (a.put o.dst v') w') :
    wpList Tryz.prog ops Q (o :: rest) a (W.alloc (.cells #[.int .i64 X, .int .i64 Y, .int .i64 S] 77)) := by
  subst hg
  exact wpList_appB hown hgd s x ho hs hx hlen hbase h
end
def insU : List Bar → Bar → List Bar
 | [], k => [k]
 | x :: r, k => if bltP x k then x :: insU r k else if x = k then x :: r else k :: x :: r
theorem bltP_tr (a b c : Bar) (h : bltP a b) (h' : bltP b c) : bltP a c := bltP_trans h h'
theorem insU_mem (k y : Bar) : ∀ l, y ∈ insU l k ↔ y = k ∨ y ∈ l
 | [] => by simp [insU]
 | x :: r => by
  unfold insU
  split
  ·rw [List.mem_cons, insU_mem k y r, List.mem_cons]
   constructor
   ·rintro (h | h | h) <;> simp [h]
   ·rintro (h | h | h) <;> simp [h]
  ·split
   ·rename_i h
    subst h
    simp
   ·simp
theorem insU_sorted (k : Bar) : ∀ {l : List Bar}, l.Pairwise bltP → (insU l k).Pairwise bltP
 | [], _ => by simp [insU]
 | x :: r, h => by
  obtain ⟨h1, h2⟩ := List.pairwise_cons.1 h
  unfold insU
  split
  ·rename_i hx
   refine List.pairwise_cons.2 ⟨fun y hy => ?_, insU_sorted k h2⟩
   rcases (insU_mem k y r).1 hy with rfl | hy
   ·exact hx
   ·exact h1 y hy
  ·rename_i hx
   split
   ·exact h
   ·rename_i hne
    refine List.pairwise_cons.2 ⟨fun y hy => ?_, h⟩
    have := bltP_tri hx hne
    rcases List.mem_cons.1 hy with rfl | hy
    ·exact this
    ·exact bltP_tr _ _ _ this (h1 y hy)
def setIn (o l : List Bar) : List Bar := l.foldl insU o
def setB (l : List Bar) : List Bar := setIn [] l
theorem setIn_mem (k : Bar) : ∀ (l o : List Bar), k ∈ setIn o l ↔ k ∈ o ∨ k ∈ l
 | [], o => by simp [setIn]
 | b :: l, o => by
  show k ∈ setIn (insU o b) l ↔ _
  rw [setIn_mem k l, insU_mem, List.mem_cons]
  constructor
  ·rintro ((h | h) | h)
   ·exact .inr (.inl h)
   ·exact .inl h
   ·exact .inr (.inr h)
  ·rintro (h | h | h)
   ·exact .inl (.inr h)
   ·exact .inl (.inl h)
   ·exact .inr h
theorem setIn_sorted : ∀ (l o : List Bar), o.Pairwise bltP → (setIn o l).Pairwise bltP
 | [], _, h => h
 | _ :: l, _, h => setIn_sorted l _ (insU_sorted _ h)
theorem setB_mem (l : List Bar) (x : Bar) : x ∈ setB l ↔ x ∈ l := by unfold setB; rw [setIn_mem]; simp
theorem setB_sorted (l : List Bar) : (setB l).Pairwise bltP := setIn_sorted l [] List.Pairwise.nil
def btwB (a b : Knot) : Bar := if b.2 < a.2 then (b.1, b.2, a.1 - b.1) else (a.1, a.2, b.1 - a.1)
def mirB (b : Bar) : Bar := (-b.1, b.2.1, -b.2.2)
theorem map_take {α β : Type} (f : α → β) {l : List α} {k : Nat} (hk : k < l.length) : (l.take (k + 1)).map f = (l.take k).map f ++ [f l[k]] := by
 rw [List.take_succ_eq_append_getElem hk, List.map_append]; rfl
def turnB (b : Bar) : Bar := btwB (-b.2.1, b.1) (-(b.2.1 + 1), b.1 + b.2.2)
def shB (d : Knot) (b : Bar) : Bar := (b.1 + d.1, b.2.1 + d.2, b.2.2)
def inB (b : Bar) : Bool := !farB b.1 && !farB b.2.1 && !farB (b.1 + b.2.2) && !farB (b.2.1 + 1)
def allIn (l : List Bar) : Bool := l.all inB
theorem allIn_take {l : List Bar} {f : Bar → Bar} {k : Nat} (hk : k < l.length) : allIn ((l.take (k + 1)).map f) = (allIn ((l.take k).map f) && inB (f l[k])) := by
 rw [map_take f hk]; unfold allIn; rw [List.all_append]; simp
end Go.Proofs.YtkkefahobjlagaaGreatDoor

/- A region that draws its order and holds several operations that may come in more than one order: reads are taken, then each order is gone, as a tree. Conditions: the Bool 'treeB' over the region. -/
import Derived.Test.YtpompeancmonbaaGreatE02
import Derived.Test.YtpompeancmonbaaGreatE18
namespace Go.Proofs.YtpompeancmonbaaGreat
open Go.RowKit

/-- fin: what is left, in its one order; take: a read; alt: one of several, each a 'br' with what comes behind it -/
inductive OT where
  | fin | stop
  | take (i : Nat) (t : OT)
  | alt (b : OT)
  | br (i : Nat) (t r : OT)
def OT.heads : OT → List Nat
  | .br i _ r => i :: r.heads
  | _ => []
def OT.node : OT → Bool
  | .fin | .take .. | .alt _ => true
  | _ => false

section
variable {P : Program} {ops : Array Oper} {Q : Exit → Act → World → Prop} {md : Region.Mode} {C : World → Prop}

def wpTree (P : Program) (ops : Array Oper) (Q : Exit → Act → World → Prop) (C : World → Prop) (post : List Oper) : OT → Act → World → Prop
  | .fin, a, w => wpList P ops Q post a w
  | .stop, _, _ => True
  | .take i t, a, w => if Region.wanted (ops.getD i default) (yielded ops a.tmps) then (ops.getD i default).quiet P a C (fun a' => wpTree P ops Q C post t a' w) else wpTree P ops Q C post t (a.put (ops.getD i default).dst undef) w
  | .alt b, a, w => wpTree P ops Q C post b a w
  | .br i t r, a, w => (if Region.wanted (ops.getD i default) (yielded ops a.tmps) then (ops.getD i default).wp P a w (fun a' w' => C w' ∧ wpTree P ops Q C post t a' w') Q else wpTree P ops Q C post t (a.put (ops.getD i default).dst undef) w) ∧ wpTree P ops Q C post r a w

def treeOk (md : Region.Mode) (ops : Array Oper) (post : List Nat) : OT → Nat → Array Bool → Bool
  | .fin, n, listed => decide (n = post.length) && seqOne md ops post listed
  | .stop, _, _ => true
  | .take i t, n, listed => match n with | 0 => false | n + 1 => t.node && takeB md ops post i listed && treeOk md ops post t n (listed.setIfInBounds i true)
  | .alt b, n, listed => !(Region.ready md ops listed).isEmpty && ((Region.ready md ops listed).all fun j => b.heads.contains j) && treeOk md ops post b n listed
  | .br i t r, n, listed => match n with | 0 => false | k + 1 => (!(Region.ready md ops listed).contains i || (t.node && treeOk md ops post t k (listed.setIfInBounds i true))) && treeOk md ops post r n listed

theorem tree_go {post : List Nat} (hs : Region.noSelect ops = true) (hQ : ∀ d c a v w, Q (.panic c) (Act.put a d v) w → Q (.panic c) a w) :
    ∀ (T : OT) (n : Nat) (listed : Array Bool) (a : Act) (w : World), Closed md ops listed → C w → treeOk md ops post T n listed = true → wpTree P ops Q C (post.map fun i => ops.getD i default) T a w →
      (T.node = true → wpAnyG P md ops Q C (fun j => !post.contains j) n listed a w) ∧
      (∀ j ∈ T.heads, j ∈ Region.ready md ops listed → ∃ k, n = k + 1 ∧ wpOp P ops Q j (fun a' w' => ((fun j => !post.contains j) j = true → C w') ∧ wpAnyG P md ops Q C (fun j => !post.contains j) k (listed.setIfInBounds j true) a' w') a w)
  | .fin, n, listed, a, w, hcl, hC, hB, h => by
    simp only [treeOk, Bool.and_eq_true, decide_eq_true_eq] at hB
    refine ⟨fun _ => ?_, fun j hj => by simp [OT.heads] at hj⟩
    rw [hB.1]
    exact wpAnyG_one post listed a w (fun i hi => by simp [hi]) hB.2 h
  | .stop, n, listed, a, w, _, _, _, _ => ⟨fun h => by simp [OT.node] at h, fun j hj => by simp [OT.heads] at hj⟩
  | .take i t, n, listed, a, w, hcl, hC, hB, h => by
    refine ⟨fun _ => ?_, fun j hj => by simp [OT.heads] at hj⟩
    cases n with
    | zero => simp [treeOk] at hB
    | succ n =>
      simp only [treeOk, Bool.and_eq_true] at hB
      exact wpAnyG_take (post := post) hs hQ hC (o := ops.getD i default) rfl hcl hB.1.2 (fun a' => wpTree P ops Q C (post.map fun i => ops.getD i default) t a' w)
        (fun v h' => (tree_go hs hQ t n _ _ w (hcl.set (takeB_ready hB.1.2)) hC hB.2 h').1 hB.1.1) h
  | .alt b, n, listed, a, w, hcl, hC, hB, h => by
    refine ⟨fun _ => ?_, fun j hj => by simp [OT.heads] at hj⟩
    simp only [treeOk, Bool.and_eq_true, Bool.not_eq_true'] at hB
    have ih := (tree_go hs hQ b n listed a w hcl hC hB.2 h).2
    have hall := List.all_eq_true.1 hB.1.2
    cases n with
    | zero =>
      cases hr : Region.ready md ops listed with
      | nil => rw [hr] at hB; simp at hB
      | cons j l =>
        have hj : j ∈ Region.ready md ops listed := by rw [hr]; simp
        obtain ⟨k, hk, _⟩ := ih j (by simpa using hall j hj) hj
        omega
    | succ n =>
      refine ⟨fun h0 => (by rw [h0] at hB; simp at hB), fun j hj => ?_⟩
      obtain ⟨k, hk, h2⟩ := ih j (by simpa using hall j hj) hj
      obtain rfl : n = k := by omega
      exact h2
  | .br i t r, n, listed, a, w, hcl, hC, hB, h => by
    refine ⟨fun h => by simp [OT.node] at h, fun j hj hjr => ?_⟩
    cases n with
    | zero => simp [treeOk] at hB
    | succ n =>
      simp only [treeOk, Bool.and_eq_true] at hB
      simp only [OT.heads, List.mem_cons] at hj
      rcases hj with rfl | hj
      · refine ⟨n, rfl, ?_⟩
        have hb : t.node = true ∧ treeOk md ops post t n (listed.setIfInBounds j true) = true := by
          have := hB.1
          rw [Bool.or_eq_true] at this
          rcases this with h1 | h1
          · exfalso
            have : (Region.ready md ops listed).contains j = true := by simpa using hjr
            rw [this] at h1; simp at h1
          · simpa using h1
        obtain ⟨_, o, ho, _⟩ := mem_ready.1 hjr
        have hg : ops.getD j default = o := by simp [ho]
        have h1 := h.1
        rw [hg] at h1
        unfold wpOp
        simp only [ho]
        split
        · rename_i hw
          rw [if_pos hw] at h1
          exact .inl (Oper.wp_mono (fun a' w' h' => ⟨fun _ => h'.1, (tree_go hs hQ t n _ a' w' (hcl.set hjr) h'.1 hb.2 h'.2).1 hb.1⟩) h1)
        · rename_i hw
          rw [if_neg hw] at h1
          exact ⟨fun _ => hC, (tree_go hs hQ t n _ _ w (hcl.set hjr) hC hb.2 h1).1 hb.1⟩
      · exact (tree_go hs hQ r (n + 1) listed a w hcl hC hB.2 h.2).2 j hj hjr

def treePre (md : Region.Mode) (ops : Array Oper) (T : OT) (n : Nat) (post : List Nat) : List Nat → Array Bool → Bool
  | [], listed => T.node && treeOk md ops post T n listed
  | i :: r, listed => takeB md ops post i listed && treePre md ops T n post r (listed.setIfInBounds i true)
def treeB (md : Region.Mode) (ops : Array Oper) (pre : List Nat) (T : OT) (post : List Nat) : Bool :=
  Region.noSelect ops && decide (pre.length ≤ ops.size) && treePre md ops T (ops.size - pre.length) post pre (Array.replicate ops.size false)

theorem tree_pre {T : OT} {n : Nat} {post : List Nat} (hs : Region.noSelect ops = true) (hQ : ∀ d c a v w, Q (.panic c) (Act.put a d v) w → Q (.panic c) a w) {w : World} (hC : C w) :
    ∀ (pre : List Nat) (listed : Array Bool) (a : Act), Closed md ops listed → treePre md ops T n post pre listed = true →
    wpQuiet P ops C (fun a' => wpTree P ops Q C (post.map fun i => ops.getD i default) T a' w) (pre.map fun i => ops.getD i default) a →
    wpAnyG P md ops Q C (fun j => !post.contains j) (pre.length + n) listed a w
  | [], listed, a, hcl, hB, h => by
    rw [List.length_nil, Nat.zero_add]
    simp only [treePre, Bool.and_eq_true] at hB
    exact (tree_go hs hQ T n listed a w hcl hC hB.2 h).1 hB.1
  | i :: r, listed, a, hcl, hB, h => by
    rw [List.length_cons, show r.length + 1 + n = (r.length + n) + 1 by omega]
    simp only [treePre, Bool.and_eq_true] at hB
    simp only [List.map_cons] at h
    unfold wpQuiet at h
    exact wpAnyG_take (post := post) hs hQ hC (o := ops.getD i default) rfl hcl hB.1 (fun a' => wpQuiet P ops C (fun a' => wpTree P ops Q C (post.map fun i => ops.getD i default) T a' w) (r.map fun i => ops.getD i default) a')
      (fun v h' => tree_pre hs hQ hC r _ _ (hcl.set (takeB_ready hB.1)) hB.2 h') h

theorem wp_region_tree {id : Nat} {a : Act} {w : World} {l : List Oper} (pre : List Nat) (T : OT) (post : List Nat) (hm : P.follows .mixedOrders = true) (hB : treeB .any l.toArray pre T post = true)
    (hQ : ∀ d c a v w, Q (.panic c) (Act.put a d v) w → Q (.panic c) a w)
    (h : wpQuiet P l.toArray (fun w' => ∃ g : Bel w.heap.size w, w' = g.val) (fun a' => wpTree P l.toArray Q (fun w' => ∃ g : Bel w.heap.size w, w' = g.val) (post.map fun i => l.getD i default) T a' w.drew) (pre.map fun i => l.getD i default) a) :
    (Code.region id l.toArray true).wp P Q a w := by
  simp only [treeB, Bool.and_eq_true, decide_eq_true_eq] at hB
  obtain ⟨⟨hs, hn⟩, hB'⟩ := hB
  refine wp_region_any hm (wpAny_of_G (C := fun w' => ∃ g : Bel w.heap.size w, w' = g.val) (kp := fun j => !post.contains j) _ _ _ _ ?_)
  have hn' : pre.length + (l.toArray.size - pre.length) = l.toArray.size := by omega
  have e : ∀ (xs : List Nat), (xs.map fun i => l.toArray.getD i default) = xs.map fun i => l.getD i default := fun xs => List.map_congr_left fun i _ => by simp [Array.getD_eq_getD_getElem?, List.getD_eq_getElem?_getD]
  have := tree_pre (C := fun w' => ∃ g : Bel w.heap.size w, w' = g.val) hs hQ (Bel.ex (Below.refl w.heap.size w).drew) pre _ a (Closed.start _) hB' (by rw [e, e]; exact h)
  rw [hn'] at this
  exact this

variable {B : Nat} {w0 w : World} {post : List Oper} {a : Act} {t r b : OT} {i : Nat}
theorem wpTree_fin (h : wpList P ops Q post a w) : wpTree P ops Q C post .fin a w := h
theorem wpTree_alt (h : wpTree P ops Q C post b a w) : wpTree P ops Q C post (.alt b) a w := h
theorem wpTree_stop : wpTree P ops Q C post .stop a w := trivial
theorem wpTree_br {o : Oper} (ho : ops.getD i default = o) (hw : Region.wanted o (yielded ops a.tmps) = true)
    (h : ∀ K : Act → World → Prop, (∀ a w', Below B w0 w' → wpTree P ops Q (fun w' => ∃ g : Bel B w0, w' = g.val) post t a w' → K a w') → o.wp P a w K Q) (h2 : wpTree P ops Q (fun w' => ∃ g : Bel B w0, w' = g.val) post r a w) :
    wpTree P ops Q (fun w' => ∃ g : Bel B w0, w' = g.val) post (.br i t r) a w := by
  subst ho
  have := h (fun a' w' => (∃ g : Bel B w0, w' = g.val) ∧ wpTree P ops Q (fun w' => ∃ g : Bel B w0, w' = g.val) post t a' w') (fun a w h1 h2 => ⟨Bel.ex h1, h2⟩)
  refine ⟨?_, h2⟩
  rw [if_pos hw]
  exact this
theorem wpTree_skip {o : Oper} (ho : ops.getD i default = o) (hw : Region.wanted o (yielded ops a.tmps) = false) (h : ∀ K : Act → Prop, (∀ a, wpTree P ops Q C post t a w → K a) → K (a.put o.dst undef)) (h2 : wpTree P ops Q C post r a w) :
    wpTree P ops Q C post (.br i t r) a w := by
  subst ho
  refine ⟨?_, h2⟩
  rw [if_neg (by rw [hw]; simp)]
  exact h _ fun a h => h
theorem wpTree_skipT {o : Oper} (ho : ops.getD i default = o) (hw : Region.wanted o (yielded ops a.tmps) = false) (h : ∀ K : Act → Prop, (∀ a, wpTree P ops Q C post t a w → K a) → K (a.put o.dst undef)) :
    wpTree P ops Q C post (.take i t) a w := by
  subst ho
  unfold wpTree
  rw [if_neg (by rw [hw]; simp)]
  exact h _ fun a h => h
theorem wpTree_take {o : Oper} (ho : ops.getD i default = o) (hw : Region.wanted o (yielded ops a.tmps) = true) (h : ∀ K : Act → Prop, (∀ a, wpTree P ops Q C post t a w → K a) → o.quiet P a C K) : wpTree P ops Q C post (.take i t) a w := by
  subst ho
  unfold wpTree
  rw [if_pos hw]
  exact h _ fun a h => h
end
attribute [irreducible] wpTree
end Go.Proofs.YtpompeancmonbaaGreat

/- Walks checked and passed, lists of knots told apart, of the program, walked. Conditions: knots within bounds. -/
namespace Go.Proofs.YtpompeancmonbaaGreat
open Go.RowKit Go.ChangeMaps
set_option maxHeartbeats 4000000
set_option maxRecDepth 100000

theorem equalK_any {v u : Value} (l r : List Knot) (w : World) (h : SlK w v l) (h' : SlK w u r) : Calls Tryz.prog 116 #[v, u] w (RV w (.bool (decide (l = r)))) := by
  obtain ⟨A, c, rfl, hlc, hcm, h⟩ := h
  obtain ⟨A', c', rfl, hlc', hcm', h'⟩ := h'
  have hl : l.length ≤ maxLen := Nat.le_trans hlc hcm
  have hl' : r.length ≤ maxLen := Nat.le_trans hlc' hcm'
  unfold maxLen at hl hl'
  by_cases hlen : l.length = r.length
  · have he2 : ((l.length : Int) != (r.length : Int)) = false := by simp [hlen]
    go_enter Tryz.func116, Tryz.ntmps116
    go_wp2
    go_loopw [13] (fun i wr => ∃ k : Nat, k ≤ l.length ∧ i = .int .i64 k ∧ Hid (decide (l = r) = decide (l.drop k = r.drop k)) ∧ Below w.heap.size w wr) (fun i _ => l.length - (intOf i).toNat)
    case atStart => exact ⟨0, Nat.zero_le _, rfl, by simp [Hid], by (repeat (first | exact bl_refl | assumption | (apply bl_then; assumption) | refine bl_alloc ?_ _ | refine bl_drew ?_ | refine bl_drewN ?_ _))⟩
    case round =>
      obtain ⟨k, hk, rfl, H, hbw⟩ := hrel
      by_cases hlt : k < l.length
      · have hr := h.below hbw
        have hr' := h'.below hbw
        obtain ⟨b, off, rfl, hb, e0, e1⟩ := hr.knot hlt
        obtain ⟨b', off', rfl, hb', e0', e1'⟩ := hr'.knot (hlen ▸ hlt)
        have HD := Lib.hid (same_drop hlen hlt)
        have hlt' : k < r.length := hlen ▸ hlt
        obtain ⟨g, hg⟩ : ∃ g, beqK l[k].1 l[k].2 r[k].1 r[k].2 = g := ⟨_, rfl⟩
        have hg' : decide (l[k] = r[k]) = g := hg
        cases g
        · go_wp2
          refine wp_region_ords [0, 1, 2, 3, 4, 5, 6, 7, 8] [] [] (by kernel_rfl) (by kernel_rfl) (fun d _ _ _ _ h => by cases d <;> exact h) ?_
          simp only [List.map_cons, List.map_nil, List.getD_cons_zero, List.getD_cons_succ]
          repeat (go_big_quiet_step (fail))
          refine wpQuiet_nil ?_
          refine wpMid_nil ?_
          go_wp2
          go_ret
          exact ⟨ret_bool (by rw [H.out, HD.out, hg']; rfl), by (repeat (first | exact bl_refl | assumption | (apply bl_then; assumption) | refine bl_alloc ?_ _ | refine bl_drew ?_ | refine bl_drewN ?_ _))⟩
        · go_wp2
          refine wp_region_ords [0, 1, 2, 3, 4, 5, 6, 7, 8] [] [] (by kernel_rfl) (by kernel_rfl) (fun d _ _ _ _ h => by cases d <;> exact h) ?_
          simp only [List.map_cons, List.map_nil, List.getD_cons_zero, List.getD_cons_succ]
          repeat (go_big_quiet_step (fail))
          refine wpQuiet_nil ?_
          refine wpMid_nil ?_
          go_wp2
          go_roundw
          case rel => exact ⟨k + 1, by omega, by go_num, by rw [H.out, HD.out, hg']; rfl, by (repeat (first | exact bl_refl | assumption | (apply bl_then; assumption) | refine bl_alloc ?_ _ | refine bl_drew ?_ | refine bl_drewN ?_ _))⟩
          case measure => simp [intOf]; omega
      · have hkl : k = l.length := by omega
        go_wp2
        go_ret
        refine ⟨ret_bool ?_, by (repeat (first | exact bl_refl | assumption | (apply bl_then; assumption) | refine bl_alloc ?_ _ | refine bl_drew ?_ | refine bl_drewN ?_ _))⟩
        rw [H.out, hkl, List.drop_length, hlen, List.drop_length]; rfl
  · have he2 : ((l.length : Int) != (r.length : Int)) = true := by simp; omega
    have hd : Hid (decide (l = r) = false) := by simp [Hid]; rintro rfl; exact hlen rfl
    go_enter Tryz.func116, Tryz.ntmps116
    go_wp2
    go_ret
    exact ⟨ret_bool hd.out.symm, by (repeat (first | exact bl_refl | assumption | (apply bl_then; assumption) | refine bl_alloc ?_ _ | refine bl_drew ?_ | refine bl_drewN ?_ _))⟩

theorem bl_set3 {w W : World} {g : Nat} (h : Below w.heap.size w W) (hg : w.heap.size ≤ g) (a b c : Value) : Below w.heap.size w (((W.setCell ⟨g, 0, none⟩ a).setCell ⟨g, 1, none⟩ b).setCell ⟨g, 2, none⟩ c) := bl_set (bl_set (bl_set h hg _) hg _) hg _
/-! ## the error of a walk -/
def knotsE (l : List Knot) : Int := firstI (l.map fun k => knotE k.1 k.2)
theorem knotsE_drop {l : List Knot} {k : Nat} (hk : k < l.length) : knotsE (l.drop k) = if knotE l[k].1 l[k].2 = 0 then knotsE (l.drop (k + 1)) else knotE l[k].1 l[k].2 := by
  unfold knotsE
  rw [List.drop_eq_getElem_cons hk]; rfl
def adjAll : List Knot → Bool
  | a :: b :: r => adjB a b && adjAll (b :: r)
  | _ => true
theorem adjAll_drop {l : List Knot} {k : Nat} (hk : k + 1 < l.length) : adjAll (l.drop k) = (adjB l[k] l[k + 1] && adjAll (l.drop (k + 1))) := by
  rw [List.drop_eq_getElem_cons (show k < l.length by omega), List.drop_eq_getElem_cons hk]; rfl
theorem adjAll_end {l : List Knot} {k : Nat} (hk : l.length ≤ k + 1) : adjAll (l.drop k) = true := by
  rcases Nat.lt_or_ge k l.length with h | h
  · rw [List.drop_eq_getElem_cons h, List.drop_eq_nil_of_le (by omega)]; rfl
  · rw [List.drop_eq_nil_of_le h]; rfl
/-- the error of a walk -/
def cwE (l : List Knot) : Int := if 4097 < l.length then 5 else if knotsE l = 0 then (if adjAll l then 0 else 2) else knotsE l
theorem knotsE_near {l : List Knot} (h : knotsE l = 0) : ∀ k ∈ l, nearK k ∧ knotE k.1 k.2 = 0 := by
  induction l with
  | nil => simp
  | cons x r ih =>
    have h' : (if knotE x.1 x.2 = 0 then knotsE r else knotE x.1 x.2) = 0 := h
    split at h'
    · rename_i h0
      intro k hk
      rcases List.mem_cons.1 hk with rfl | hk
      · obtain ⟨a1, a2, a3, a4, _⟩ := knotE_zero h0
        exact ⟨⟨by omega, by omega, by omega, by omega⟩, h0⟩
      · exact ih h' k hk
    · rename_i h0; exact absurd h' h0

theorem checkWalk_any {v : Value} (l : List Knot) (w : World) (h : SlK w v l) : Calls Tryz.prog 63 #[v] w (RV w (.int .i64 (cwE l))) := by
  obtain ⟨A, c, rfl, hlc, hcm, h⟩ := h
  have hl : l.length ≤ maxLen := Nat.le_trans hlc hcm
  unfold maxLen at hl
  by_cases hbig : 4097 < l.length
  · have HB : Hid (cwE l = 5) := by unfold Hid cwE; rw [if_pos hbig]
    go_enter Tryz.func63, Tryz.ntmps63
    go_wp2
    go_ret
    exact ⟨ret_int (by rw [HB.out]), by (repeat (first | exact bl_refl | assumption | (apply bl_then; assumption) | refine bl_alloc ?_ _ | refine bl_drew ?_ | refine bl_drewN ?_ _))⟩
  · have HB : Hid (cwE l = if knotsE l = 0 then (if adjAll l then 0 else 2) else knotsE l) := by unfold Hid cwE; rw [if_neg hbig]
    obtain ⟨m, hm⟩ : ∃ m, l.length - 1 = m := ⟨_, rfl⟩
    have hmx : max (0 : Int) ((l.length : Int) - 1) = (m : Int) := by omega
    go_enter Tryz.func63, Tryz.ntmps63
    go_wp2
    go_loopw [14] (fun i wr => ∃ k : Nat, k ≤ l.length ∧ i = .int .i64 k ∧ Hid (knotsE l = knotsE (l.drop k)) ∧ Below w.heap.size w wr) (fun i _ => l.length - (intOf i).toNat)
    case atStart => exact ⟨0, Nat.zero_le _, rfl, rfl, by (repeat (first | exact bl_refl | assumption | (apply bl_then; assumption) | refine bl_alloc ?_ _ | refine bl_drew ?_ | refine bl_drewN ?_ _))⟩
    case round =>
      obtain ⟨k, hk, rfl, H, hbw⟩ := hrel
      by_cases hlt : k < l.length
      · have hr := h.below hbw
        obtain ⟨b, off, rfl, hb, e0, e1⟩ := hr.knot hlt
        have HD := Lib.hid (knotsE_drop hlt)
        by_cases hz : knotE l[k].1 l[k].2 = 0
        · have hz' : (knotE l[k].1 l[k].2 != 0) = false := by simp [hz]
          have HZ := Lib.hid hz
          clear hz
          go_wp2_with (go_at_call 36; refine (nknot_any _ _ _).mono ?_; rintro e w1 ⟨rfl, hb1⟩)
          go_roundw
          case rel => exact ⟨k + 1, by omega, by go_num, by unfold Hid; rw [H.out, HD.out, if_pos HZ.out], by (repeat (first | exact bl_refl | assumption | (apply bl_then; assumption) | refine bl_alloc ?_ _ | refine bl_drew ?_ | refine bl_drewN ?_ _))⟩
          case measure => simp [intOf]; omega
        · have hz' : (knotE l[k].1 l[k].2 != 0) = true := by simpa using hz
          have HZ := Lib.hid hz
          clear hz
          go_wp2_with (go_at_call 36; refine (nknot_any _ _ _).mono ?_; rintro e w1 ⟨rfl, hb1⟩)
          go_ret
          refine ⟨ret_int ?_, by (repeat (first | exact bl_refl | assumption | (apply bl_then; assumption) | refine bl_alloc ?_ _ | refine bl_drew ?_ | refine bl_drewN ?_ _))⟩
          have he : knotsE l = knotE l[k].1 l[k].2 := by rw [H.out, HD.out, if_neg HZ.out]
          rw [HB.out, he, if_neg HZ.out]
      · have hkl : k = l.length := by omega
        have hkz : knotsE l = 0 := by rw [H.out, hkl, List.drop_length]; rfl
        have HN : Hid (∀ k ∈ l, nearK k ∧ knotE k.1 k.2 = 0) := knotsE_near hkz
        have HB2 : Hid (cwE l = if adjAll l then 0 else 2) := by unfold Hid; rw [HB.out, if_pos hkz]
        clear hkz
        obtain ⟨wo, rfl⟩ : ∃ wo : World, wo = wr := ⟨_, rfl⟩
        go_wp2
        go_loopw [28] (fun i wr => ∃ k : Nat, k ≤ m ∧ i = .int .i64 k ∧ Hid (adjAll l = adjAll (l.drop k)) ∧ Below w.heap.size w wr) (fun i _ => m - (intOf i).toNat)
        case atStart => exact ⟨0, Nat.zero_le _, rfl, rfl, hbw⟩
        case round =>
          clear H hlt hkl hk
          obtain ⟨k, hk, rfl, H, hbw⟩ := hrel
          by_cases hlt : k < m
          · have hr := h.below hbw
            have hlt1 : k < l.length := by omega
            have hlt2 : k + 1 < l.length := by omega
            obtain ⟨b, off, rfl, hb, e0, e1⟩ := hr.knot hlt1
            obtain ⟨_, e2, e3⟩ := hr.knotAt hlt2
            have HD := Lib.hid (adjAll_drop hlt2)
            have hnk : nearK (l[k].1, l[k].2) := (HN.out _ (List.getElem_mem hlt1)).1
            obtain ⟨g, hg⟩ : ∃ g, adjB l[k] l[k + 1] = g := ⟨_, rfl⟩
            have hbt := fun W => between_any l[k].1 l[k].2 l[k + 1].1 l[k + 1].2 W hnk
            have hg' : adjB (l[k].1, l[k].2) (l[k + 1].1, l[k + 1].2) = g := hg
            rw [hg'] at hbt
            rw [hg] at HD
            clear hg hg'
            cases g
            · go_wp2
              refine wp_region_tree [0, 1, 2, 3, 4, 5, 6, 7, 8] (.alt (.br 9 (.take 10 (.take 11 (.take 12 (.alt (.br 13 (.alt (.br 14 (.fin) (.stop))) (.stop)))))) (.br 13 (.alt (.br 9 (.take 10 (.take 11 (.take 12 (.alt (.br 14 (.fin) (.stop)))))) (.stop))) (.stop)))) [15] (by kernel_rfl) (by kernel_rfl) (fun d _ _ _ _ h => by cases d <;> exact h) ?_
              simp only [List.map_cons, List.map_nil, List.getD_cons_zero, List.getD_cons_succ]
              repeat (go_big_quiet_step (fail))
              refine wpQuiet_nil ?_
              refine wpTree_alt (wpTree_br rfl rfl ?_ (wpTree_br rfl rfl ?_ wpTree_stop))
              · intro K hK
                go_simp
                refine (hbt _).mono ?_
                rintro e w4 ⟨rfl, hb4⟩
                refine hK _ _ (by (repeat (first | exact bl_refl | assumption | (apply bl_then; assumption) | refine bl_alloc ?_ _ | refine bl_drew ?_ | refine bl_drewN ?_ _))) ?_
                clear hK K
                refine wpTree_take rfl rfl ?_
                intro K hK; simp only [Array.getD_eq_getD_getElem?, List.getElem?_toArray, List.getElem?_cons_succ, List.getElem?_cons_zero, Option.getD_some]; go_big_quiet_op; go_big_quiet_on
                refine wpTree_take rfl rfl ?_
                intro K hK; simp only [Array.getD_eq_getD_getElem?, List.getElem?_toArray, List.getElem?_cons_succ, List.getElem?_cons_zero, Option.getD_some]; go_big_quiet_op; go_big_quiet_on
                refine wpTree_take rfl rfl ?_
                intro K hK; simp only [Array.getD_eq_getD_getElem?, List.getElem?_toArray, List.getElem?_cons_succ, List.getElem?_cons_zero, Option.getD_some]; go_big_quiet_op; go_big_quiet_on
                refine wpTree_alt (wpTree_br rfl rfl ?_ wpTree_stop)
                intro K hK
                go_simp
                refine hK _ _ (by (repeat (first | exact bl_refl | assumption | (apply bl_then; assumption) | refine bl_alloc ?_ _ | refine bl_drew ?_ | refine bl_drewN ?_ _))) ?_
                clear hK K
                refine wpTree_alt (wpTree_br rfl rfl ?_ wpTree_stop)
                intro K hK
                go_simp
                refine hK _ _ (by (repeat (first | exact bl_refl | assumption | (apply bl_then; assumption) | refine bl_alloc ?_ _ | refine bl_drew ?_ | refine bl_drewN ?_ _))) ?_
                clear hK K
                refine wpTree_fin ?_
                go_wp2
                go_ret
                exact ⟨ret_int (by rw [HB2.out, H.out, HD.out]; rfl), by (repeat (first | exact bl_refl | assumption | (apply bl_then; assumption) | refine bl_alloc ?_ _ | refine bl_drew ?_ | refine bl_drewN ?_ _))⟩
              · intro K hK
                go_simp
                refine hK _ _ (by (repeat (first | exact bl_refl | assumption | (apply bl_then; assumption) | refine bl_alloc ?_ _ | refine bl_drew ?_ | refine bl_drewN ?_ _))) ?_
                clear hK K
                refine wpTree_alt (wpTree_br rfl rfl ?_ wpTree_stop)
                intro K hK
                go_simp
                refine (hbt _).mono ?_
                rintro e w4 ⟨rfl, hb4⟩
                refine hK _ _ (by (repeat (first | exact bl_refl | assumption | (apply bl_then; assumption) | refine bl_alloc ?_ _ | refine bl_drew ?_ | refine bl_drewN ?_ _))) ?_
                clear hK K
                have hBb := (Blk.new wr 46 #[.int .i64 0, .int .i64 0, .int .i64 0]).below (bl_d hb4)
                have fBb := hBb.facts
                refine wpTree_take rfl rfl ?_
                intro K hK; simp only [Array.getD_eq_getD_getElem?, List.getElem?_toArray, List.getElem?_cons_succ, List.getElem?_cons_zero, Option.getD_some]; go_big_quiet_op; go_big_quiet_on
                refine wpTree_take rfl rfl ?_
                intro K hK; simp only [Array.getD_eq_getD_getElem?, List.getElem?_toArray, List.getElem?_cons_succ, List.getElem?_cons_zero, Option.getD_some]; go_big_quiet_op; go_big_quiet_on
                refine wpTree_take rfl rfl ?_
                intro K hK; simp only [Array.getD_eq_getD_getElem?, List.getElem?_toArray, List.getElem?_cons_succ, List.getElem?_cons_zero, Option.getD_some]; go_big_quiet_op; go_big_quiet_on
                refine wpTree_alt (wpTree_br rfl rfl ?_ wpTree_stop)
                intro K hK
                go_simp
                refine hK _ _ ?_ ?_
                · exact bl_set3 (by (repeat (first | exact bl_refl | assumption | (apply bl_then; assumption) | refine bl_alloc ?_ _ | refine bl_drew ?_ | refine bl_drewN ?_ _))) (Nat.le_refl _) _ _ _
                clear hK K
                refine wpTree_fin ?_
                go_wp2
                go_ret
                exact ⟨ret_int (by rw [HB2.out, H.out, HD.out]; rfl), bl_set3 (by (repeat (first | exact bl_refl | assumption | (apply bl_then; assumption) | refine bl_alloc ?_ _ | refine bl_drew ?_ | refine bl_drewN ?_ _))) hbw.size _ _ _⟩
            · go_wp2
              refine wp_region_tree [0, 1, 2, 3, 4, 5, 6, 7, 8] (.alt (.br 9 (.take 10 (.take 11 (.take 12 (.alt (.br 13 (.alt (.br 14 (.fin) (.stop))) (.stop)))))) (.br 13 (.alt (.br 9 (.take 10 (.take 11 (.take 12 (.alt (.br 14 (.fin) (.stop)))))) (.stop))) (.stop)))) [15] (by kernel_rfl) (by kernel_rfl) (fun d _ _ _ _ h => by cases d <;> exact h) ?_
              simp only [List.map_cons, List.map_nil, List.getD_cons_zero, List.getD_cons_succ]
              repeat (go_big_quiet_step (fail))
              refine wpQuiet_nil ?_
              refine wpTree_alt (wpTree_br rfl rfl ?_ (wpTree_br rfl rfl ?_ wpTree_stop))
              · intro K hK
                go_simp
                refine (hbt _).mono ?_
                rintro e w4 ⟨rfl, hb4⟩
                refine hK _ _ (by (repeat (first | exact bl_refl | assumption | (apply bl_then; assumption) | refine bl_alloc ?_ _ | refine bl_drew ?_ | refine bl_drewN ?_ _))) ?_
                clear hK K
                refine wpTree_take rfl rfl ?_
                intro K hK; simp only [Array.getD_eq_getD_getElem?, List.getElem?_toArray, List.getElem?_cons_succ, List.getElem?_cons_zero, Option.getD_some]; go_big_quiet_op; go_big_quiet_on
                refine wpTree_take rfl rfl ?_
                intro K hK; simp only [Array.getD_eq_getD_getElem?, List.getElem?_toArray, List.getElem?_cons_succ, List.getElem?_cons_zero, Option.getD_some]; go_big_quiet_op; go_big_quiet_on
                refine wpTree_take rfl rfl ?_
                intro K hK; simp only [Array.getD_eq_getD_getElem?, List.getElem?_toArray, List.getElem?_cons_succ, List.getElem?_cons_zero, Option.getD_some]; go_big_quiet_op; go_big_quiet_on
                refine wpTree_alt (wpTree_br rfl rfl ?_ wpTree_stop)
                intro K hK
                go_simp
                refine hK _ _ (by (repeat (first | exact bl_refl | assumption | (apply bl_then; assumption) | refine bl_alloc ?_ _ | refine bl_drew ?_ | refine bl_drewN ?_ _))) ?_
                clear hK K
                refine wpTree_alt (wpTree_br rfl rfl ?_ wpTree_stop)
                intro K hK
                go_simp
                refine hK _ _ (by (repeat (first | exact bl_refl | assumption | (apply bl_then; assumption) | refine bl_alloc ?_ _ | refine bl_drew ?_ | refine bl_drewN ?_ _))) ?_
                clear hK K
                refine wpTree_fin ?_
                go_wp2
                go_roundw
                case rel => exact ⟨k + 1, by omega, by go_num, by unfold Hid; rw [H.out, HD.out]; rfl, by (repeat (first | exact bl_refl | assumption | (apply bl_then; assumption) | refine bl_alloc ?_ _ | refine bl_drew ?_ | refine bl_drewN ?_ _))⟩
                case measure => simp [intOf]; omega
              · intro K hK
                go_simp
                refine hK _ _ (by (repeat (first | exact bl_refl | assumption | (apply bl_then; assumption) | refine bl_alloc ?_ _ | refine bl_drew ?_ | refine bl_drewN ?_ _))) ?_
                clear hK K
                refine wpTree_alt (wpTree_br rfl rfl ?_ wpTree_stop)
                intro K hK
                go_simp
                refine (hbt _).mono ?_
                rintro e w4 ⟨rfl, hb4⟩
                refine hK _ _ (by (repeat (first | exact bl_refl | assumption | (apply bl_then; assumption) | refine bl_alloc ?_ _ | refine bl_drew ?_ | refine bl_drewN ?_ _))) ?_
                clear hK K
                have hBb := (Blk.new wr 46 #[.int .i64 0, .int .i64 0, .int .i64 0]).below (bl_d hb4)
                have fBb := hBb.facts
                refine wpTree_take rfl rfl ?_
                intro K hK; simp only [Array.getD_eq_getD_getElem?, List.getElem?_toArray, List.getElem?_cons_succ, List.getElem?_cons_zero, Option.getD_some]; go_big_quiet_op; go_big_quiet_on
                refine wpTree_take rfl rfl ?_
                intro K hK; simp only [Array.getD_eq_getD_getElem?, List.getElem?_toArray, List.getElem?_cons_succ, List.getElem?_cons_zero, Option.getD_some]; go_big_quiet_op; go_big_quiet_on
                refine wpTree_take rfl rfl ?_
                intro K hK; simp only [Array.getD_eq_getD_getElem?, List.getElem?_toArray, List.getElem?_cons_succ, List.getElem?_cons_zero, Option.getD_some]; go_big_quiet_op; go_big_quiet_on
                refine wpTree_alt (wpTree_br rfl rfl ?_ wpTree_stop)
                intro K hK
                go_simp
                refine hK _ _ ?_ ?_
                · exact bl_set3 (by (repeat (first | exact bl_refl | assumption | (apply bl_then; assumption) | refine bl_alloc ?_ _ | refine bl_drew ?_ | refine bl_drewN ?_ _))) (Nat.le_refl _) _ _ _
                clear hK K
                refine wpTree_fin ?_
                go_wp2
                go_roundw
                case rel => exact ⟨k + 1, by omega, by go_num, by unfold Hid; rw [H.out, HD.out]; rfl, bl_set3 (by (repeat (first | exact bl_refl | assumption | (apply bl_then; assumption) | refine bl_alloc ?_ _ | refine bl_drew ?_ | refine bl_drewN ?_ _))) hbw.size _ _ _⟩
                case measure => simp [intOf]; omega
          · have hkm : k = m := by omega
            have hA := Lib.hid (adjAll_end (l := l) (k := k) (by omega))
            go_wp2
            go_ret
            exact ⟨ret_int (by rw [HB2.out, H.out, hA.out]; rfl), by (repeat (first | exact bl_refl | assumption | (apply bl_then; assumption) | refine bl_alloc ?_ _ | refine bl_drew ?_ | refine bl_drewN ?_ _))⟩
end Go.Proofs.YtpompeancmonbaaGreat

/- Bars and knots told apart, as values and as keys of maps. Conditions: none. -/
import Derived.Test.YtpoaomdpcoaolaaC02
import Derived.Test.YtpoaomdpcoaolaaC01
import Derived.RangeFuncNested
import Derived.RangeFuncBound
import Derived.RangeFuncCalls
import Derived.RangeFuncLeaves
import Derived.RangeFuncBox
import Derived.OwnWalkIn
import Derived.TacticsInMore
import Derived.LoopNIn
import Derived.LoopIn
namespace Go.Proofs.Ytpoaomdpcoaolaa
open Go.RowKit
set_option maxHeartbeats 400000

abbrev bv (x y s : Int) : Value := .agg #[.int .i64 x, .int .i64 y, .int .i64 s]
abbrev kv (x y : Int) : Value := .agg #[.int .i64 x, .int .i64 y]
def bk (b : Bar) : Value := .agg #[.int .i64 b.1, .int .i64 b.2.1, .int .i64 b.2.2]
def kk (k : Knot) : Value := .agg #[.int .i64 k.1, .int .i64 k.2]
def beqB (x y s x' y' s' : Int) : Bool := decide ((x, y, s) = (x', y', s'))
def beqK (x y x' y' : Int) : Bool := decide ((x, y) = (x', y'))
theorem beqB_true {x y s x' y' s' : Int} : beqB x y s x' y' s' = true ↔ (x, y, s) = (x', y', s') := by simp [beqB]
theorem beqK_true {x y x' y' : Int} : beqK x y x' y' = true ↔ (x, y) = (x', y') := by simp [beqK]
theorem beqB_bar (a b : Bar) : beqB a.1 a.2.1 a.2.2 b.1 b.2.1 b.2.2 = decide (a = b) := rfl
theorem beqK_knot (a b : Knot) : beqK a.1 a.2 b.1 b.2 = decide (a = b) := rfl

theorem eqin_bar (d : Nat) (x y s x' y' s' : Int) (w : World) : (Op.equalIn (d + 2) 50 (.agg #[.int .i64 x, .int .i64 y, .int .i64 s]) (.agg #[.int .i64 x', .int .i64 y', .int .i64 s'])).run Try.prog w = .ok (beqB x y s x' y' s') w := by
  rw [run_equalIn_struct w (d + 1) 50 _ _ (by kernel_rfl) (by kernel_rfl)]
  unfold beqB
  by_cases h1 : x = x' <;> by_cases h2 : y = y' <;> by_cases h3 : s = s' <;> simp [go_sem, h1, h2, h3]
theorem eqin_knot (d : Nat) (x y x' y' : Int) (w : World) : (Op.equalIn (d + 2) 30 (.agg #[.int .i64 x, .int .i64 y]) (.agg #[.int .i64 x', .int .i64 y'])).run Try.prog w = .ok (beqK x y x' y') w := by
  rw [run_equalIn_struct w (d + 1) 30 _ _ (by kernel_rfl) (by kernel_rfl)]
  unfold beqK
  by_cases h1 : x = x' <;> by_cases h2 : y = y' <;> simp [go_sem, h1, h2]
@[go_sem high] theorem eql_bar (x y s x' y' s' : Int) (w : World) : (binOp .eql 50 (.agg #[.int .i64 x, .int .i64 y, .int .i64 s]) (.agg #[.int .i64 x', .int .i64 y', .int .i64 s'])).run Try.prog w = .ok (.bool (beqB x y s x' y' s')) w := by
  simp only [binOp]
  simp [Op.equal, Op.maxDepth, eqin_bar 9998]
@[go_sem high] theorem eql_knot (x y x' y' : Int) (w : World) : (binOp .eql 30 (.agg #[.int .i64 x, .int .i64 y]) (.agg #[.int .i64 x', .int .i64 y'])).run Try.prog w = .ok (.bool (beqK x y x' y')) w := by
  simp only [binOp]
  simp [Op.equal, Op.maxDepth, eqin_knot 9998]
@[go_sem high] theorem neq_bar (x y s x' y' s' : Int) (w : World) : (binOp .neq 50 (.agg #[.int .i64 x, .int .i64 y, .int .i64 s]) (.agg #[.int .i64 x', .int .i64 y', .int .i64 s'])).run Try.prog w = .ok (.bool (!beqB x y s x' y' s')) w := by
  simp only [binOp]
  simp [Op.equal, Op.maxDepth, eqin_bar 9998]
@[go_sem high] theorem neq_knot (x y x' y' : Int) (w : World) : (binOp .neq 30 (.agg #[.int .i64 x, .int .i64 y]) (.agg #[.int .i64 x', .int .i64 y'])).run Try.prog w = .ok (.bool (!beqK x y x' y')) w := by
  simp only [binOp]
  simp [Op.equal, Op.maxDepth, eqin_knot 9998]

theorem ck_bar (e : Bool) (n : Nat) (x y s : Int) (w : World) : (Instr.checkKey e (n + 2) 50 (.agg #[.int .i64 x, .int .i64 y, .int .i64 s])).run Try.prog w = .ok () w := by
  have h : Try.prog.underlying 50 = some (.struct (Try.prog.fieldsOf 50)) := by kernel_rfl
  rw [Instr.checkKey]
  simp only [Sem.run_bind, run_underlying h, Result.andThen_ok]
  simp [Instr.checkKey, go_sem]
theorem ck_knot (e : Bool) (n : Nat) (x y : Int) (w : World) : (Instr.checkKey e (n + 2) 30 (.agg #[.int .i64 x, .int .i64 y])).run Try.prog w = .ok () w := by
  have h : Try.prog.underlying 30 = some (.struct (Try.prog.fieldsOf 30)) := by kernel_rfl
  rw [Instr.checkKey]
  simp only [Sem.run_bind, run_underlying h, Result.andThen_ok]
  simp [Instr.checkKey, go_sem]
theorem bar_key : KeyLaw Try.prog 50 bk where
  und := ⟨.struct (Try.prog.fieldsOf 50), by kernel_rfl, fun _ _ => rfl⟩
  eq a b w := by
    unfold Op.equal Op.maxDepth bk
    exact eqin_bar 9998 _ _ _ _ _ _ w
  ok e a w := by
    exact ck_bar e 9998 _ _ _ w
  same a := by simp [Instr.sameBits, bk]
theorem knot_key : KeyLaw Try.prog 30 kk where
  und := ⟨.struct (Try.prog.fieldsOf 30), by kernel_rfl, fun _ _ => rfl⟩
  eq a b w := by
    unfold Op.equal Op.maxDepth kk
    exact eqin_knot 9998 _ _ _ _ w
  ok e a w := by
    exact ck_knot e 9998 _ _ w
  same a := by simp [Instr.sameBits, kk]
end Go.Proofs.Ytpoaomdpcoaolaa

/- The arms of a knot, which of them are missing, and what turns when a bar is added or taken away: plain. Conditions: a bar's side is 1 or -1. -/
namespace Go.Proofs.Ytpoaomdpcoaolaa

abbrev Legs := Bool × Bool × Bool × Bool
def armB (k : Knot) : Nat → Bar
  | 0 => (k.1, k.2, -1)
  | 1 => (k.1, k.2, 1)
  | 2 => (k.1 - 1, k.2 - 1, 1)
  | _ => (k.1 + 1, k.2 - 1, -1)
def armK (k : Knot) : Nat → Knot
  | 0 => (k.1 - 1, k.2 + 1)
  | 1 => (k.1 + 1, k.2 + 1)
  | 2 => (k.1 - 1, k.2 - 1)
  | _ => (k.1 + 1, k.2 - 1)
def lowK (b : Bar) : Knot := (b.1, b.2.1)
def uppK (b : Bar) : Knot := (b.1 + b.2.2, b.2.1 + 1)
/-- a bar's side is one of the two -/
def Sided (b : Bar) : Prop := b.2.2 = 1 ∨ b.2.2 = -1
def legsAt (D : List Bar) (k : Knot) : Legs := (decide (armB k 0 ∈ D), decide (armB k 1 ∈ D), decide (armB k 2 ∈ D), decide (armB k 3 ∈ D))
def noLegs : Legs := (false, false, false, false)
def cnt (l : Legs) : Nat := l.1.toNat + l.2.1.toNat + l.2.2.1.toNat + l.2.2.2.toNat
def lget (l : Legs) : Nat → Bool
  | 0 => l.1
  | 1 => l.2.1
  | 2 => l.2.2.1
  | _ => l.2.2.2
def legsO (D : List Bar) (k : Knot) : Option Legs := if legsAt D k = noLegs then none else some (legsAt D k)

theorem cnt_zero {l : Legs} : cnt l = 0 ↔ l = noLegs := by
  obtain ⟨a, b, c, d⟩ := l
  revert a b c d; decide
theorem cnt_le (l : Legs) : cnt l ≤ 4 := by
  obtain ⟨a, b, c, d⟩ := l
  revert a b c d; decide
theorem legsO_getD (D : List Bar) (k : Knot) : (legsO D k).getD noLegs = legsAt D k := by
  unfold legsO
  split
  · rename_i h; simp [h]
  · rfl

theorem armB_end {b : Bar} {k : Knot} {a : Nat} (h : armB k a = b) : k = lowK b ∨ k = uppK b := by
  subst h
  match a with
  | 0 => left; rfl
  | 1 => left; rfl
  | 2 => right; simp [armB, uppK]
  | n + 3 => right; simp only [armB, uppK]; ext <;> simp <;> omega
/-- the bars: b is put in, or taken out -/
def dset (D : List Bar) (b : Bar) (m : Bool) : List Bar := if m then (if b ∈ D then D else D ++ [b]) else D.erase b
theorem dset_mem {D : List Bar} (hn : D.Nodup) (b x : Bar) (m : Bool) : x ∈ dset D b m ↔ if x = b then m = true else x ∈ D := by
  unfold dset
  cases m
  · simp only [Bool.false_eq_true, if_false]
    rw [hn.mem_erase_iff]
    by_cases h : x = b <;> simp [h]
  · simp only [if_true]
    by_cases hb : b ∈ D
    · rw [if_pos hb]
      by_cases h : x = b
      · subst h; simp [hb]
      · simp [h]
    · rw [if_neg hb]
      by_cases h : x = b <;> simp [h]
theorem dset_nodup {D : List Bar} (hn : D.Nodup) (b : Bar) (m : Bool) : (dset D b m).Nodup := by
  unfold dset
  cases m
  · exact hn.erase b
  · simp only [if_true]
    split
    · exact hn
    · rename_i h
      rw [List.nodup_append]
      exact ⟨hn, by simp, fun x hx y hy => by
        obtain rfl : y = b := by simpa using hy
        rintro rfl; exact h hx⟩
/-- the legs of a knot with the arms that are b set to m, the first j of them -/
def lupd (k : Knot) (b : Bar) (m : Bool) (j : Nat) (l : Legs) : Legs :=
  (if 0 < j ∧ armB k 0 = b then m else l.1, if 1 < j ∧ armB k 1 = b then m else l.2.1, if 2 < j ∧ armB k 2 = b then m else l.2.2.1, if 3 < j ∧ armB k 3 = b then m else l.2.2.2)
theorem lupd_zero (k : Knot) (b : Bar) (m : Bool) (l : Legs) : lupd k b m 0 l = l := by simp [lupd]
theorem lupd_four {D : List Bar} (hn : D.Nodup) (k : Knot) (b : Bar) (m : Bool) : lupd k b m 4 (legsAt D k) = legsAt (dset D b m) k := by
  unfold lupd legsAt
  have key : ∀ a, (if armB k a = b then m else decide (armB k a ∈ D)) = decide (armB k a ∈ dset D b m) := by
    intro a
    rw [Bool.eq_iff_iff, decide_eq_true_eq, dset_mem hn]
    by_cases h : armB k a = b <;> simp [h]
  simp only [show (0 : Nat) < 4 by omega, show (1 : Nat) < 4 by omega, show (2 : Nat) < 4 by omega, show (3 : Nat) < 4 by omega, true_and, key]
theorem legsAt_other {D : List Bar} (hn : D.Nodup) {b : Bar} {k : Knot} (h1 : k ≠ lowK b) (h2 : k ≠ uppK b) (m : Bool) : legsAt (dset D b m) k = legsAt D k := by
  unfold legsAt
  have key : ∀ a, decide (armB k a ∈ dset D b m) = decide (armB k a ∈ D) := by
    intro a
    rw [Bool.eq_iff_iff, decide_eq_true_eq, decide_eq_true_eq, dset_mem hn]
    have : armB k a ≠ b := fun e => by rcases armB_end e with h | h <;> contradiction
    simp [this]
  simp only [key]
theorem low_ne_upp (b : Bar) : lowK b ≠ uppK b := by
  intro h
  have := congrArg Prod.snd h
  simp [lowK, uppK] at this
  omega
end Go.Proofs.Ytpoaomdpcoaolaa

/- A region that draws its order and holds several operations that may come in more than one order: reads are taken, then each order is gone, as a tree. Conditions: the Bool 'treeB' over the region. -/
namespace Go.Proofs.Ytpoaomdpcoaolaa
open Go.RowKit

/-- fin: what is left, in its one order; take: a read; alt: one of several, each a 'br' with what comes behind it -/
inductive OT where
  | fin | stop
  | take (i : Nat) (t : OT)
  | alt (b : OT)
  | br (i : Nat) (t r : OT)
def OT.heads : OT → List Nat
  | .br i _ r => i :: r.heads
  | _ => []
def OT.node : OT → Bool
  | .fin | .take .. | .alt _ => true
  | _ => false

section
variable {P : Program} {ops : Array Oper} {Q : Exit → Act → World → Prop} {md : Region.Mode} {C : World → Prop}

def wpTree (P : Program) (ops : Array Oper) (Q : Exit → Act → World → Prop) (C : World → Prop) (post : List Oper) : OT → Act → World → Prop
  | .fin, a, w => wpList P ops Q post a w
  | .stop, _, _ => True
  | .take i t, a, w => if Region.wanted (ops.getD i default) (yielded ops a.tmps) then (ops.getD i default).quiet P a C (fun a' => wpTree P ops Q C post t a' w) else wpTree P ops Q C post t (a.put (ops.getD i default).dst undef) w
  | .alt b, a, w => wpTree P ops Q C post b a w
  | .br i t r, a, w => (if Region.wanted (ops.getD i default) (yielded ops a.tmps) then (ops.getD i default).wp P a w (fun a' w' => C w' ∧ wpTree P ops Q C post t a' w') Q else wpTree P ops Q C post t (a.put (ops.getD i default).dst undef) w) ∧ wpTree P ops Q C post r a w

def treeOk (md : Region.Mode) (ops : Array Oper) (post : List Nat) : OT → Nat → Array Bool → Bool
  | .fin, n, listed => decide (n = post.length) && seqOne md ops post listed
  | .stop, _, _ => true
  | .take i t, n, listed => match n with | 0 => false | n + 1 => t.node && takeB md ops post i listed && treeOk md ops post t n (listed.setIfInBounds i true)
  | .alt b, n, listed => !(Region.ready md ops listed).isEmpty && ((Region.ready md ops listed).all fun j => b.heads.contains j) && treeOk md ops post b n listed
  | .br i t r, n, listed => match n with | 0 => false | k + 1 => (!(Region.ready md ops listed).contains i || (t.node && treeOk md ops post t k (listed.setIfInBounds i true))) && treeOk md ops post r n listed

theorem tree_go {post : List Nat} (hs : Region.noSelect ops = true) (hQ : ∀ d c a v w, Q (.panic c) (Act.put a d v) w → Q (.panic c) a w) :
    ∀ (T : OT) (n : Nat) (listed : Array Bool) (a : Act) (w : World), Closed md ops listed → C w → treeOk md ops post T n listed = true → wpTree P ops Q C (post.map fun i => ops.getD i default) T a w →
      (T.node = true → wpAnyG P md ops Q C (fun j => !post.contains j) n listed a w) ∧
      (∀ j ∈ T.heads, j ∈ Region.ready md ops listed → ∃ k, n = k + 1 ∧ wpOp P ops Q j (fun a' w' => ((fun j => !post.contains j) j = true → C w') ∧ wpAnyG P md ops Q C (fun j => !post.contains j) k (listed.setIfInBounds j true) a' w') a w)
  | .fin, n, listed, a, w, hcl, hC, hB, h => by
    simp only [treeOk, Bool.and_eq_true, decide_eq_true_eq] at hB
    refine ⟨fun _ => ?_, fun j hj => by simp [OT.heads] at hj⟩
    rw [hB.1]
    exact wpAnyG_one post listed a w (fun i hi => by simp [hi]) hB.2 h
  | .stop, n, listed, a, w, _, _, _, _ => ⟨fun h => by simp [OT.node] at h, fun j hj => by simp [OT.heads] at hj⟩
  | .take i t, n, listed, a, w, hcl, hC, hB, h => by
    refine ⟨fun _ => ?_, fun j hj => by simp [OT.heads] at hj⟩
    cases n with
    | zero => simp [treeOk] at hB
    | succ n =>
      simp only [treeOk, Bool.and_eq_true] at hB
      exact wpAnyG_take (post := post) hs hQ hC (o := ops.getD i default) rfl hcl hB.1.2 (fun a' => wpTree P ops Q C (post.map fun i => ops.getD i default) t a' w)
        (fun v h' => (tree_go hs hQ t n _ _ w (hcl.set (takeB_ready hB.1.2)) hC hB.2 h').1 hB.1.1) h
  | .alt b, n, listed, a, w, hcl, hC, hB, h => by
    refine ⟨fun _ => ?_, fun j hj => by simp [OT.heads] at hj⟩
    simp only [treeOk, Bool.and_eq_true, Bool.not_eq_true'] at hB
    have ih := (tree_go hs hQ b n listed a w hcl hC hB.2 h).2
    have hall := List.all_eq_true.1 hB.1.2
    cases n with
    | zero =>
      cases hr : Region.ready md ops listed with
      | nil => rw [hr] at hB; simp at hB
      | cons j l =>
        have hj : j ∈ Region.ready md ops listed := by rw [hr]; simp
        obtain ⟨k, hk, _⟩ := ih j (by simpa using hall j hj) hj
        omega
    | succ n =>
      refine ⟨fun h0 => (by rw [h0] at hB; simp at hB), fun j hj => ?_⟩
      obtain ⟨k, hk, h2⟩ := ih j (by simpa using hall j hj) hj
      obtain rfl : n = k := by omega
      exact h2
  | .br i t r, n, listed, a, w, hcl, hC, hB, h => by
    refine ⟨fun h => by simp [OT.node] at h, fun j hj hjr => ?_⟩
    cases n with
    | zero => simp [treeOk] at hB
    | succ n =>
      simp only [treeOk, Bool.and_eq_true] at hB
      simp only [OT.heads, List.mem_cons] at hj
      rcases hj with rfl | hj
      · refine ⟨n, rfl, ?_⟩
        have hb : t.node = true ∧ treeOk md ops post t n (listed.setIfInBounds j true) = true := by
          have := hB.1
          rw [Bool.or_eq_true] at this
          rcases this with h1 | h1
          · exfalso
            have : (Region.ready md ops listed).contains j = true := by simpa using hjr
            rw [this] at h1; simp at h1
          · simpa using h1
        obtain ⟨_, o, ho, _⟩ := mem_ready.1 hjr
        have hg : ops.getD j default = o := by simp [ho]
        have h1 := h.1
        rw [hg] at h1
        unfold wpOp
        simp only [ho]
        split
        · rename_i hw
          rw [if_pos hw] at h1
          exact .inl (Oper.wp_mono (fun a' w' h' => ⟨fun _ => h'.1, (tree_go hs hQ t n _ a' w' (hcl.set hjr) h'.1 hb.2 h'.2).1 hb.1⟩) h1)
        · rename_i hw
          rw [if_neg hw] at h1
          exact ⟨fun _ => hC, (tree_go hs hQ t n _ _ w (hcl.set hjr) hC hb.2 h1).1 hb.1⟩
      · exact (tree_go hs hQ r (n + 1) listed a w hcl hC hB.2 h.2).2 j hj hjr

def treePre (md : Region.Mode) (ops : Array Oper) (T : OT) (n : Nat) (post : List Nat) : List Nat → Array Bool → Bool
  | [], listed => T.node && treeOk md ops post T n listed
  | i :: r, listed => takeB md ops post i listed && treePre md ops T n post r (listed.setIfInBounds i true)
def treeB (md : Region.Mode) (ops : Array Oper) (pre : List Nat) (T : OT) (post : List Nat) : Bool :=
  Region.noSelect ops && decide (pre.length ≤ ops.size) && treePre md ops T (ops.size - pre.length) post pre (Array.replicate ops.size false)

theorem tree_pre {T : OT} {n : Nat} {post : List Nat} (hs : Region.noSelect ops = true) (hQ : ∀ d c a v w, Q (.panic c) (Act.put a d v) w → Q (.panic c) a w) {w : World} (hC : C w) :
    ∀ (pre : List Nat) (listed : Array Bool) (a : Act), Closed md ops listed → treePre md ops T n post pre listed = true →
    wpQuiet P ops C (fun a' => wpTree P ops Q C (post.map fun i => ops.getD i default) T a' w) (pre.map fun i => ops.getD i default) a →
    wpAnyG P md ops Q C (fun j => !post.contains j) (pre.length + n) listed a w
  | [], listed, a, hcl, hB, h => by
    rw [List.length_nil, Nat.zero_add]
    simp only [treePre, Bool.and_eq_true] at hB
    exact (tree_go hs hQ T n listed a w hcl hC hB.2 h).1 hB.1
  | i :: r, listed, a, hcl, hB, h => by
    rw [List.length_cons, show r.length + 1 + n = (r.length + n) + 1 by omega]
    simp only [treePre, Bool.and_eq_true] at hB
    simp only [List.map_cons] at h
    unfold wpQuiet at h
    exact wpAnyG_take (post := post) hs hQ hC (o := ops.getD i default) rfl hcl hB.1 (fun a' => wpQuiet P ops C (fun a' => wpTree P ops Q C (post.map fun i => ops.getD i default) T a' w) (r.map fun i => ops.getD i default) a')
      (fun v h' => tree_pre hs hQ hC r _ _ (hcl.set (takeB_ready hB.1)) hB.2 h') h

theorem wp_region_tree {id : Nat} {a : Act} {w : World} {l : List Oper} (pre : List Nat) (T : OT) (post : List Nat) (hm : P.follows .mixedOrders = true) (hB : treeB .any l.toArray pre T post = true)
    (hQ : ∀ d c a v w, Q (.panic c) (Act.put a d v) w → Q (.panic c) a w)
    (h : wpQuiet P l.toArray (fun w' => ∃ g : Bel w.heap.size w, w' = g.val) (fun a' => wpTree P l.toArray Q (fun w' => ∃ g : Bel w.heap.size w, w' = g.val) (post.map fun i => l.getD i default) T a' w.drew) (pre.map fun i => l.getD i default) a) :
    (Code.region id l.toArray true).wp P Q a w := by
  simp only [treeB, Bool.and_eq_true, decide_eq_true_eq] at hB
  obtain ⟨⟨hs, hn⟩, hB'⟩ := hB
  refine wp_region_any hm (wpAny_of_G (C := fun w' => ∃ g : Bel w.heap.size w, w' = g.val) (kp := fun j => !post.contains j) _ _ _ _ ?_)
  have hn' : pre.length + (l.toArray.size - pre.length) = l.toArray.size := by omega
  have e : ∀ (xs : List Nat), (xs.map fun i => l.toArray.getD i default) = xs.map fun i => l.getD i default := fun xs => List.map_congr_left fun i _ => by simp [Array.getD_eq_getD_getElem?, List.getD_eq_getElem?_getD]
  have := tree_pre (C := fun w' => ∃ g : Bel w.heap.size w, w' = g.val) hs hQ (Bel.ex (Below.refl w.heap.size w).drew) pre _ a (Closed.start _) hB' (by rw [e, e]; exact h)
  rw [hn'] at this
  exact this

variable {B : Nat} {w0 w : World} {post : List Oper} {a : Act} {t r b : OT} {i : Nat}
theorem wpTree_fin (h : wpList P ops Q post a w) : wpTree P ops Q C post .fin a w := h
theorem wpTree_alt (h : wpTree P ops Q C post b a w) : wpTree P ops Q C post (.alt b) a w := h
theorem wpTree_stop : wpTree P ops Q C post .stop a w := trivial
theorem wpTree_br {o : Oper} (ho : ops.getD i default = o) (hw : Region.wanted o (yielded ops a.tmps) = true)
    (h : ∀ K : Act → World → Prop, (∀ a w', Below B w0 w' → wpTree P ops Q (fun w' => ∃ g : Bel B w0, w' = g.val) post t a w' → K a w') → o.wp P a w K Q) (h2 : wpTree P ops Q (fun w' => ∃ g : Bel B w0, w' = g.val) post r a w) :
    wpTree P ops Q (fun w' => ∃ g : Bel B w0, w' = g.val) post (.br i t r) a w := by
  subst ho
  have := h (fun a' w' => (∃ g : Bel B w0, w' = g.val) ∧ wpTree P ops Q (fun w' => ∃ g : Bel B w0, w' = g.val) post t a' w') (fun a w h1 h2 => ⟨Bel.ex h1, h2⟩)
  refine ⟨?_, h2⟩
  rw [if_pos hw]
  exact this
theorem wpTree_skip {o : Oper} (ho : ops.getD i default = o) (hw : Region.wanted o (yielded ops a.tmps) = false) (h : ∀ K : Act → Prop, (∀ a, wpTree P ops Q C post t a w → K a) → K (a.put o.dst undef)) (h2 : wpTree P ops Q C post r a w) :
    wpTree P ops Q C post (.br i t r) a w := by
  subst ho
  refine ⟨?_, h2⟩
  rw [if_neg (by rw [hw]; simp)]
  exact h _ fun a h => h
theorem wpTree_skipT {o : Oper} (ho : ops.getD i default = o) (hw : Region.wanted o (yielded ops a.tmps) = false) (h : ∀ K : Act → Prop, (∀ a, wpTree P ops Q C post t a w → K a) → K (a.put o.dst undef)) :
    wpTree P ops Q C post (.take i t) a w := by
  subst ho
  unfold wpTree
  rw [if_neg (by rw [hw]; simp)]
  exact h _ fun a h => h
theorem wpTree_take {o : Oper} (ho : ops.getD i default = o) (hw : Region.wanted o (yielded ops a.tmps) = true) (h : ∀ K : Act → Prop, (∀ a, wpTree P ops Q C post t a w → K a) → o.quiet P a C K) : wpTree P ops Q C post (.take i t) a w := by
  subst ho
  unfold wpTree
  rw [if_pos hw]
  exact h _ fun a h => h
end
attribute [irreducible] wpTree
end Go.Proofs.Ytpoaomdpcoaolaa

/- A region that draws its order and holds several operations that may come in more than one order, none of which writes what was there: reads are taken, then a fact is shown of each operation's result, whatever came before, then what waits for all of these, as a plain list. Conditions: the Bool 'factsB' over the region. -/
namespace Go.Proofs.Ytpoaomdpcoaolaa
open Go.RowKit

section
variable {P : Program} {ops : Array Oper} {Q : Exit → Act → World → Prop} {md : Region.Mode} {B : Nat} {w0 : World} {a0 : Act} {F : Nat → Value → World → Prop}

def putAll (ops : Array Oper) (vals : Nat → Value) : List Nat → Act → Act
  | [], a => a
  | i :: r, a => putAll ops vals r (a.put (ops.getD i default).dst (vals i))

theorem put_comm (a : Act) {d e : Option Tmp} (h : d = none ∨ d ≠ e) (u v : Value) : (a.put d u).put e v = (a.put e v).put d u := by
  cases d with
  | none => rfl
  | some d =>
    cases e with
    | none => rfl
    | some e =>
      have hde : d ≠ e := by rcases h with h | h
                             · cases h
                             · simpa using h
      simp only [Act.put]
      rw [Array.setIfInBounds_comm _ _ hde]
theorem put_put (a : Act) (d : Option Tmp) (u v : Value) : (a.put d u).put d v = a.put d v := by
  cases d with
  | none => rfl
  | some d => simp [Act.put]
theorem put_self (a : Act) (d : Option Tmp) : a.put d (match d with | some d => a.tmps.getD d undef | none => undef) = a := by
  cases d with
  | none => rfl
  | some d =>
    simp only [Act.put]
    have : a.tmps.setIfInBounds d (a.tmps.getD d undef) = a.tmps := by
      apply Array.ext
      · simp
      · intro i h1 h2
        rw [Array.getElem_setIfInBounds (by simpa using h1)]
        split
        · rename_i h; subst h; simp [Array.getD_eq_getD_getElem?, h2]
        · rfl
    rw [this]
def upd (vals : Nat → Value) (i : Nat) (u : Value) : Nat → Value := fun j => if j = i then u else vals j
/-- the results lie in different slots -/
def apartB (ops : Array Oper) : List Nat → Bool
  | [] => true
  | i :: r => r.all (fun j => !(i == j) && ((ops.getD i default).dst.isNone || !((ops.getD i default).dst == (ops.getD j default).dst))) && apartB ops r
theorem putAll_put {vals : Nat → Value} : ∀ (ms : List Nat) (a : Act) (d : Option Tmp) (u : Value), (∀ j ∈ ms, d = none ∨ d ≠ (ops.getD j default).dst) → (putAll ops vals ms a).put d u = putAll ops vals ms (a.put d u)
  | [], _, _, _, _ => rfl
  | j :: r, a, d, u, h => by
    simp only [putAll]
    rw [putAll_put r _ d u (fun k hk => h k (by simp [hk]))]
    congr 1
    have := h j (by simp)
    rcases this with h1 | h1
    · subst h1; rfl
    · exact (put_comm a (.inr h1) u _).symm
theorem putAll_same {vals vals' : Nat → Value} : ∀ (ms : List Nat) (a : Act), (∀ j ∈ ms, vals j = vals' j) → putAll ops vals ms a = putAll ops vals' ms a
  | [], _, _ => rfl
  | j :: r, a, h => by
    simp only [putAll]
    rw [h j (by simp), putAll_same r _ (fun k hk => h k (by simp [hk]))]
theorem putAll_upd {vals : Nat → Value} : ∀ (ms : List Nat) (a : Act) (i : Nat) (u : Value), apartB ops ms = true → i ∈ ms → (putAll ops vals ms a).put (ops.getD i default).dst u = putAll ops (upd vals i u) ms a
  | [], _, _, _, _, h => by cases h
  | j :: r, a, i, u, hA, hi => by
    simp only [apartB, Bool.and_eq_true] at hA
    have hall := List.all_eq_true.1 hA.1
    by_cases hij : i = j
    · subst hij
      have hni : ∀ k ∈ r, i ≠ k := fun k hk e => by
        have := hall k hk
        subst e
        simp at this
      simp only [putAll]
      rw [putAll_put r _ _ u (fun k hk => by
        have := hall k hk
        simp only [Bool.and_eq_true, Bool.or_eq_true] at this
        rcases this.2 with h | h
        · exact .inl (by simpa using h)
        · exact .inr (by simpa using h))]
      rw [put_put, show upd vals i u i = u by simp [upd]]
      exact putAll_same r _ fun k hk => by simp [upd, (hni k hk).symm]
    · have hir : i ∈ r := by simpa [hij] using hi
      simp only [putAll]
      rw [putAll_upd r _ i u hA.2 hir, show upd vals i u j = vals j by simp [upd, Ne.symm hij]]
theorem putAll_self : ∀ (ms : List Nat) (a : Act), putAll ops (fun i => match (ops.getD i default).dst with | some d => a.tmps.getD d undef | none => undef) ms a = a
  | [], _ => rfl
  | i :: r, a => by
    simp only [putAll]
    rw [put_self]
    exact putAll_self r a

/-- from here on only ms come up, in whatever order, then post -/
def factsOk (md : Region.Mode) (ops : Array Oper) (ms post : List Nat) : Nat → Array Bool → Bool
  | 0, listed => (ms.all fun j => listed.getD j false) && seqOne md ops post listed
  | n + 1, listed => !(Region.ready md ops listed).isEmpty && (Region.ready md ops listed).all fun j => ms.contains j && !post.contains j && factsOk md ops ms post n (listed.setIfInBounds j true)
/-- what i waits for among ms -/
def waitFor (md : Region.Mode) (ops : Array Oper) (ms : List Nat) (i : Nat) : List Nat := ms.filter fun j => waitsN md ops ops.size i j

/-- the allocations D hand back pointers to new blocks -/
def New (D : List Nat) (i : Nat) (u : Value) (W W' : World) : Prop := i ∈ D → ∃ g, u = .pointer (some ⟨g, 0, none⟩) ∧ W.heap.size ≤ g ∧ g < W'.heap.size
def Apart (D : List Nat) (vals : Nat → Value) (w0 W : World) : Prop := (∀ j ∈ D, ∃ g, vals j = .pointer (some ⟨g, 0, none⟩) ∧ w0.heap.size ≤ g ∧ g < W.heap.size) ∧ ∀ i ∈ D, ∀ j ∈ D, i ≠ j → vals i ≠ vals j

theorem Apart.step {D : List Nat} {vals : Nat → Value} {w0 W W' : World} {listed : Array Bool} {i : Nat} {u : Value} (hs : w0.heap.size ≤ W.heap.size) (hs' : W.heap.size ≤ W'.heap.size) (h : Apart (D.filter fun j => listed.getD j false) vals w0 W) (hn : New D i u W W') :
    Apart (D.filter fun j => (listed.setIfInBounds i true).getD j false) (upd vals i u) w0 W' := by
  obtain ⟨h1, h2⟩ := h
  have old : ∀ j, j ∈ D.filter (fun j => (listed.setIfInBounds i true).getD j false) → j ≠ i → j ∈ D.filter fun j => listed.getD j false := fun j hj hji => by
    simp only [List.mem_filter] at hj ⊢
    rw [getD_set_ne false (Ne.symm hji)] at hj
    exact hj
  have mem : ∀ j, j ∈ D.filter (fun j => (listed.setIfInBounds i true).getD j false) → j ∈ D := fun j hj => (List.mem_filter.1 hj).1
  have far : ∀ j, j ∈ D.filter (fun j => (listed.setIfInBounds i true).getD j false) → j ≠ i → i ∈ D → vals j ≠ u := fun j hj hji hi e => by
    obtain ⟨g, hg, _, hlt⟩ := h1 j (old j hj hji)
    obtain ⟨g', hg', hge, _⟩ := hn hi
    rw [hg, hg'] at e
    simp at e
  refine ⟨fun j hj => ?_, fun k hk j hj hkj => ?_⟩
  · by_cases hji : j = i
    · subst hji
      obtain ⟨g, hg, hge, hlt⟩ := hn (mem _ hj)
      exact ⟨g, by simp [upd, hg], by omega, hlt⟩
    · obtain ⟨g, hg, hge, hlt⟩ := h1 j (old j hj hji)
      exact ⟨g, by simp [upd, hji, hg], hge, by omega⟩
  · by_cases hji : j = i
    · have hki : k ≠ i := fun e => hkj (e.trans hji.symm)
      have := far k hk hki (hji ▸ mem _ hj)
      simpa [upd, hji, hki] using this
    · by_cases hki : k = i
      · have := far j hj hji (hki ▸ mem _ hk)
        simpa [upd, hji, hki] using this.symm
      · simpa [upd, hji, hki] using h2 k (old k hk hki) j (old j hj hji) hkj
theorem facts_go {D ms post : List Nat} (hD : (D.all fun i => ms.contains i) = true) (hA : apartB ops ms = true) (hG : (ms.all fun i => (ops.getD i default).guard == none) = true)
    (hst : ∀ i v W W', F i v W → Below W.heap.size W W' → F i v W')
    (hop : ∀ i ∈ ms, ∀ vals W, Below w0.heap.size w0 W → (∀ j ∈ waitFor md ops ms i, F j (vals j) W) →
      (ops.getD i default).wp P (putAll ops vals ms a0) W (fun a' W' => Below W.heap.size W W' ∧ ∃ u, a' = (putAll ops vals ms a0).put (ops.getD i default).dst u ∧ F i u W' ∧ New D i u W W') Q)
    (hend : ∀ vals W, Below w0.heap.size w0 W → (∀ j ∈ ms, F j (vals j) W) → Apart D vals w0 W → wpList P ops Q (post.map fun i => ops.getD i default) (putAll ops vals ms a0) W) :
    ∀ (n : Nat) (listed : Array Bool) (vals : Nat → Value) (W : World), Closed md ops listed → Below w0.heap.size w0 W → (∀ j ∈ ms, listed.getD j false = true → F j (vals j) W) → Apart (D.filter fun j => listed.getD j false) vals w0 W → factsOk md ops ms post n listed = true →
      wpAnyG P md ops Q (fun w' => ∃ g : Bel w0.heap.size w0, w' = g.val) (fun j => !post.contains j) (n + post.length) listed (putAll ops vals ms a0) W
  | 0, listed, vals, W, hcl, hb, hF, hAp, hB => by
    rw [Nat.zero_add]
    simp only [factsOk, Bool.and_eq_true] at hB
    have hall := List.all_eq_true.1 hB.1
    exact wpAnyG_one post listed _ W (fun i hi => by simp [hi]) hB.2 (hend vals W hb (fun j hj => hF j hj (hall j hj)) (by
      rwa [List.filter_eq_self.2 (fun j hj => hall j (by simpa using List.all_eq_true.1 hD j hj))] at hAp))
  | n + 1, listed, vals, W, hcl, hb, hF, hAp, hB => by
    rw [show n + 1 + post.length = (n + post.length) + 1 by omega]
    simp only [factsOk, Bool.and_eq_true, Bool.not_eq_true'] at hB
    have hall := List.all_eq_true.1 hB.2
    refine ⟨fun h0 => (by rw [h0] at hB; simp at hB), fun i hi => ?_⟩
    have hi2 := hall i hi
    simp only [Bool.and_eq_true] at hi2
    have him : i ∈ ms := by simpa using hi2.1.1
    obtain ⟨hun, o, ho, hpre⟩ := mem_ready.1 hi
    have hg : ops.getD i default = o := by simp [ho]
    have hgu : o.guard = none := by
      have := List.all_eq_true.1 hG i him
      rw [hg] at this
      simpa using this
    have h1 := hop i him vals W hb (fun j hj => by
      simp only [waitFor, List.mem_filter] at hj
      exact hF j hj.1 (waitsN_listed hcl ops.size i hj.2 (fun oj hoj e he hbd => by
        obtain rfl : o = oj := Option.some.inj (ho.symm.trans hoj)
        exact hpre e he hbd)))
    rw [hg] at h1
    unfold wpOp
    simp only [ho]
    have hw : Region.wanted o (yielded ops (putAll ops vals ms a0).tmps) = true := by simp [Region.wanted, hgu]
    rw [if_pos hw]
    refine .inl (Oper.wp_mono (fun a' W' h' => ?_) h1)
    obtain ⟨hbW, u, rfl, hu, hnew⟩ := h'
    have hb' : Below w0.heap.size w0 W' := bl_then hbW hb
    refine ⟨fun _ => Bel.ex hb', ?_⟩
    have e := putAll_upd (vals := vals) ms a0 i u hA him
    rw [hg] at e
    rw [e]
    refine facts_go hD hA hG hst hop hend n (listed.setIfInBounds i true) (upd vals i u) W' (hcl.set hi) hb' (fun j hj hl => ?_) (Apart.step hb.size hbW.size hAp hnew) hi2.2
    by_cases hij : j = i
    · subst hij
      simpa [upd] using hu
    · have : (upd vals i u) j = vals j := by simp [upd, hij]
      rw [this]
      exact hst j _ W W' (hF j hj (by rwa [getD_set_ne false (Ne.symm hij)] at hl)) hbW

def factsPre (md : Region.Mode) (ops : Array Oper) (ms post : List Nat) : List Nat → Array Bool → Bool
  | [], listed => factsOk md ops ms post ms.length listed && ms.all fun j => !listed.getD j false
  | i :: r, listed => takeB md ops post i listed && factsPre md ops ms post r (listed.setIfInBounds i true)
def factsB (md : Region.Mode) (ops : Array Oper) (pre ms post : List Nat) : Bool :=
  Region.noSelect ops && decide (ops.size = pre.length + (ms.length + post.length)) && apartB ops ms && (ms.all fun i => (ops.getD i default).guard == none) && factsPre md ops ms post pre (Array.replicate ops.size false)

theorem facts_pre {D ms post : List Nat} (hD : (D.all fun i => ms.contains i) = true) {w : World} (hs : Region.noSelect ops = true) (hQ : ∀ d c a v w, Q (.panic c) (Act.put a d v) w → Q (.panic c) a w) (hA : apartB ops ms = true) (hG : (ms.all fun i => (ops.getD i default).guard == none) = true) (hb : Below w0.heap.size w0 w)
    (hst : ∀ i v W W', F i v W → Below W.heap.size W W' → F i v W') :
    ∀ (pre : List Nat) (listed : Array Bool) (a : Act), Closed md ops listed → factsPre md ops ms post pre listed = true →
    wpQuiet P ops (fun w' => ∃ g : Bel w0.heap.size w0, w' = g.val) (fun a' => (∀ i ∈ ms, ∀ vals W, Below w0.heap.size w0 W → (∀ j ∈ waitFor md ops ms i, F j (vals j) W) →
        (ops.getD i default).wp P (putAll ops vals ms a') W (fun a'' W' => Below W.heap.size W W' ∧ ∃ u, a'' = (putAll ops vals ms a').put (ops.getD i default).dst u ∧ F i u W' ∧ New D i u W W') Q) ∧
      (∀ vals W, Below w0.heap.size w0 W → (∀ j ∈ ms, F j (vals j) W) → Apart D vals w0 W → wpList P ops Q (post.map fun i => ops.getD i default) (putAll ops vals ms a') W)) (pre.map fun i => ops.getD i default) a →
    wpAnyG P md ops Q (fun w' => ∃ g : Bel w0.heap.size w0, w' = g.val) (fun j => !post.contains j) (pre.length + (ms.length + post.length)) listed a w
  | [], listed, a, hcl, hB, h => by
    rw [List.length_nil, Nat.zero_add]
    simp only [factsPre, Bool.and_eq_true] at hB
    have hn := List.all_eq_true.1 hB.2
    have := facts_go (md := md) (a0 := a) hD hA hG hst h.1 h.2 ms.length listed (fun i => match (ops.getD i default).dst with | some d => a.tmps.getD d undef | none => undef) w hcl hb (fun j hj hl => by have := hn j hj; rw [hl] at this; cases this) (by
      rw [List.filter_eq_nil_iff.2 (fun j hj => by have := hn j (by simpa using List.all_eq_true.1 hD j hj); simpa using this)]
      exact ⟨fun j hj => by simp at hj, fun i hi => by simp at hi⟩) hB.1
    rw [putAll_self] at this
    exact this
  | i :: r, listed, a, hcl, hB, h => by
    rw [List.length_cons, show r.length + 1 + (ms.length + post.length) = (r.length + (ms.length + post.length)) + 1 by omega]
    simp only [factsPre, Bool.and_eq_true] at hB
    simp only [List.map_cons] at h
    unfold wpQuiet at h
    exact wpAnyG_take (post := post) hs hQ (Bel.ex hb) (o := ops.getD i default) rfl hcl hB.1 (fun a' => wpQuiet P ops _ _ (r.map fun i => ops.getD i default) a')
      (fun v h' => facts_pre hD hs hQ hA hG hb hst r _ _ (hcl.set (takeB_ready hB.1)) hB.2 h') h

theorem wp_region_facts {id : Nat} {a : Act} {w : World} {l : List Oper} (F : Nat → Value → World → Prop) (pre D ms post : List Nat) (hD : (D.all fun i => ms.contains i) = true) (hm : P.follows .mixedOrders = true) (hB : factsB .any l.toArray pre ms post = true)
    (hQ : ∀ d c a v w, Q (.panic c) (Act.put a d v) w → Q (.panic c) a w) (hst : ∀ i v W W', F i v W → Below W.heap.size W W' → F i v W')
    (h : wpQuiet P l.toArray (fun w' => ∃ g : Bel w.heap.size w, w' = g.val) (fun a' => (∀ i ∈ ms, ∀ vals W, Below w.heap.size w W → (∀ j ∈ waitFor .any l.toArray ms i, F j (vals j) W) →
        (l.getD i default).wp P (putAll l.toArray vals ms a') W (fun a'' W' => Below W.heap.size W W' ∧ ∃ u, a'' = (putAll l.toArray vals ms a').put (l.getD i default).dst u ∧ F i u W' ∧ New D i u W W') Q) ∧
      (∀ vals W, Below w.heap.size w W → (∀ j ∈ ms, F j (vals j) W) → Apart D vals w W → wpList P l.toArray Q (post.map fun i => l.getD i default) (putAll l.toArray vals ms a') W)) (pre.map fun i => l.getD i default) a) :
    (Code.region id l.toArray true).wp P Q a w := by
  simp only [factsB, Bool.and_eq_true, decide_eq_true_eq] at hB
  obtain ⟨⟨⟨⟨hs, hn⟩, hA⟩, hG⟩, hB'⟩ := hB
  refine wp_region_any hm (wpAny_of_G (C := fun w' => ∃ g : Bel w.heap.size w, w' = g.val) (kp := fun j => !post.contains j) _ _ _ _ ?_)
  have e : ∀ (xs : List Nat), (xs.map fun i => l.toArray.getD i default) = xs.map fun i => l.getD i default := fun xs => List.map_congr_left fun i _ => by simp [Array.getD_eq_getD_getElem?, List.getD_eq_getElem?_getD]
  have e2 : ∀ i, l.toArray.getD i default = l.getD i default := fun i => by simp [Array.getD_eq_getD_getElem?, List.getD_eq_getElem?_getD]
  have := facts_pre (md := .any) (w0 := w) (w := w.drew) (F := F) (ops := l.toArray) (ms := ms) (post := post) hD hs hQ hA hG (Below.refl w.heap.size w).drew hst pre _ a (Closed.start _) hB' (by
    rw [e, e]
    simp only [e2]
    exact h)
  rw [← hn] at this
  exact this
/-- one operation's part -/
theorem facts_step {D : List Nat} {o : Oper} {a : Act} {W : World} {i : Nat} (h : ∀ K : Act → World → Prop, (∀ u W' a', a' = a.put o.dst u → Below W.heap.size W W' → F i u W' → New D i u W W' → K a' W') → o.wp P a W K Q) :
    o.wp P a W (fun a'' W' => Below W.heap.size W W' ∧ ∃ u, a'' = a.put o.dst u ∧ F i u W' ∧ New D i u W W') Q :=
  h _ fun u _ _ he hb hf hn => ⟨hb, u, he, hf, hn⟩
end
end Go.Proofs.Ytpoaomdpcoaolaa

/- The law for a region that draws its order (Ord), inside a fence that lets every function in: for the rounds of a range over a function, and for its iterators. Conditions: the Bools 'ordB' and 'noDefer' over the region. -/
namespace Go.Proofs.Ytpoaomdpcoaolaa
open Go.RowKit

section
variable {F : Fence} {n : Nat} {P : Program} {ops : Array Oper} {Q : Exit → Act → World → Prop} {md : Region.Mode} {C : World → Prop} {kp : Nat → Bool}

def isDefer (o : Oper) : Bool := match o.op with | .defer _ => true | _ => false
def noDefer (ops : Array Oper) : Bool := ops.all fun o => !isDefer o
theorem noDefer_spec (h : noDefer ops = true) {i : Nat} {o : Oper} (ho : ops[i]? = some o) : ∀ c, o.op ≠ .defer c := by
  intro c e
  have := Array.all_eq_true'.1 h o (Array.mem_of_getElem? ho)
  simp [isDefer, e] at this
theorem yieldsIf_wpOpIn (hF : ∀ f, F.fn f) {i : Nat} {o : Oper} {v : Value} {a : Act} (hd : ∀ c, o.op ≠ .defer c) (hi : ops[i]? = some o) (hy : YieldsIf P ops C o v a)
    {K : Act → World → Prop} {w : World} (hS : C w) (h : K (a.put o.dst v) w) : wpOpIn F n P ops Q i K a w := by
  unfold Go.wpOpIn
  simp only [hi]
  rcases hy with ⟨hw, hv⟩ | ⟨hw, rfl⟩
  · simp only [hw, if_true, Oper.wpIn, Oper.semAt_plain F _ _ hd, hv w hS, Oper.uponIn]
    exact ⟨fun f _ => hF f, h⟩
  · simp only [hw, Bool.false_eq_true, if_false]
    exact ⟨fun f _ => hF f, h⟩
theorem wpOpIn_putIf (hF : ∀ f, F.fn f) {j : Nat} {oi oj : Oper} {v : Value} (hdj : ∀ c, oj.op ≠ .defer c) (hj : ops[j]? = some oj) (hap : oi.apart ops oj = true)
    (hsi : ∀ cs b, oi.op ≠ .select cs b) (hsj : ∀ cs b, oj.op ≠ .select cs b)
    (hQ : ∀ c a w, Q (.panic c) (a.put oi.dst v) w → Q (.panic c) a w) {K : Act → World → Prop} {a : Act} {w : World}
    (hy : YieldsIf P ops C oi v a) (h : wpOpIn F n P ops Q j K (a.put oi.dst v) w) :
    wpOpIn F n P ops Q j (fun a' w' => YieldsIf P ops C oi v a' ∧ K (a'.put oi.dst v) w') a w := by
  obtain ⟨h1, h2, h3⟩ := Oper.apart_spec hap
  have keep : ∀ (a : Act), YieldsIf P ops C oi v a → ∀ u, YieldsIf P ops C oi v (a.put oj.dst u) := fun a hy u =>
    hy.of_same (execOp_put oi hsi a oj.dst u h3) (wanted_put oi a oj.dst u h3)
  have keepD : ∀ d, YieldsIf P ops C oi v { a with defers := d :: a.defers } := fun d => hy.of_same rfl rfl
  unfold Go.wpOpIn at *
  simp only [hj] at *
  rw [wanted_put oj a oi.dst v h1] at h
  split
  · rename_i hw
    simp only [hw, if_true] at h
    unfold Oper.wpIn at *
    refine ⟨fun f _ => hF f, ?_⟩
    have h := h.2
    rw [Oper.semAt_plain F _ _ hdj, execOp_put oj hsj a oi.dst v h1] at h
    rw [Oper.semAt_plain F _ _ hdj]
    generalize (execOp a.eval oj).run P w = r at *
    cases r with
    | ok x w' =>
      cases x <;> simp only [Oper.uponIn] at h ⊢
      case value u => exact ⟨keep a hy u, by rw [← Act.put_comm a v u h2]; exact h⟩
      case skip => exact ⟨keep a hy _, by rw [← Act.put_comm a v undef h2]; exact h⟩
      case defer d =>
        refine ⟨keep _ (keepD d) _, ?_⟩
        rw [← Act.put_comm _ v undef h2, ← Act.put_defers]
        exact h
      case enter f args =>
        refine ⟨h.1, CallsIn.mono h.2 fun e w'' he => ?_⟩
        cases e with
        | returned u => exact ⟨keep a hy u, by rw [← Act.put_comm a v u h2]; exact he⟩
        | panicked c => exact hQ _ _ _ he
        | outgrown => exact he
      case row row args => exact ⟨h.1, RowsIn.mono h.2 fun u w'' he => ⟨keep a hy u, by rw [← Act.put_comm a v u h2]; exact he⟩⟩
      case round l f tmps assign body =>
        refine ⟨h.1, RoundIn.mono h.2 fun e w'' he => ?_⟩
        cases e with
        | returned u => exact ⟨keep a hy u, by rw [← Act.put_comm a v u h2]; exact he⟩
        | panicked c => exact hQ _ _ _ he
        | outgrown => exact he
    | halt x w' =>
      cases x <;> simp only [Oper.uponIn] at h ⊢
      case panic u => exact hQ _ _ _ h
  · rename_i hw
    simp only [hw] at h
    exact ⟨fun f _ => hF f, keep a hy _, by rw [← Act.put_comm a v undef h2]; exact h.2⟩

def wpAnyGI (F : Fence) (n : Nat) (P : Program) (md : Region.Mode) (ops : Array Oper) (Q : Exit → Act → World → Prop) (C : World → Prop) (kp : Nat → Bool) : Nat → Array Bool → Act → World → Prop
  | 0, listed, a, w => Region.ready md ops listed = [] ∧ Q .normal a w
  | f + 1, listed, a, w => (Region.ready md ops listed = [] → Q .normal a w) ∧
      ∀ i ∈ Region.ready md ops listed, wpOpIn F n P ops Q i (fun a' w' => (kp i = true → C w') ∧ wpAnyGI F n P md ops Q C kp f (listed.setIfInBounds i true) a' w') a w

theorem wpAnyIn_of_GI : ∀ (f : Nat) (listed : Array Bool) (a : Act) (w : World), wpAnyGI F n P md ops Q C kp f listed a w → wpAnyIn F n P md ops Q f listed a w
  | 0, _, _, _, h => h
  | f + 1, _, _, _, h => ⟨h.1, fun i hi => wpOpIn_mono (fun a' w' h' => wpAnyIn_of_GI f _ a' w' h'.2) (h.2 i hi)⟩

theorem wpAnyGI_first (hF : ∀ f, F.fn f) (hnd : noDefer ops = true) {i : Nat} {oi : Oper} {v : Value} {N : Nat} (hi : ops[i]? = some oi) (hsel : ∀ (j : Nat) (o : Oper) cs b, ops[j]? = some o → o.op ≠ .select cs b)
    (hQ : ∀ c a w, Q (.panic c) (a.put oi.dst v) w → Q (.panic c) a w) :
    ∀ (fuel : Nat) (listed : Array Bool) (a : Act) (w : World), Closed md ops listed →
      (∀ j oj, ops[j]? = some oj → j ≠ i → listed.getD j true = false → (∀ e ∈ oj.after, Region.binds md e = true → e.on ≠ i) → oi.apart ops oj = true) →
      (∀ j, j < ops.size → j ≠ i → listed.getD j true = false → kp j = true ∨ waitsN md ops N j i = true) →
      i ∈ Region.ready md ops listed → YieldsIf P ops C oi v a → C w →
      wpAnyGI F n P md ops Q C kp fuel (listed.setIfInBounds i true) (a.put oi.dst v) w → wpAnyGI F n P md ops Q C kp (fuel + 1) listed a w := by
  intro fuel
  induction fuel with
  | zero =>
    intro listed a w _ _ _ hr hy hC H
    refine ⟨fun h => (by rw [h] at hr; cases hr), fun j hj => ?_⟩
    by_cases hji : j = i
    · subst hji; exact yieldsIf_wpOpIn hF (noDefer_spec hnd hi) hi hy hC ⟨fun _ => hC, H⟩
    · have := ready_mono hj hji
      rw [H.1] at this
      cases this
  | succ fuel ih =>
    intro listed a w hcl hfree hkp hr hy hC H
    refine ⟨fun h => (by rw [h] at hr; cases hr), fun j hj => ?_⟩
    by_cases hji : j = i
    · subst hji; exact yieldsIf_wpOpIn hF (noDefer_spec hnd hi) hi hy hC ⟨fun _ => hC, H⟩
    · have h1 := H.2 j (ready_mono hj hji)
      obtain ⟨hjun, oj, hoj, hall⟩ := mem_ready.1 hj
      have hiun : listed.getD i false = false := unlisted_both (mem_ready.1 hr).1
      have hnot : ∀ e ∈ oj.after, Region.binds md e = true → e.on ≠ i := fun e he hb heq => by
        have h1 := hall e he hb
        rw [heq, hiun] at h1
        cases h1
      have hkj : kp j = true := by
        rcases hkp j (Array.getElem?_eq_some_iff.1 hoj).1 hji hjun with h | h
        · exact h
        · have := waitsN_listed hcl N j h (fun oj' hj' e he hb => by
            obtain rfl : oj = oj' := Option.some.inj (hoj.symm.trans hj')
            exact hall e he hb)
          rw [hiun] at this
          cases this
      have h2 := wpOpIn_putIf hF (noDefer_spec hnd hoj) hoj (hfree j oj hoj hji hjun hnot) (fun cs b => hsel i oi cs b hi) (fun cs b => hsel j oj cs b hoj) hQ hy h1
      have hun' : ∀ k, (listed.setIfInBounds j true).getD k true = false → listed.getD k true = false := fun k hun => by
        by_cases hjk : j = k
        · subst hjk; exact hjun
        · rw [getD_set_ne true hjk] at hun; exact hun
      refine wpOpIn_mono (fun a' w' h3 => ⟨fun _ => h3.2.1 hkj, ih (listed.setIfInBounds j true) a' w' (hcl.set hj) (fun k ok hk hki hun hno => hfree k ok hk hki (hun' k hun) hno)
        (fun k hks hki hun => hkp k hks hki (hun' k hun)) (ready_mono hr (Ne.symm hji)) h3.1 (h3.2.1 hkj) ?_⟩) h2
      rw [Array.setIfInBounds_comm _ _ hji]
      exact h3.2.2

def wpMidI (F : Fence) (n : Nat) (P : Program) (ops : Array Oper) (Q : Exit → Act → World → Prop) (C : World → Prop) (post : List Oper) : List (Oper × Bool) → Act → World → Prop
  | [], a, w => wpListIn F n P ops Q post a w
  | (o, t) :: r, a, w =>
    if t = true then (if Region.wanted o (yielded ops a.tmps) then o.quiet P a C (fun a' => wpMidI F n P ops Q C post r a' w) else wpMidI F n P ops Q C post r (a.put o.dst undef) w)
    else if Region.wanted o (yielded ops a.tmps) then o.wpIn F n P a w (fun a' w' => C w' ∧ wpMidI F n P ops Q C post r a' w') Q else wpMidI F n P ops Q C post r (a.put o.dst undef) w

theorem wpAnyGI_one (hF : ∀ f, F.fn f) {kp : Nat → Bool} : ∀ (post : List Nat) (listed : Array Bool) (a : Act) (w : World), (∀ i ∈ post, kp i = false) → seqOne md ops post listed = true →
    wpListIn F n P ops Q (post.map fun i => ops.getD i default) a w → wpAnyGI F n P md ops Q C kp post.length listed a w
  | [], listed, a, w, _, hB, h => ⟨by simpa [seqOne] using hB, h⟩
  | i :: r, listed, a, w, hk, hB, h => by
    simp only [seqOne, Bool.and_eq_true, decide_eq_true_eq] at hB
    refine ⟨fun h0 => (by rw [hB.1] at h0; cases h0), fun j hj => ?_⟩
    obtain ⟨_, o, ho, _⟩ := mem_ready.1 hj
    rw [hB.1] at hj
    obtain rfl : j = i := by simpa using hj
    have hg : ops.getD j default = o := by simp [ho]
    simp only [List.map_cons, hg] at h
    unfold Go.wpOpIn
    simp only [ho]
    unfold wpListIn at h
    have hkj := hk j (by simp)
    split
    · rename_i hw
      rw [if_pos hw] at h
      exact Oper.wpIn_mono (fun a' w' h' => ⟨fun e => (by rw [hkj] at e; cases e), wpAnyGI_one hF r _ a' w' (fun i hi => hk i (by simp [hi])) hB.2 h'⟩) h
    · rename_i hw
      rw [if_neg hw] at h
      exact ⟨fun f _ => hF f, fun e => (by rw [hkj] at e; cases e), wpAnyGI_one hF r _ _ w (fun i hi => hk i (by simp [hi])) hB.2 h.2⟩

theorem wpAnyGI_take (hF : ∀ f, F.fn f) (hnd : noDefer ops = true) {post : List Nat} (hs : Region.noSelect ops = true) (hQ : ∀ d c a v w, Q (.panic c) (Act.put a d v) w → Q (.panic c) a w) {w : World} (hC : C w)
    {i fuel : Nat} {listed : Array Bool} {a : Act} {o : Oper} (hg : ops.getD i default = o) (hcl : Closed md ops listed) (hB : takeB md ops post i listed = true) (K : Act → Prop)
    (hK : ∀ v, K (a.put o.dst v) → wpAnyGI F n P md ops Q C (fun j => !post.contains j) fuel (listed.setIfInBounds i true) (a.put o.dst v) w)
    (h : if Region.wanted o (yielded ops a.tmps) then o.quiet P a C K else K (a.put o.dst undef)) :
    wpAnyGI F n P md ops Q C (fun j => !post.contains j) (fuel + 1) listed a w := by
  simp only [takeB, Bool.and_eq_true] at hB
  obtain ⟨⟨⟨hr, hf⟩, hp⟩, hkp⟩ := hB
  have hr' : i ∈ Region.ready md ops listed := by simpa using hr
  obtain ⟨hun, o', ho, hall⟩ := mem_ready.1 hr'
  have hg' : ops.getD i default = o' := by simp [ho]
  obtain rfl : o = o' := hg.symm.trans hg'
  simp only [ho] at hp
  have hy : ∃ v, YieldsIf P ops C o v a ∧ K (a.put o.dst v) := by
    by_cases hw : Region.wanted o (yielded ops a.tmps) = true
    · rw [if_pos hw] at h
      obtain ⟨v, h1, h2⟩ := h
      exact ⟨v, yieldsIf_of hp hw h1, h2⟩
    · rw [if_neg hw] at h
      exact ⟨undef, .inr ⟨by simpa using hw, rfl⟩, h⟩
  obtain ⟨v, hy, h'⟩ := hy
  refine wpAnyGI_first (N := ops.size) hF hnd ho (Region.noSelect_spec hs) (fun c a w => hQ _ c a v w) _ listed a w hcl (Region.free_spec ho hf) (fun j hj hji hjun => ?_) hr' hy hC (hK v h')
  have := List.all_eq_true.1 hkp j (List.mem_range.2 hj)
  simp only [Bool.or_eq_true, beq_iff_eq, hji, false_or, hjun, Bool.false_eq_true] at this
  exact this

theorem wpAnyGI_mid (hF : ∀ f, F.fn f) (hnd : noDefer ops = true) {post : List Nat} (hs : Region.noSelect ops = true) (hQ : ∀ d c a v w, Q (.panic c) (Act.put a d v) w → Q (.panic c) a w) :
    ∀ (mid : List (Nat × Bool)) (listed : Array Bool) (a : Act) (w : World), Closed md ops listed → C w → seqMid md ops post mid listed = true →
    wpMidI F n P ops Q C (post.map fun i => ops.getD i default) (mid.map fun i => (ops.getD i.1 default, i.2)) a w → wpAnyGI F n P md ops Q C (fun j => !post.contains j) (mid.length + post.length) listed a w
  | [], listed, a, w, _, _, hB, h => by
    rw [List.length_nil, Nat.zero_add]
    exact wpAnyGI_one hF post listed a w (fun i hi => by simp [hi]) hB h
  | (i, t) :: r, listed, a, w, hcl, hC, hB, h => by
    rw [List.length_cons, show r.length + 1 + post.length = (r.length + post.length) + 1 by omega]
    simp only [seqMid, Bool.and_eq_true] at hB
    cases t with
    | true =>
      simp only [if_true] at hB
      simp only [List.map_cons, wpMidI, if_true] at h
      exact wpAnyGI_take hF hnd (post := post) hs hQ hC (o := ops.getD i default) rfl hcl hB.1 (fun a' => wpMidI F n P ops Q C (post.map fun i => ops.getD i default) (r.map fun i => (ops.getD i.1 default, i.2)) a' w)
        (fun v h' => wpAnyGI_mid hF hnd hs hQ r _ _ w (hcl.set (takeB_ready hB.1)) hC hB.2 h') h
    | false =>
      simp only [Bool.false_eq_true, if_false, decide_eq_true_eq] at hB
      refine ⟨fun h0 => (by rw [hB.1] at h0; cases h0), fun j hj => ?_⟩
      obtain ⟨_, o, ho, _⟩ := mem_ready.1 hj
      have hj' := hj
      rw [hB.1] at hj
      obtain rfl : j = i := by simpa using hj
      have hg : ops.getD j default = o := by simp [ho]
      simp only [List.map_cons, wpMidI, Bool.false_eq_true, if_false, hg] at h
      unfold Go.wpOpIn
      simp only [ho]
      split
      · rename_i hw
        rw [if_pos hw] at h
        exact Oper.wpIn_mono (fun a' w' h' => ⟨fun _ => h'.1, wpAnyGI_mid hF hnd hs hQ r _ a' w' (hcl.set hj') h'.1 hB.2 h'.2⟩) h
      · rename_i hw
        rw [if_neg hw] at h
        exact ⟨fun f _ => hF f, fun _ => hC, wpAnyGI_mid hF hnd hs hQ r _ _ w (hcl.set hj') hC hB.2 h⟩

theorem wpAnyGI_pre (hF : ∀ f, F.fn f) (hnd : noDefer ops = true) {mid : List (Nat × Bool)} {post : List Nat} (hs : Region.noSelect ops = true) (hQ : ∀ d c a v w, Q (.panic c) (Act.put a d v) w → Q (.panic c) a w) {w : World} (hC : C w) :
    ∀ (pre : List Nat) (listed : Array Bool) (a : Act), Closed md ops listed → seqPre md ops mid post pre listed = true →
    wpQuiet P ops C (fun a' => wpMidI F n P ops Q C (post.map fun i => ops.getD i default) (mid.map fun i => (ops.getD i.1 default, i.2)) a' w) (pre.map fun i => ops.getD i default) a →
    wpAnyGI F n P md ops Q C (fun j => !post.contains j) (pre.length + (mid.length + post.length)) listed a w
  | [], listed, a, hcl, hB, h => by
    rw [List.length_nil, Nat.zero_add]
    exact wpAnyGI_mid hF hnd hs hQ mid listed a w hcl hC hB h
  | i :: r, listed, a, hcl, hB, h => by
    rw [List.length_cons, show r.length + 1 + (mid.length + post.length) = (r.length + (mid.length + post.length)) + 1 by omega]
    simp only [seqPre, Bool.and_eq_true] at hB
    simp only [List.map_cons] at h
    unfold wpQuiet at h
    exact wpAnyGI_take hF hnd (post := post) hs hQ hC (o := ops.getD i default) rfl hcl hB.1 (fun a' => wpQuiet P ops C (fun a' => wpMidI F n P ops Q C (post.map fun i => ops.getD i default) (mid.map fun i => (ops.getD i.1 default, i.2)) a' w) (r.map fun i => ops.getD i default) a')
      (fun v h' => wpAnyGI_pre hF hnd hs hQ hC r _ _ (hcl.set (takeB_ready hB.1)) hB.2 h') h

/-- THE LAW, within a fence -/
theorem wpIn_region_ords {id : Nat} {a : Act} {w : World} {l : List Oper} (pre : List Nat) (mid : List (Nat × Bool)) (post : List Nat) (hF : ∀ f, F.fn f) (hnd : noDefer l.toArray = true) (hm : P.follows .mixedOrders = true) (hB : ordB .any l.toArray pre mid post = true)
    (hQ : ∀ d c a v w, Q (.panic c) (Act.put a d v) w → Q (.panic c) a w)
    (h : wpQuiet P l.toArray (fun w' => ∃ g : Bel w.heap.size w, w' = g.val) (fun a' => wpMidI F n P l.toArray Q (fun w' => ∃ g : Bel w.heap.size w, w' = g.val) (post.map fun i => l.getD i default) (mid.map fun i => (l.getD i.1 default, i.2)) a' w.drew) (pre.map fun i => l.getD i default) a) :
    (Code.region id l.toArray true).wpIn F n P Q a w := by
  simp only [ordB, Bool.and_eq_true, decide_eq_true_eq] at hB
  obtain ⟨⟨hs, hn⟩, hB'⟩ := hB
  refine wpIn_region_any hm (wpAnyIn_of_GI (C := fun w' => ∃ g : Bel w.heap.size w, w' = g.val) (kp := fun j => !post.contains j) _ _ _ _ ?_)
  rw [hn, Nat.add_assoc]
  refine wpAnyGI_pre hF hnd hs hQ (Bel.ex (Below.refl _ w).drew) pre _ a (Closed.start _) (by simpa [hn, Nat.add_assoc] using hB') ?_
  have e : ∀ (xs : List Nat), (xs.map fun i => l.toArray.getD i default) = xs.map fun i => l.getD i default := fun xs => List.map_congr_left fun i _ => by simp [Array.getD_eq_getD_getElem?, List.getD_eq_getElem?_getD]
  have e2 : (mid.map fun i => (l.toArray.getD i.1 default, i.2)) = mid.map fun i => (l.getD i.1 default, i.2) := List.map_congr_left fun i _ => by simp [Array.getD_eq_getD_getElem?, List.getD_eq_getElem?_getD]
  rw [e, e, e2]
  exact h

theorem wpMidI_nil {post : List Oper} {a : Act} {w : World} (h : wpListIn F n P ops Q post a w) : wpMidI F n P ops Q C post [] a w := h
theorem wpMidI_run {B : Nat} {w0 : World} {post : List Oper} {o : Oper} {r : List (Oper × Bool)} {a : Act} {w : World} (hw : Region.wanted o (yielded ops a.tmps) = true)
    (h : ∀ K : Act → World → Prop, (∀ a w', Below B w0 w' → wpMidI F n P ops Q (fun w' => ∃ g : Bel B w0, w' = g.val) post r a w' → K a w') → o.wpIn F n P a w K Q) : wpMidI F n P ops Q (fun w' => ∃ g : Bel B w0, w' = g.val) post ((o, false) :: r) a w := by
  have := h (fun a w' => (∃ g : Bel B w0, w' = g.val) ∧ wpMidI F n P ops Q (fun w' => ∃ g : Bel B w0, w' = g.val) post r a w') (fun a w h1 h2 => ⟨Bel.ex h1, h2⟩)
  simp only [wpMidI, Bool.false_eq_true, if_false, hw, if_true]
  exact this
theorem wpMidI_take {post : List Oper} {o : Oper} {r : List (Oper × Bool)} {a : Act} {w : World} (hw : Region.wanted o (yielded ops a.tmps) = true)
    (h : ∀ K : Act → Prop, (∀ a, wpMidI F n P ops Q C post r a w → K a) → o.quiet P a C K) : wpMidI F n P ops Q C post ((o, true) :: r) a w := by
  simp only [wpMidI, if_true, hw]
  exact h _ fun a h => h
end
attribute [irreducible] wpMidI
end Go.Proofs.Ytpoaomdpcoaolaa

/- The law for a region that draws its order (Ord), inside a fence that lets every function in: for the rounds of a range over a function, and for its iterators. Conditions: the Bools 'ordB' and 'noDefer' over the region. -/
import Derived.Test.YtpompeancmonbaaGreatE02
import Derived.RangeFuncNested
import Derived.RangeFuncBound
import Derived.RangeFuncCalls
import Derived.RangeFuncLeaves
import Derived.RangeFuncBox
import Derived.OwnWalkIn
import Derived.TacticsInMore
import Derived.LoopNIn
import Derived.LoopIn
import Derived.Test.YtpompeancmonbaaGreatE12
namespace Go.Proofs.YtpompeancmonbaaGreat
open Go.RowKit

section
variable {F : Fence} {n : Nat} {P : Program} {ops : Array Oper} {Q : Exit → Act → World → Prop} {md : Region.Mode} {C : World → Prop} {kp : Nat → Bool}

def isDefer (o : Oper) : Bool := match o.op with | .defer _ => true | _ => false
def noDefer (ops : Array Oper) : Bool := ops.all fun o => !isDefer o
theorem noDefer_spec (h : noDefer ops = true) {i : Nat} {o : Oper} (ho : ops[i]? = some o) : ∀ c, o.op ≠ .defer c := by
  intro c e
  have := Array.all_eq_true'.1 h o (Array.mem_of_getElem? ho)
  simp [isDefer, e] at this
theorem yieldsIf_wpOpIn (hF : ∀ f, F.fn f) {i : Nat} {o : Oper} {v : Value} {a : Act} (hd : ∀ c, o.op ≠ .defer c) (hi : ops[i]? = some o) (hy : YieldsIf P ops C o v a)
    {K : Act → World → Prop} {w : World} (hS : C w) (h : K (a.put o.dst v) w) : wpOpIn F n P ops Q i K a w := by
  unfold Go.wpOpIn
  simp only [hi]
  rcases hy with ⟨hw, hv⟩ | ⟨hw, rfl⟩
  · simp only [hw, if_true, Oper.wpIn, Oper.semAt_plain F _ _ hd, hv w hS, Oper.uponIn]
    exact ⟨fun f _ => hF f, h⟩
  · simp only [hw, Bool.false_eq_true, if_false]
    exact ⟨fun f _ => hF f, h⟩
theorem wpOpIn_putIf (hF : ∀ f, F.fn f) {j : Nat} {oi oj : Oper} {v : Value} (hdj : ∀ c, oj.op ≠ .defer c) (hj : ops[j]? = some oj) (hap : oi.apart ops oj = true)
    (hsi : ∀ cs b, oi.op ≠ .select cs b) (hsj : ∀ cs b, oj.op ≠ .select cs b)
    (hQ : ∀ c a w, Q (.panic c) (a.put oi.dst v) w → Q (.panic c) a w) {K : Act → World → Prop} {a : Act} {w : World}
    (hy : YieldsIf P ops C oi v a) (h : wpOpIn F n P ops Q j K (a.put oi.dst v) w) :
    wpOpIn F n P ops Q j (fun a' w' => YieldsIf P ops C oi v a' ∧ K (a'.put oi.dst v) w') a w := by
  obtain ⟨h1, h2, h3⟩ := Oper.apart_spec hap
  have keep : ∀ (a : Act), YieldsIf P ops C oi v a → ∀ u, YieldsIf P ops C oi v (a.put oj.dst u) := fun a hy u =>
    hy.of_same (execOp_put oi hsi a oj.dst u h3) (wanted_put oi a oj.dst u h3)
  have keepD : ∀ d, YieldsIf P ops C oi v { a with defers := d :: a.defers } := fun d => hy.of_same rfl rfl
  unfold Go.wpOpIn at *
  simp only [hj] at *
  rw [wanted_put oj a oi.dst v h1] at h
  split
  · rename_i hw
    simp only [hw, if_true] at h
    unfold Oper.wpIn at *
    refine ⟨fun f _ => hF f, ?_⟩
    have h := h.2
    rw [Oper.semAt_plain F _ _ hdj, execOp_put oj hsj a oi.dst v h1] at h
    rw [Oper.semAt_plain F _ _ hdj]
    generalize (execOp a.eval oj).run P w = r at *
    cases r with
    | ok x w' =>
      cases x <;> simp only [Oper.uponIn] at h ⊢
      case value u => exact ⟨keep a hy u, by rw [← Act.put_comm a v u h2]; exact h⟩
      case skip => exact ⟨keep a hy _, by rw [← Act.put_comm a v undef h2]; exact h⟩
      case defer d =>
        refine ⟨keep _ (keepD d) _, ?_⟩
        rw [← Act.put_comm _ v undef h2, ← Act.put_defers]
        exact h
      case enter f args =>
        refine ⟨h.1, CallsIn.mono h.2 fun e w'' he => ?_⟩
        cases e with
        | returned u => exact ⟨keep a hy u, by rw [← Act.put_comm a v u h2]; exact he⟩
        | panicked c => exact hQ _ _ _ he
        | outgrown => exact he
      case row row args => exact ⟨h.1, RowsIn.mono h.2 fun u w'' he => ⟨keep a hy u, by rw [← Act.put_comm a v u h2]; exact he⟩⟩
      case round l f tmps assign body =>
        refine ⟨h.1, RoundIn.mono h.2 fun e w'' he => ?_⟩
        cases e with
        | returned u => exact ⟨keep a hy u, by rw [← Act.put_comm a v u h2]; exact he⟩
        | panicked c => exact hQ _ _ _ he
        | outgrown => exact he
    | halt x w' =>
      cases x <;> simp only [Oper.uponIn] at h ⊢
      case panic u => exact hQ _ _ _ h
  · rename_i hw
    simp only [hw] at h
    exact ⟨fun f _ => hF f, keep a hy _, by rw [← Act.put_comm a v undef h2]; exact h.2⟩

def wpAnyGI (F : Fence) (n : Nat) (P : Program) (md : Region.Mode) (ops : Array Oper) (Q : Exit → Act → World → Prop) (C : World → Prop) (kp : Nat → Bool) : Nat → Array Bool → Act → World → Prop
  | 0, listed, a, w => Region.ready md ops listed = [] ∧ Q .normal a w
  | f + 1, listed, a, w => (Region.ready md ops listed = [] → Q .normal a w) ∧
      ∀ i ∈ Region.ready md ops listed, wpOpIn F n P ops Q i (fun a' w' => (kp i = true → C w') ∧ wpAnyGI F n P md ops Q C kp f (listed.setIfInBounds i true) a' w') a w

theorem wpAnyIn_of_GI : ∀ (f : Nat) (listed : Array Bool) (a : Act) (w : World), wpAnyGI F n P md ops Q C kp f listed a w → wpAnyIn F n P md ops Q f listed a w
  | 0, _, _, _, h => h
  | f + 1, _, _, _, h => ⟨h.1, fun i hi => wpOpIn_mono (fun a' w' h' => wpAnyIn_of_GI f _ a' w' h'.2) (h.2 i hi)⟩

theorem wpAnyGI_first (hF : ∀ f, F.fn f) (hnd : noDefer ops = true) {i : Nat} {oi : Oper} {v : Value} {N : Nat} (hi : ops[i]? = some oi) (hsel : ∀ (j : Nat) (o : Oper) cs b, ops[j]? = some o → o.op ≠ .select cs b)
    (hQ : ∀ c a w, Q (.panic c) (a.put oi.dst v) w → Q (.panic c) a w) :
    ∀ (fuel : Nat) (listed : Array Bool) (a : Act) (w : World), Closed md ops listed →
      (∀ j oj, ops[j]? = some oj → j ≠ i → listed.getD j true = false → (∀ e ∈ oj.after, Region.binds md e = true → e.on ≠ i) → oi.apart ops oj = true) →
      (∀ j, j < ops.size → j ≠ i → listed.getD j true = false → kp j = true ∨ waitsN md ops N j i = true) →
      i ∈ Region.ready md ops listed → YieldsIf P ops C oi v a → C w →
      wpAnyGI F n P md ops Q C kp fuel (listed.setIfInBounds i true) (a.put oi.dst v) w → wpAnyGI F n P md ops Q C kp (fuel + 1) listed a w := by
  intro fuel
  induction fuel with
  | zero =>
    intro listed a w _ _ _ hr hy hC H
    refine ⟨fun h => (by rw [h] at hr; cases hr), fun j hj => ?_⟩
    by_cases hji : j = i
    · subst hji; exact yieldsIf_wpOpIn hF (noDefer_spec hnd hi) hi hy hC ⟨fun _ => hC, H⟩
    · have := ready_mono hj hji
      rw [H.1] at this
      cases this
  | succ fuel ih =>
    intro listed a w hcl hfree hkp hr hy hC H
    refine ⟨fun h => (by rw [h] at hr; cases hr), fun j hj => ?_⟩
    by_cases hji : j = i
    · subst hji; exact yieldsIf_wpOpIn hF (noDefer_spec hnd hi) hi hy hC ⟨fun _ => hC, H⟩
    · have h1 := H.2 j (ready_mono hj hji)
      obtain ⟨hjun, oj, hoj, hall⟩ := mem_ready.1 hj
      have hiun : listed.getD i false = false := unlisted_both (mem_ready.1 hr).1
      have hnot : ∀ e ∈ oj.after, Region.binds md e = true → e.on ≠ i := fun e he hb heq => by
        have h1 := hall e he hb
        rw [heq, hiun] at h1
        cases h1
      have hkj : kp j = true := by
        rcases hkp j (Array.getElem?_eq_some_iff.1 hoj).1 hji hjun with h | h
        · exact h
        · have := waitsN_listed hcl N j h (fun oj' hj' e he hb => by
            obtain rfl : oj = oj' := Option.some.inj (hoj.symm.trans hj')
            exact hall e he hb)
          rw [hiun] at this
          cases this
      have h2 := wpOpIn_putIf hF (noDefer_spec hnd hoj) hoj (hfree j oj hoj hji hjun hnot) (fun cs b => hsel i oi cs b hi) (fun cs b => hsel j oj cs b hoj) hQ hy h1
      have hun' : ∀ k, (listed.setIfInBounds j true).getD k true = false → listed.getD k true = false := fun k hun => by
        by_cases hjk : j = k
        · subst hjk; exact hjun
        · rw [getD_set_ne true hjk] at hun; exact hun
      refine wpOpIn_mono (fun a' w' h3 => ⟨fun _ => h3.2.1 hkj, ih (listed.setIfInBounds j true) a' w' (hcl.set hj) (fun k ok hk hki hun hno => hfree k ok hk hki (hun' k hun) hno)
        (fun k hks hki hun => hkp k hks hki (hun' k hun)) (ready_mono hr (Ne.symm hji)) h3.1 (h3.2.1 hkj) ?_⟩) h2
      rw [Array.setIfInBounds_comm _ _ hji]
      exact h3.2.2

def wpMidI (F : Fence) (n : Nat) (P : Program) (ops : Array Oper) (Q : Exit → Act → World → Prop) (C : World → Prop) (post : List Oper) : List (Oper × Bool) → Act → World → Prop
  | [], a, w => wpListIn F n P ops Q post a w
  | (o, t) :: r, a, w =>
    if t = true then (if Region.wanted o (yielded ops a.tmps) then o.quiet P a C (fun a' => wpMidI F n P ops Q C post r a' w) else wpMidI F n P ops Q C post r (a.put o.dst undef) w)
    else if Region.wanted o (yielded ops a.tmps) then o.wpIn F n P a w (fun a' w' => C w' ∧ wpMidI F n P ops Q C post r a' w') Q else wpMidI F n P ops Q C post r (a.put o.dst undef) w

theorem wpAnyGI_one (hF : ∀ f, F.fn f) {kp : Nat → Bool} : ∀ (post : List Nat) (listed : Array Bool) (a : Act) (w : World), (∀ i ∈ post, kp i = false) → seqOne md ops post listed = true →
    wpListIn F n P ops Q (post.map fun i => ops.getD i default) a w → wpAnyGI F n P md ops Q C kp post.length listed a w
  | [], listed, a, w, _, hB, h => ⟨by simpa [seqOne] using hB, h⟩
  | i :: r, listed, a, w, hk, hB, h => by
    simp only [seqOne, Bool.and_eq_true, decide_eq_true_eq] at hB
    refine ⟨fun h0 => (by rw [hB.1] at h0; cases h0), fun j hj => ?_⟩
    obtain ⟨_, o, ho, _⟩ := mem_ready.1 hj
    rw [hB.1] at hj
    obtain rfl : j = i := by simpa using hj
    have hg : ops.getD j default = o := by simp [ho]
    simp only [List.map_cons, hg] at h
    unfold Go.wpOpIn
    simp only [ho]
    unfold wpListIn at h
    have hkj := hk j (by simp)
    split
    · rename_i hw
      rw [if_pos hw] at h
      exact Oper.wpIn_mono (fun a' w' h' => ⟨fun e => (by rw [hkj] at e; cases e), wpAnyGI_one hF r _ a' w' (fun i hi => hk i (by simp [hi])) hB.2 h'⟩) h
    · rename_i hw
      rw [if_neg hw] at h
      exact ⟨fun f _ => hF f, fun e => (by rw [hkj] at e; cases e), wpAnyGI_one hF r _ _ w (fun i hi => hk i (by simp [hi])) hB.2 h.2⟩

theorem wpAnyGI_take (hF : ∀ f, F.fn f) (hnd : noDefer ops = true) {post : List Nat} (hs : Region.noSelect ops = true) (hQ : ∀ d c a v w, Q (.panic c) (Act.put a d v) w → Q (.panic c) a w) {w : World} (hC : C w)
    {i fuel : Nat} {listed : Array Bool} {a : Act} {o : Oper} (hg : ops.getD i default = o) (hcl : Closed md ops listed) (hB : takeB md ops post i listed = true) (K : Act → Prop)
    (hK : ∀ v, K (a.put o.dst v) → wpAnyGI F n P md ops Q C (fun j => !post.contains j) fuel (listed.setIfInBounds i true) (a.put o.dst v) w)
    (h : if Region.wanted o (yielded ops a.tmps) then o.quiet P a C K else K (a.put o.dst undef)) :
    wpAnyGI F n P md ops Q C (fun j => !post.contains j) (fuel + 1) listed a w := by
  simp only [takeB, Bool.and_eq_true] at hB
  obtain ⟨⟨⟨hr, hf⟩, hp⟩, hkp⟩ := hB
  have hr' : i ∈ Region.ready md ops listed := by simpa using hr
  obtain ⟨hun, o', ho, hall⟩ := mem_ready.1 hr'
  have hg' : ops.getD i default = o' := by simp [ho]
  obtain rfl : o = o' := hg.symm.trans hg'
  simp only [ho] at hp
  have hy : ∃ v, YieldsIf P ops C o v a ∧ K (a.put o.dst v) := by
    by_cases hw : Region.wanted o (yielded ops a.tmps) = true
    · rw [if_pos hw] at h
      obtain ⟨v, h1, h2⟩ := h
      exact ⟨v, yieldsIf_of hp hw h1, h2⟩
    · rw [if_neg hw] at h
      exact ⟨undef, .inr ⟨by simpa using hw, rfl⟩, h⟩
  obtain ⟨v, hy, h'⟩ := hy
  refine wpAnyGI_first (N := ops.size) hF hnd ho (Region.noSelect_spec hs) (fun c a w => hQ _ c a v w) _ listed a w hcl (Region.free_spec ho hf) (fun j hj hji hjun => ?_) hr' hy hC (hK v h')
  have := List.all_eq_true.1 hkp j (List.mem_range.2 hj)
  simp only [Bool.or_eq_true, beq_iff_eq, hji, false_or, hjun, Bool.false_eq_true] at this
  exact this

theorem wpAnyGI_mid (hF : ∀ f, F.fn f) (hnd : noDefer ops = true) {post : List Nat} (hs : Region.noSelect ops = true) (hQ : ∀ d c a v w, Q (.panic c) (Act.put a d v) w → Q (.panic c) a w) :
    ∀ (mid : List (Nat × Bool)) (listed : Array Bool) (a : Act) (w : World), Closed md ops listed → C w → seqMid md ops post mid listed = true →
    wpMidI F n P ops Q C (post.map fun i => ops.getD i default) (mid.map fun i => (ops.getD i.1 default, i.2)) a w → wpAnyGI F n P md ops Q C (fun j => !post.contains j) (mid.length + post.length) listed a w
  | [], listed, a, w, _, _, hB, h => by
    rw [List.length_nil, Nat.zero_add]
    exact wpAnyGI_one hF post listed a w (fun i hi => by simp [hi]) hB h
  | (i, t) :: r, listed, a, w, hcl, hC, hB, h => by
    rw [List.length_cons, show r.length + 1 + post.length = (r.length + post.length) + 1 by omega]
    simp only [seqMid, Bool.and_eq_true] at hB
    cases t with
    | true =>
      simp only [if_true] at hB
      simp only [List.map_cons, wpMidI, if_true] at h
      exact wpAnyGI_take hF hnd (post := post) hs hQ hC (o := ops.getD i default) rfl hcl hB.1 (fun a' => wpMidI F n P ops Q C (post.map fun i => ops.getD i default) (r.map fun i => (ops.getD i.1 default, i.2)) a' w)
        (fun v h' => wpAnyGI_mid hF hnd hs hQ r _ _ w (hcl.set (takeB_ready hB.1)) hC hB.2 h') h
    | false =>
      simp only [Bool.false_eq_true, if_false, decide_eq_true_eq] at hB
      refine ⟨fun h0 => (by rw [hB.1] at h0; cases h0), fun j hj => ?_⟩
      obtain ⟨_, o, ho, _⟩ := mem_ready.1 hj
      have hj' := hj
      rw [hB.1] at hj
      obtain rfl : j = i := by simpa using hj
      have hg : ops.getD j default = o := by simp [ho]
      simp only [List.map_cons, wpMidI, Bool.false_eq_true, if_false, hg] at h
      unfold Go.wpOpIn
      simp only [ho]
      split
      · rename_i hw
        rw [if_pos hw] at h
        exact Oper.wpIn_mono (fun a' w' h' => ⟨fun _ => h'.1, wpAnyGI_mid hF hnd hs hQ r _ a' w' (hcl.set hj') h'.1 hB.2 h'.2⟩) h
      · rename_i hw
        rw [if_neg hw] at h
        exact ⟨fun f _ => hF f, fun _ => hC, wpAnyGI_mid hF hnd hs hQ r _ _ w (hcl.set hj') hC hB.2 h⟩

theorem wpAnyGI_pre (hF : ∀ f, F.fn f) (hnd : noDefer ops = true) {mid : List (Nat × Bool)} {post : List Nat} (hs : Region.noSelect ops = true) (hQ : ∀ d c a v w, Q (.panic c) (Act.put a d v) w → Q (.panic c) a w) {w : World} (hC : C w) :
    ∀ (pre : List Nat) (listed : Array Bool) (a : Act), Closed md ops listed → seqPre md ops mid post pre listed = true →
    wpQuiet P ops C (fun a' => wpMidI F n P ops Q C (post.map fun i => ops.getD i default) (mid.map fun i => (ops.getD i.1 default, i.2)) a' w) (pre.map fun i => ops.getD i default) a →
    wpAnyGI F n P md ops Q C (fun j => !post.contains j) (pre.length + (mid.length + post.length)) listed a w
  | [], listed, a, hcl, hB, h => by
    rw [List.length_nil, Nat.zero_add]
    exact wpAnyGI_mid hF hnd hs hQ mid listed a w hcl hC hB h
  | i :: r, listed, a, hcl, hB, h => by
    rw [List.length_cons, show r.length + 1 + (mid.length + post.length) = (r.length + (mid.length + post.length)) + 1 by omega]
    simp only [seqPre, Bool.and_eq_true] at hB
    simp only [List.map_cons] at h
    unfold wpQuiet at h
    exact wpAnyGI_take hF hnd (post := post) hs hQ hC (o := ops.getD i default) rfl hcl hB.1 (fun a' => wpQuiet P ops C (fun a' => wpMidI F n P ops Q C (post.map fun i => ops.getD i default) (mid.map fun i => (ops.getD i.1 default, i.2)) a' w) (r.map fun i => ops.getD i default) a')
      (fun v h' => wpAnyGI_pre hF hnd hs hQ hC r _ _ (hcl.set (takeB_ready hB.1)) hB.2 h') h

/-- THE LAW, within a fence -/
theorem wpIn_region_ords {id : Nat} {a : Act} {w : World} {l : List Oper} (pre : List Nat) (mid : List (Nat × Bool)) (post : List Nat) (hF : ∀ f, F.fn f) (hnd : noDefer l.toArray = true) (hm : P.follows .mixedOrders = true) (hB : ordB .any l.toArray pre mid post = true)
    (hQ : ∀ d c a v w, Q (.panic c) (Act.put a d v) w → Q (.panic c) a w)
    (h : wpQuiet P l.toArray (fun w' => ∃ g : Bel w.heap.size w, w' = g.val) (fun a' => wpMidI F n P l.toArray Q (fun w' => ∃ g : Bel w.heap.size w, w' = g.val) (post.map fun i => l.getD i default) (mid.map fun i => (l.getD i.1 default, i.2)) a' w.drew) (pre.map fun i => l.getD i default) a) :
    (Code.region id l.toArray true).wpIn F n P Q a w := by
  simp only [ordB, Bool.and_eq_true, decide_eq_true_eq] at hB
  obtain ⟨⟨hs, hn⟩, hB'⟩ := hB
  refine wpIn_region_any hm (wpAnyIn_of_GI (C := fun w' => ∃ g : Bel w.heap.size w, w' = g.val) (kp := fun j => !post.contains j) _ _ _ _ ?_)
  rw [hn, Nat.add_assoc]
  refine wpAnyGI_pre hF hnd hs hQ (Bel.ex (Below.refl _ w).drew) pre _ a (Closed.start _) (by simpa [hn, Nat.add_assoc] using hB') ?_
  have e : ∀ (xs : List Nat), (xs.map fun i => l.toArray.getD i default) = xs.map fun i => l.getD i default := fun xs => List.map_congr_left fun i _ => by simp [Array.getD_eq_getD_getElem?, List.getD_eq_getElem?_getD]
  have e2 : (mid.map fun i => (l.toArray.getD i.1 default, i.2)) = mid.map fun i => (l.getD i.1 default, i.2) := List.map_congr_left fun i _ => by simp [Array.getD_eq_getD_getElem?, List.getD_eq_getElem?_getD]
  rw [e, e, e2]
  exact h

theorem wpMidI_nil {post : List Oper} {a : Act} {w : World} (h : wpListIn F n P ops Q post a w) : wpMidI F n P ops Q C post [] a w := h
theorem wpMidI_run {B : Nat} {w0 : World} {post : List Oper} {o : Oper} {r : List (Oper × Bool)} {a : Act} {w : World} (hw : Region.wanted o (yielded ops a.tmps) = true)
    (h : ∀ K : Act → World → Prop, (∀ a w', Below B w0 w' → wpMidI F n P ops Q (fun w' => ∃ g : Bel B w0, w' = g.val) post r a w' → K a w') → o.wpIn F n P a w K Q) : wpMidI F n P ops Q (fun w' => ∃ g : Bel B w0, w' = g.val) post ((o, false) :: r) a w := by
  have := h (fun a w' => (∃ g : Bel B w0, w' = g.val) ∧ wpMidI F n P ops Q (fun w' => ∃ g : Bel B w0, w' = g.val) post r a w') (fun a w h1 h2 => ⟨Bel.ex h1, h2⟩)
  simp only [wpMidI, Bool.false_eq_true, if_false, hw, if_true]
  exact this
theorem wpMidI_take {post : List Oper} {o : Oper} {r : List (Oper × Bool)} {a : Act} {w : World} (hw : Region.wanted o (yielded ops a.tmps) = true)
    (h : ∀ K : Act → Prop, (∀ a, wpMidI F n P ops Q C post r a w → K a) → o.quiet P a C K) : wpMidI F n P ops Q C post ((o, true) :: r) a w := by
  simp only [wpMidI, if_true, hw]
  exact h _ fun a h => h
end
attribute [irreducible] wpMidI
end Go.Proofs.YtpompeancmonbaaGreat

/- The iterator over the knots of a hole: for every loop body that keeps what lay. Conditions: none. -/
namespace Go.Proofs.YtpompeancmonbaaGreat
open Go.RowKit Go.ChangeMaps
set_option maxHeartbeats 2000000
set_option maxRecDepth 100000
attribute [local go_sem] Oper.semAt_some

theorem keeps_of_below {B : Nat} {W W' : World} (h : Below W.heap.size W W') : KeepsFrom B W W' :=
  ⟨h.size, fun k _ _ hk _ => (h.block k (Array.getElem?_eq_some_iff.1 hk).1).trans hk⟩
theorem grown_none {W W' : World} (h : Below W.heap.size W W') : W.grownBy W' none := grownBy_of_below h none
theorem abides_below {β : Type} {B : Nat} {J : β → World → Prop} (hJ : AbidesFrom B J) {s : β} {W W' : World} (h : J s W) (hb : Below W.heap.size W W') : J s W' :=
  hJ s W W' none h (grown_none hb) (fun r e => by cases e)
/-- below n₀ the blocks that are not in S are as they were -/
structure KeepB (S : List Nat) (n₀ : Nat) (A B : World) : Prop where
  os : B.os = A.os
  tape : B.tape = A.tape
  output : B.output = A.output
  size : A.heap.size ≤ B.heap.size
  block : ∀ k, k < n₀ → k ∉ S → B.heap[k]? = A.heap[k]?
section
variable {S : List Nat} {n₀ : Nat} {A B C w : World}
theorem KeepB.refl (S : List Nat) (n₀ : Nat) (A : World) : KeepB S n₀ A A := ⟨rfl, rfl, rfl, Nat.le_refl _, fun _ _ _ => rfl⟩
theorem KeepB.trans (h : KeepB S n₀ A B) (h' : KeepB S n₀ B C) : KeepB S n₀ A C :=
  ⟨h'.os.trans h.os, h'.tape.trans h.tape, h'.output.trans h.output, Nat.le_trans h.size h'.size, fun k h1 h2 => (h'.block k h1 h2).trans (h.block k h1 h2)⟩
theorem KeepB.of_chg (h : Chg S A B) (hn : n₀ ≤ A.heap.size) : KeepB S n₀ A B := ⟨h.os, h.tape, h.output, h.size, fun k h1 h2 => h.block k (by omega) h2⟩
theorem KeepB.of_below (h : Below A.heap.size A B) (hn : n₀ ≤ A.heap.size) : KeepB S n₀ A B := KeepB.of_chg (Chg.of_below h) hn
theorem Chg.keep (h : Chg S w A) (k : KeepB S w.heap.size A B) : Chg S w B :=
  ⟨k.os.trans h.os, k.tape.trans h.tape, k.output.trans h.output, Nat.le_trans h.size k.size, fun i h1 h2 => (k.block i h1 h2).trans (h.block i h1 h2)⟩
theorem keepB_t (h : KeepB S n₀ A B) (k : KeepB S n₀ B C) : KeepB S n₀ A C := h.trans k
theorem keepB_b (hn : n₀ ≤ w.heap.size) (W : World) (l : Nat) (o o' : Obj) (hl : w.heap.size ≤ l) (h : W.heap[l]? = some o) (h1 : o.isCells = false) (h2 : o.isWalk = false) : KeepB S n₀ W (W.putObj l o') := by
  have := belowK_b hn W l o o' hl h h1 h2
  exact ⟨this.os, this.tape, this.output, this.size, fun k hk _ => this.block k hk⟩
theorem KeepB.of_grown {row : Option Nat} (h : A.grownBy B row) (hn : n₀ ≤ A.heap.size) (hr : ∀ k, row = some k → n₀ ≤ k) : KeepB S n₀ A B := ⟨h.os, h.tape, h.output, h.size, fun k h1 _ => h.block k (by omega) (fun e => by have := hr k e.symm; omega)⟩
theorem KeepB.of_set {g i : Nat} {u : Value} (hg : g ∈ S) : KeepB S n₀ A (A.setCell ⟨g, i, none⟩ u) := ⟨rfl, rfl, rfl, by simp [World.setCell], fun k _ h2 => Below.heap_setCell A ⟨g, i, none⟩ u k (fun e => h2 (by
  have e' : k = g := e
  rw [e']; exact hg))⟩
theorem HoleAt.chg {h rb rk : Nat} {D : List Bar} (H : HoleAt w h rb rk D) (hc : Chg S w A) (h1 : h ∉ S) (h2 : rb ∉ S) (h3 : rk ∉ S) : HoleAt A h rb rk D := by
  obtain ⟨a1, ⟨mb, cb, a2, a3⟩, ⟨mk, ck, a4, a5⟩, a6, a7⟩ := H
  exact ⟨a1.chg hc h1, ⟨mb, cb, a2.chg hc h2, a3⟩, ⟨mk, ck, a4.chg hc h3, a5⟩, a6, a7⟩
end
/-- a knot and its legs, as a round gets them -/
def encs (D : List Bar) (k : Knot) : Array Value := #[kk k, lv (legsAt D k)]
theorem all_stops (n : Nat) (hn : 1 ≤ n) (S : List Nat) (bl bh h rb rk base : Nat) (D : List Bar) (v : Value) (w : World) (h1 : bl ∉ S) (h2 : bh ∉ S) (h3 : h ∉ S) (h4 : rb ∉ S) (h5 : rk ∉ S) (hS : ∀ k ∈ S, k < base)
    (hBl : Blk w bl 41 #[v]) (hBh : Blk w bh 93 #[.pointer (some ⟨h, 0, none⟩)]) (H : HoleAt w h rb rk D) (hv : OwK base w v (holeK D)) :
    SeqStopsK Fence.wide n Tryz.prog 102 #[.pointer (some ⟨bl, 0, none⟩), .pointer (some ⟨bh, 0, none⟩)] (encs D) (KeepB S w.heap.size) (fun ys => ys = holeK D) (fun pre => pre <+: holeK D) (holeK D).length w := fun l J Jx W hW hJ _ hY h0 => by
  obtain ⟨A, c, rfl⟩ := hv.shape
  have hl : (holeK D).length ≤ maxLen := by
    obtain ⟨A', c', e, hlc, hcm, _⟩ := hv.rd kc_len
    omega
  unfold maxLen at hl
  obtain ⟨kn, hkn⟩ : ∃ kn, holeK D = kn := ⟨_, rfl⟩
  rw [hkn] at hY hl hv hBl ⊢
  clear hkn
  have hBlW := hBl.below hW
  have fBl := hBlW.facts
  have hcW : Chg S w W := Chg.of_below hW
  refine callsIn_of_wp Tryz.func102 rfl trivial ?_ rfl
  simp only [Tryz.ntmps102, List.size_toArray, List.length_cons, List.length_nil, Nat.reduceAdd, Nat.reduceSub, Array.replicate_succ, Array.replicate_zero, List.push_toArray, List.append_toArray, List.nil_append, List.cons_append]
  gi_wp2
  gi_loopw [8] (fun i wr => ∃ k : Nat, k ≤ kn.length ∧ i = .int .i64 k ∧ J (kn.take k) wr ∧ Chg S w wr ∧ W.heap.size ≤ wr.heap.size) (fun i _ => kn.length - (intOf i).toNat)
  case atStart => exact ⟨0, Nat.zero_le _, rfl, h0, hcW, Nat.le_refl _⟩
  case round =>
    clear fBl hBlW
    obtain ⟨k, hk, rfl, hJs, hbw, hsz⟩ := hrel
    by_cases hlt : k < kn.length
    · have hv2 := (hv.chg hbw hS).rd kc_len
      have hBl2 := hBl.chg hbw h1
      have hBh2 := hBh.chg hbw h2
      have H1 := H.chg hbw h3 h4 h5
      have H2 := H1.below (bl_alloc bl_refl (.cells #[.int .i64 kn[k].1, .int .i64 kn[k].2] 32))
      obtain ⟨A', c', e', _, _, hr2⟩ := hv2
      obtain ⟨rfl, rfl⟩ : A = A' ∧ c = c' := by simpa using e'
      clear e'
      obtain ⟨b, off, rfl, hb, e0, e1⟩ := hr2.knot hlt
      have hHB := H1.blk
      obtain ⟨mk, ck, hm, hok, gk⟩ := H2.knots
      obtain ⟨L, hL⟩ : ∃ L, legsAt D kn[k] = L := ⟨_, rfl⟩
      have hlook : ∀ g : Bel (wr.alloc (.cells #[.int .i64 kn[k].1, .int .i64 kn[k].2] 32)).heap.size (wr.alloc (.cells #[.int .i64 kn[k].1, .int .i64 kn[k].2] 32)),
          (Instr.lookup 120 (.map (some rk)) (.agg #[.int .i64 kn[k].1, .int .i64 kn[k].2]) false).run Tryz.prog g.val = .ok (.agg #[.bool L.1, .bool L.2.1, .bool L.2.2.1, .bool L.2.2.2]) g.val := fun g => by
        rw [look_legs (hm.below g.below) kn[k].1 kn[k].2, gk (kn[k].1, kn[k].2), legsO_getD, show legsAt D (kn[k].1, kn[k].2) = L from hL]; rfl
      have fBl2 := hBl2.facts
      have fBh2 := hBh2.facts
      have fHB := hHB.facts
      have hJ1 := abides_below hJ hJs (bl_drew (bl_alloc bl_refl (.cells #[.int .i64 kn[k].1, .int .i64 kn[k].2] 32)))
      obtain ⟨fn, tmps, assign, body, hy, hR⟩ := hY _ kn[k] _ hJ1 (by simp; omega)
      unfold encs at hy
      rw [hL] at hy
      have hy' : (Instr.yield l #[.agg #[.int .i64 kn[k].1, .int .i64 kn[k].2], .agg #[.bool L.1, .bool L.2.1, .bool L.2.2.1, .bool L.2.2.2]]).run Tryz.prog (wr.alloc (.cells #[.int .i64 kn[k].1, .int .i64 kn[k].2] 32)).drew = .ok (.round l fn tmps assign body) (wr.alloc (.cells #[.int .i64 kn[k].1, .int .i64 kn[k].2] 32)).drew := hy
      clear hy hL hm hok gk
      gi_wp2
      refine wpIn_region_ords [0, 1, 2, 3, 4, 5, 6, 7] [] [8, 9] (fun _ => trivial) (by kernel_rfl) (by kernel_rfl) (by kernel_rfl) (fun d _ _ _ _ h => by cases d <;> exact h) ?_
      simp only [List.map_cons, List.map_nil, List.getD_cons_zero, List.getD_cons_succ]
      repeat (go_big_quiet_step (fail))
      refine wpQuiet_nil ?_
      refine wpMidI_nil ?_
      gi_wp2
      refine hR.mono ?_
      rintro e W3 (⟨rfl, hJ3, hk3⟩ | ⟨rfl, hJx3⟩)
      · have hT : kn.take (k + 1) = kn.take k ++ [kn[k]] := List.take_succ_eq_append_getElem hlt
        have HT := Lib.hid hT
        clear hT
        gi_wp2
        go_roundw
        case rel => exact ⟨k + 1, by omega, by go_num, by rw [HT.out]; exact hJ3, ((hbw.alloc _).drew).keep hk3, by have := hk3.size; simp at this; omega⟩
        case measure => simp [intOf]; omega
      · have hT : kn.take (k + 1) = kn.take k ++ [kn[k]] := List.take_succ_eq_append_getElem hlt
        have HT := Lib.hid hT
        clear hT
        gi_wp2
        refine bodyPost_ret (results_none rfl _ _ _) rfl ?_
        exact ⟨⟨_, rfl⟩, .inr ⟨_, by rw [← HT.out]; exact List.take_prefix _ _, hJx3⟩⟩
    · have hkl : k = kn.length := by omega
      rw [hkl, List.take_length] at hJs
      gi_wp2
      go_end0
      exact ⟨⟨_, rfl⟩, .inl ⟨_, rfl, hJs⟩⟩
end Go.Proofs.YtpompeancmonbaaGreat

/- The reference's lists of bars: has, unknown, without, the same, walked. Conditions: the slices read as lists. -/
import Derived.Test.YtpompeancmonbaaGreatE07
import Derived.Test.YtpompeancmonbaaGreatE02
import Derived.Deep.MidRow
namespace Go.Proofs.YtpompeancmonbaaGreat
open Go.RowKit
set_option maxHeartbeats 2000000
set_option maxRecDepth 100000

/-- a bar is in a list -/
def hasb (l : List Bar) (b : Bar) : Bool := decide (b ∈ l)
theorem hasb_nil (b : Bar) : hasb [] b = false := by simp [hasb]
theorem hasb_drop {l : List Bar} {k : Nat} (hk : k < l.length) (b : Bar) : hasb (l.drop k) b = (beqB l[k].1 l[k].2.1 l[k].2.2 b.1 b.2.1 b.2.2 || hasb (l.drop (k + 1)) b) := by
  rw [List.drop_eq_getElem_cons hk]
  unfold hasb
  rw [Bool.eq_iff_iff, Bool.or_eq_true, decide_eq_true_eq, decide_eq_true_eq, List.mem_cons, beqB_true]
  constructor
  · rintro (h | h)
    · exact .inl h.symm
    · exact .inr h
  · rintro (h | h)
    · exact .inl h.symm
    · exact .inr h

theorem has_any {v : Value} (l : List Bar) (x y s : Int) (w : World) (h : SlB w v l) : Calls Tryz.prog 113 #[v, .agg #[.int .i64 x, .int .i64 y, .int .i64 s]] w (RV w (.bool (hasb l (x, y, s)))) := by
  obtain ⟨A, c, rfl, hlc, hcm, h⟩ := h
  have hl : l.length ≤ maxLen := Nat.le_trans hlc hcm
  unfold maxLen at hl
  have hB := Blk.new w 46 #[.int .i64 x, .int .i64 y, .int .i64 s]
  go_enter Tryz.func113, Tryz.ntmps113
  go_wp2
  go_loopw [5] (fun i wr => ∃ k : Nat, k ≤ l.length ∧ i = .int .i64 k ∧ Hid (hasb l (x, y, s) = hasb (l.drop k) (x, y, s)) ∧ Blk wr w.heap.size 46 #[.int .i64 x, .int .i64 y, .int .i64 s] ∧ Below w.heap.size w wr) (fun i _ => l.length - (intOf i).toNat)
  case atStart => exact ⟨0, Nat.zero_le _, rfl, by simp [Hid], hB, by (repeat (first | exact bl_refl | assumption | (apply bl_then; assumption) | refine bl_alloc ?_ _ | refine bl_drew ?_ | refine bl_drewN ?_ _))⟩
  case round =>
    clear hB
    obtain ⟨k, hk, rfl, H, hB, hbw⟩ := hrel
    by_cases hlt : k < l.length
    · have hr := h.below hbw
      obtain ⟨b, off, rfl, hb, e0, e1, e2⟩ := hr.bar hlt
      have fB := hB.facts
      have HD := Lib.hid (hasb_drop hlt (x, y, s))
      obtain ⟨g, hg⟩ : ∃ g, beqB l[k].1 l[k].2.1 l[k].2.2 x y s = g := ⟨_, rfl⟩
      cases g
      · go_wp2
        refine wp_region_ords [0, 1, 2, 3, 4, 5] [] [] (by kernel_rfl) (by kernel_rfl) (fun d _ _ _ _ h => by cases d <;> exact h) ?_
        simp only [List.map_cons, List.map_nil, List.getD_cons_zero, List.getD_cons_succ]
        repeat (go_big_quiet_step (fail))
        refine wpQuiet_nil ?_
        refine wpMid_nil ?_
        go_wp2
        go_roundw
        case rel => exact ⟨k + 1, by omega, by go_num, by rw [H.out, HD.out, hg]; rfl, hB.below (by (repeat (first | exact bl_refl | assumption | (apply bl_then; assumption) | refine bl_alloc ?_ _ | refine bl_drew ?_ | refine bl_drewN ?_ _))), by (repeat (first | exact bl_refl | assumption | (apply bl_then; assumption) | refine bl_alloc ?_ _ | refine bl_drew ?_ | refine bl_drewN ?_ _))⟩
        case measure => simp [intOf]; omega
      · go_wp2
        refine wp_region_ords [0, 1, 2, 3, 4, 5] [] [] (by kernel_rfl) (by kernel_rfl) (fun d _ _ _ _ h => by cases d <;> exact h) ?_
        simp only [List.map_cons, List.map_nil, List.getD_cons_zero, List.getD_cons_succ]
        repeat (go_big_quiet_step (fail))
        refine wpQuiet_nil ?_
        refine wpMid_nil ?_
        go_wp2
        go_ret
        exact ⟨ret_bool (by rw [H.out, HD.out, hg]; rfl), by (repeat (first | exact bl_refl | assumption | (apply bl_then; assumption) | refine bl_alloc ?_ _ | refine bl_drew ?_ | refine bl_drewN ?_ _))⟩
    · have hkl : k = l.length := by omega
      go_wp2
      go_ret
      refine ⟨ret_bool ?_, by (repeat (first | exact bl_refl | assumption | (apply bl_then; assumption) | refine bl_alloc ?_ _ | refine bl_drew ?_ | refine bl_drewN ?_ _))⟩
      rw [H.out, hkl, List.drop_length, hasb_nil]

/-- a list has a bar that is not in another one -/
def unk (l a : List Bar) : Bool := l.any fun b => !hasb a b
theorem unk_drop {l : List Bar} {k : Nat} (hk : k < l.length) (a : List Bar) : unk (l.drop k) a = (!hasb a l[k] || unk (l.drop (k + 1)) a) := by
  rw [List.drop_eq_getElem_cons hk]
  unfold unk
  rw [List.any_cons]

theorem unknown_any {v u : Value} (l a : List Bar) (w : World) (h : SlB w v l) (ha : SlB w u a) : Calls Tryz.prog 71 #[v, u] w (RV w (.bool (unk l a))) := by
  obtain ⟨A, c, rfl, hlc, hcm, h⟩ := h
  have hl : l.length ≤ maxLen := Nat.le_trans hlc hcm
  unfold maxLen at hl
  go_enter Tryz.func71, Tryz.ntmps71
  go_wp2
  go_loopw [5] (fun i wr => ∃ k : Nat, k ≤ l.length ∧ i = .int .i64 k ∧ Hid (unk l a = unk (l.drop k) a) ∧ Below w.heap.size w wr) (fun i _ => l.length - (intOf i).toNat)
  case atStart => exact ⟨0, Nat.zero_le _, rfl, by simp [Hid], by (repeat (first | exact bl_refl | assumption | (apply bl_then; assumption) | refine bl_alloc ?_ _ | refine bl_drew ?_ | refine bl_drewN ?_ _))⟩
  case round =>
    obtain ⟨k, hk, rfl, H, hbw⟩ := hrel
    by_cases hlt : k < l.length
    · have hr := h.below hbw
      have har := ha.below hbw
      obtain ⟨b, off, rfl, hb, e0, e1, e2⟩ := hr.bar hlt
      have HD := Lib.hid (unk_drop hlt a)
      obtain ⟨g, hg⟩ : ∃ g, hasb a (l[k].1, l[k].2.1, l[k].2.2) = g := ⟨_, rfl⟩
      have hg' : hasb a l[k] = g := hg
      cases g
      · go_wp2_with (go_at_call 113; refine (has_any a _ _ _ _ har).mono ?_; rintro e w1 ⟨rfl, hb1⟩)
        go_ret
        exact ⟨ret_bool (by rw [H.out, HD.out, hg']; rfl), by (repeat (first | exact bl_refl | assumption | (apply bl_then; assumption) | refine bl_alloc ?_ _ | refine bl_drew ?_ | refine bl_drewN ?_ _))⟩
      · go_wp2_with (go_at_call 113; refine (has_any a _ _ _ _ har).mono ?_; rintro e w1 ⟨rfl, hb1⟩)
        go_roundw
        case rel => exact ⟨k + 1, by omega, by go_num, by rw [H.out, HD.out, hg']; rfl, by (repeat (first | exact bl_refl | assumption | (apply bl_then; assumption) | refine bl_alloc ?_ _ | refine bl_drew ?_ | refine bl_drewN ?_ _))⟩
        case measure => simp [intOf]; omega
    · have hkl : k = l.length := by omega
      go_wp2
      go_ret
      refine ⟨ret_bool ?_, by (repeat (first | exact bl_refl | assumption | (apply bl_then; assumption) | refine bl_alloc ?_ _ | refine bl_drew ?_ | refine bl_drewN ?_ _))⟩
      rw [H.out, hkl, List.drop_length]; rfl

/-- the bars of a list that are not in another one -/
def wout (l a : List Bar) : List Bar := l.filter fun b => !hasb a b
theorem wout_take {l : List Bar} {k : Nat} (hk : k < l.length) (a : List Bar) : wout (l.take (k + 1)) a = wout (l.take k) a ++ if hasb a l[k] then [] else [l[k]] := by
  unfold wout
  rw [List.take_succ_eq_append_getElem hk, List.filter_append]
  cases h : hasb a l[k] <;> simp [h]
theorem wout_len (l a : List Bar) : (wout l a).length ≤ l.length := List.length_filter_le _ _

end Go.Proofs.YtpompeancmonbaaGreat

/- A region that draws its order and holds several operations that may come in more than one order, none of which writes what was there: reads are taken, then a fact is shown of each operation's result, whatever came before, then what waits for all of these, as a plain list. Conditions: the Bool 'factsB' over the region. -/
namespace Go.Proofs.YtpompeancmonbaaGreat
open Go.RowKit

section
variable {P : Program} {ops : Array Oper} {Q : Exit → Act → World → Prop} {md : Region.Mode} {B : Nat} {w0 : World} {a0 : Act} {F : Nat → Value → World → Prop}

def putAll (ops : Array Oper) (vals : Nat → Value) : List Nat → Act → Act
  | [], a => a
  | i :: r, a => putAll ops vals r (a.put (ops.getD i default).dst (vals i))

theorem put_comm (a : Act) {d e : Option Tmp} (h : d = none ∨ d ≠ e) (u v : Value) : (a.put d u).put e v = (a.put e v).put d u := by
  cases d with
  | none => rfl
  | some d =>
    cases e with
    | none => rfl
    | some e =>
      have hde : d ≠ e := by rcases h with h | h
                             · cases h
                             · simpa using h
      simp only [Act.put]
      rw [Array.setIfInBounds_comm _ _ hde]
theorem put_put (a : Act) (d : Option Tmp) (u v : Value) : (a.put d u).put d v = a.put d v := by
  cases d with
  | none => rfl
  | some d => simp [Act.put]
theorem put_self (a : Act) (d : Option Tmp) : a.put d (match d with | some d => a.tmps.getD d undef | none => undef) = a := by
  cases d with
  | none => rfl
  | some d =>
    simp only [Act.put]
    have : a.tmps.setIfInBounds d (a.tmps.getD d undef) = a.tmps := by
      apply Array.ext
      · simp
      · intro i h1 h2
        rw [Array.getElem_setIfInBounds (by simpa using h1)]
        split
        · rename_i h; subst h; simp [Array.getD_eq_getD_getElem?, h2]
        · rfl
    rw [this]
def upd (vals : Nat → Value) (i : Nat) (u : Value) : Nat → Value := fun j => if j = i then u else vals j
/-- the results lie in different slots -/
def apartB (ops : Array Oper) : List Nat → Bool
  | [] => true
  | i :: r => r.all (fun j => !(i == j) && ((ops.getD i default).dst.isNone || !((ops.getD i default).dst == (ops.getD j default).dst))) && apartB ops r
theorem putAll_put {vals : Nat → Value} : ∀ (ms : List Nat) (a : Act) (d : Option Tmp) (u : Value), (∀ j ∈ ms, d = none ∨ d ≠ (ops.getD j default).dst) → (putAll ops vals ms a).put d u = putAll ops vals ms (a.put d u)
  | [], _, _, _, _ => rfl
  | j :: r, a, d, u, h => by
    simp only [putAll]
    rw [putAll_put r _ d u (fun k hk => h k (by simp [hk]))]
    congr 1
    have := h j (by simp)
    rcases this with h1 | h1
    · subst h1; rfl
    · exact (put_comm a (.inr h1) u _).symm
theorem putAll_same {vals vals' : Nat → Value} : ∀ (ms : List Nat) (a : Act), (∀ j ∈ ms, vals j = vals' j) → putAll ops vals ms a = putAll ops vals' ms a
  | [], _, _ => rfl
  | j :: r, a, h => by
    simp only [putAll]
    rw [h j (by simp), putAll_same r _ (fun k hk => h k (by simp [hk]))]
theorem putAll_upd {vals : Nat → Value} : ∀ (ms : List Nat) (a : Act) (i : Nat) (u : Value), apartB ops ms = true → i ∈ ms → (putAll ops vals ms a).put (ops.getD i default).dst u = putAll ops (upd vals i u) ms a
  | [], _, _, _, _, h => by cases h
  | j :: r, a, i, u, hA, hi => by
    simp only [apartB, Bool.and_eq_true] at hA
    have hall := List.all_eq_true.1 hA.1
    by_cases hij : i = j
    · subst hij
      have hni : ∀ k ∈ r, i ≠ k := fun k hk e => by
        have := hall k hk
        subst e
        simp at this
      simp only [putAll]
      rw [putAll_put r _ _ u (fun k hk => by
        have := hall k hk
        simp only [Bool.and_eq_true, Bool.or_eq_true] at this
        rcases this.2 with h | h
        · exact .inl (by simpa using h)
        · exact .inr (by simpa using h))]
      rw [put_put, show upd vals i u i = u by simp [upd]]
      exact putAll_same r _ fun k hk => by simp [upd, (hni k hk).symm]
    · have hir : i ∈ r := by simpa [hij] using hi
      simp only [putAll]
      rw [putAll_upd r _ i u hA.2 hir, show upd vals i u j = vals j by simp [upd, Ne.symm hij]]
theorem putAll_self : ∀ (ms : List Nat) (a : Act), putAll ops (fun i => match (ops.getD i default).dst with | some d => a.tmps.getD d undef | none => undef) ms a = a
  | [], _ => rfl
  | i :: r, a => by
    simp only [putAll]
    rw [put_self]
    exact putAll_self r a

/-- from here on only ms come up, in whatever order, then post -/
def factsOk (md : Region.Mode) (ops : Array Oper) (ms post : List Nat) : Nat → Array Bool → Bool
  | 0, listed => (ms.all fun j => listed.getD j false) && seqOne md ops post listed
  | n + 1, listed => !(Region.ready md ops listed).isEmpty && (Region.ready md ops listed).all fun j => ms.contains j && !post.contains j && factsOk md ops ms post n (listed.setIfInBounds j true)
/-- what i waits for among ms -/
def waitFor (md : Region.Mode) (ops : Array Oper) (ms : List Nat) (i : Nat) : List Nat := ms.filter fun j => waitsN md ops ops.size i j

/-- the allocations D hand back pointers to new blocks -/
def New (D : List Nat) (i : Nat) (u : Value) (W W' : World) : Prop := i ∈ D → ∃ g, u = .pointer (some ⟨g, 0, none⟩) ∧ W.heap.size ≤ g ∧ g < W'.heap.size
def Apart (D : List Nat) (vals : Nat → Value) (w0 W : World) : Prop := (∀ j ∈ D, ∃ g, vals j = .pointer (some ⟨g, 0, none⟩) ∧ w0.heap.size ≤ g ∧ g < W.heap.size) ∧ ∀ i ∈ D, ∀ j ∈ D, i ≠ j → vals i ≠ vals j

theorem Apart.step {D : List Nat} {vals : Nat → Value} {w0 W W' : World} {listed : Array Bool} {i : Nat} {u : Value} (hs : w0.heap.size ≤ W.heap.size) (hs' : W.heap.size ≤ W'.heap.size) (h : Apart (D.filter fun j => listed.getD j false) vals w0 W) (hn : New D i u W W') :
    Apart (D.filter fun j => (listed.setIfInBounds i true).getD j false) (upd vals i u) w0 W' := by
  obtain ⟨h1, h2⟩ := h
  have old : ∀ j, j ∈ D.filter (fun j => (listed.setIfInBounds i true).getD j false) → j ≠ i → j ∈ D.filter fun j => listed.getD j false := fun j hj hji => by
    simp only [List.mem_filter] at hj ⊢
    rw [getD_set_ne false (Ne.symm hji)] at hj
    exact hj
  have mem : ∀ j, j ∈ D.filter (fun j => (listed.setIfInBounds i true).getD j false) → j ∈ D := fun j hj => (List.mem_filter.1 hj).1
  have far : ∀ j, j ∈ D.filter (fun j => (listed.setIfInBounds i true).getD j false) → j ≠ i → i ∈ D → vals j ≠ u := fun j hj hji hi e => by
    obtain ⟨g, hg, _, hlt⟩ := h1 j (old j hj hji)
    obtain ⟨g', hg', hge, _⟩ := hn hi
    rw [hg, hg'] at e
    simp at e
  refine ⟨fun j hj => ?_, fun k hk j hj hkj => ?_⟩
  · by_cases hji : j = i
    · subst hji
      obtain ⟨g, hg, hge, hlt⟩ := hn (mem _ hj)
      exact ⟨g, by simp [upd, hg], by omega, hlt⟩
    · obtain ⟨g, hg, hge, hlt⟩ := h1 j (old j hj hji)
      exact ⟨g, by simp [upd, hji, hg], hge, by omega⟩
  · by_cases hji : j = i
    · have hki : k ≠ i := fun e => hkj (e.trans hji.symm)
      have := far k hk hki (hji ▸ mem _ hj)
      simpa [upd, hji, hki] using this
    · by_cases hki : k = i
      · have := far j hj hji (hki ▸ mem _ hk)
        simpa [upd, hji, hki] using this.symm
      · simpa [upd, hji, hki] using h2 k (old k hk hki) j (old j hj hji) hkj
theorem facts_go {D ms post : List Nat} (hD : (D.all fun i => ms.contains i) = true) (hA : apartB ops ms = true) (hG : (ms.all fun i => (ops.getD i default).guard == none) = true)
    (hst : ∀ i v W W', F i v W → Below W.heap.size W W' → F i v W')
    (hop : ∀ i ∈ ms, ∀ vals W, Below w0.heap.size w0 W → (∀ j ∈ waitFor md ops ms i, F j (vals j) W) →
      (ops.getD i default).wp P (putAll ops vals ms a0) W (fun a' W' => Below W.heap.size W W' ∧ ∃ u, a' = (putAll ops vals ms a0).put (ops.getD i default).dst u ∧ F i u W' ∧ New D i u W W') Q)
    (hend : ∀ vals W, Below w0.heap.size w0 W → (∀ j ∈ ms, F j (vals j) W) → Apart D vals w0 W → wpList P ops Q (post.map fun i => ops.getD i default) (putAll ops vals ms a0) W) :
    ∀ (n : Nat) (listed : Array Bool) (vals : Nat → Value) (W : World), Closed md ops listed → Below w0.heap.size w0 W → (∀ j ∈ ms, listed.getD j false = true → F j (vals j) W) → Apart (D.filter fun j => listed.getD j false) vals w0 W → factsOk md ops ms post n listed = true →
      wpAnyG P md ops Q (fun w' => ∃ g : Bel w0.heap.size w0, w' = g.val) (fun j => !post.contains j) (n + post.length) listed (putAll ops vals ms a0) W
  | 0, listed, vals, W, hcl, hb, hF, hAp, hB => by
    rw [Nat.zero_add]
    simp only [factsOk, Bool.and_eq_true] at hB
    have hall := List.all_eq_true.1 hB.1
    exact wpAnyG_one post listed _ W (fun i hi => by simp [hi]) hB.2 (hend vals W hb (fun j hj => hF j hj (hall j hj)) (by
      rwa [List.filter_eq_self.2 (fun j hj => hall j (by simpa using List.all_eq_true.1 hD j hj))] at hAp))
  | n + 1, listed, vals, W, hcl, hb, hF, hAp, hB => by
    rw [show n + 1 + post.length = (n + post.length) + 1 by omega]
    simp only [factsOk, Bool.and_eq_true, Bool.not_eq_true'] at hB
    have hall := List.all_eq_true.1 hB.2
    refine ⟨fun h0 => (by rw [h0] at hB; simp at hB), fun i hi => ?_⟩
    have hi2 := hall i hi
    simp only [Bool.and_eq_true] at hi2
    have him : i ∈ ms := by simpa using hi2.1.1
    obtain ⟨hun, o, ho, hpre⟩ := mem_ready.1 hi
    have hg : ops.getD i default = o := by simp [ho]
    have hgu : o.guard = none := by
      have := List.all_eq_true.1 hG i him
      rw [hg] at this
      simpa using this
    have h1 := hop i him vals W hb (fun j hj => by
      simp only [waitFor, List.mem_filter] at hj
      exact hF j hj.1 (waitsN_listed hcl ops.size i hj.2 (fun oj hoj e he hbd => by
        obtain rfl : o = oj := Option.some.inj (ho.symm.trans hoj)
        exact hpre e he hbd)))
    rw [hg] at h1
    unfold wpOp
    simp only [ho]
    have hw : Region.wanted o (yielded ops (putAll ops vals ms a0).tmps) = true := by simp [Region.wanted, hgu]
    rw [if_pos hw]
    refine .inl (Oper.wp_mono (fun a' W' h' => ?_) h1)
    obtain ⟨hbW, u, rfl, hu, hnew⟩ := h'
    have hb' : Below w0.heap.size w0 W' := bl_then hbW hb
    refine ⟨fun _ => Bel.ex hb', ?_⟩
    have e := putAll_upd (vals := vals) ms a0 i u hA him
    rw [hg] at e
    rw [e]
    refine facts_go hD hA hG hst hop hend n (listed.setIfInBounds i true) (upd vals i u) W' (hcl.set hi) hb' (fun j hj hl => ?_) (Apart.step hb.size hbW.size hAp hnew) hi2.2
    by_cases hij : j = i
    · subst hij
      simpa [upd] using hu
    · have : (upd vals i u) j = vals j := by simp [upd, hij]
      rw [this]
      exact hst j _ W W' (hF j hj (by rwa [getD_set_ne false (Ne.symm hij)] at hl)) hbW

def factsPre (md : Region.Mode) (ops : Array Oper) (ms post : List Nat) : List Nat → Array Bool → Bool
  | [], listed => factsOk md ops ms post ms.length listed && ms.all fun j => !listed.getD j false
  | i :: r, listed => takeB md ops post i listed && factsPre md ops ms post r (listed.setIfInBounds i true)
def factsB (md : Region.Mode) (ops : Array Oper) (pre ms post : List Nat) : Bool :=
  Region.noSelect ops && decide (ops.size = pre.length + (ms.length + post.length)) && apartB ops ms && (ms.all fun i => (ops.getD i default).guard == none) && factsPre md ops ms post pre (Array.replicate ops.size false)

theorem facts_pre {D ms post : List Nat} (hD : (D.all fun i => ms.contains i) = true) {w : World} (hs : Region.noSelect ops = true) (hQ : ∀ d c a v w, Q (.panic c) (Act.put a d v) w → Q (.panic c) a w) (hA : apartB ops ms = true) (hG : (ms.all fun i => (ops.getD i default).guard == none) = true) (hb : Below w0.heap.size w0 w)
    (hst : ∀ i v W W', F i v W → Below W.heap.size W W' → F i v W') :
    ∀ (pre : List Nat) (listed : Array Bool) (a : Act), Closed md ops listed → factsPre md ops ms post pre listed = true →
    wpQuiet P ops (fun w' => ∃ g : Bel w0.heap.size w0, w' = g.val) (fun a' => (∀ i ∈ ms, ∀ vals W, Below w0.heap.size w0 W → (∀ j ∈ waitFor md ops ms i, F j (vals j) W) →
        (ops.getD i default).wp P (putAll ops vals ms a') W (fun a'' W' => Below W.heap.size W W' ∧ ∃ u, a'' = (putAll ops vals ms a').put (ops.getD i default).dst u ∧ F i u W' ∧ New D i u W W') Q) ∧
      (∀ vals W, Below w0.heap.size w0 W → (∀ j ∈ ms, F j (vals j) W) → Apart D vals w0 W → wpList P ops Q (post.map fun i => ops.getD i default) (putAll ops vals ms a') W)) (pre.map fun i => ops.getD i default) a →
    wpAnyG P md ops Q (fun w' => ∃ g : Bel w0.heap.size w0, w' = g.val) (fun j => !post.contains j) (pre.length + (ms.length + post.length)) listed a w
  | [], listed, a, hcl, hB, h => by
    rw [List.length_nil, Nat.zero_add]
    simp only [factsPre, Bool.and_eq_true] at hB
    have hn := List.all_eq_true.1 hB.2
    have := facts_go (md := md) (a0 := a) hD hA hG hst h.1 h.2 ms.length listed (fun i => match (ops.getD i default).dst with | some d => a.tmps.getD d undef | none => undef) w hcl hb (fun j hj hl => by have := hn j hj; rw [hl] at this; cases this) (by
      rw [List.filter_eq_nil_iff.2 (fun j hj => by have := hn j (by simpa using List.all_eq_true.1 hD j hj); simpa using this)]
      exact ⟨fun j hj => by simp at hj, fun i hi => by simp at hi⟩) hB.1
    rw [putAll_self] at this
    exact this
  | i :: r, listed, a, hcl, hB, h => by
    rw [List.length_cons, show r.length + 1 + (ms.length + post.length) = (r.length + (ms.length + post.length)) + 1 by omega]
    simp only [factsPre, Bool.and_eq_true] at hB
    simp only [List.map_cons] at h
    unfold wpQuiet at h
    exact wpAnyG_take (post := post) hs hQ (Bel.ex hb) (o := ops.getD i default) rfl hcl hB.1 (fun a' => wpQuiet P ops _ _ (r.map fun i => ops.getD i default) a')
      (fun v h' => facts_pre hD hs hQ hA hG hb hst r _ _ (hcl.set (takeB_ready hB.1)) hB.2 h') h

theorem wp_region_facts {id : Nat} {a : Act} {w : World} {l : List Oper} (F : Nat → Value → World → Prop) (pre D ms post : List Nat) (hD : (D.all fun i => ms.contains i) = true) (hm : P.follows .mixedOrders = true) (hB : factsB .any l.toArray pre ms post = true)
    (hQ : ∀ d c a v w, Q (.panic c) (Act.put a d v) w → Q (.panic c) a w) (hst : ∀ i v W W', F i v W → Below W.heap.size W W' → F i v W')
    (h : wpQuiet P l.toArray (fun w' => ∃ g : Bel w.heap.size w, w' = g.val) (fun a' => (∀ i ∈ ms, ∀ vals W, Below w.heap.size w W → (∀ j ∈ waitFor .any l.toArray ms i, F j (vals j) W) →
        (l.getD i default).wp P (putAll l.toArray vals ms a') W (fun a'' W' => Below W.heap.size W W' ∧ ∃ u, a'' = (putAll l.toArray vals ms a').put (l.getD i default).dst u ∧ F i u W' ∧ New D i u W W') Q) ∧
      (∀ vals W, Below w.heap.size w W → (∀ j ∈ ms, F j (vals j) W) → Apart D vals w W → wpList P l.toArray Q (post.map fun i => l.getD i default) (putAll l.toArray vals ms a') W)) (pre.map fun i => l.getD i default) a) :
    (Code.region id l.toArray true).wp P Q a w := by
  simp only [factsB, Bool.and_eq_true, decide_eq_true_eq] at hB
  obtain ⟨⟨⟨⟨hs, hn⟩, hA⟩, hG⟩, hB'⟩ := hB
  refine wp_region_any hm (wpAny_of_G (C := fun w' => ∃ g : Bel w.heap.size w, w' = g.val) (kp := fun j => !post.contains j) _ _ _ _ ?_)
  have e : ∀ (xs : List Nat), (xs.map fun i => l.toArray.getD i default) = xs.map fun i => l.getD i default := fun xs => List.map_congr_left fun i _ => by simp [Array.getD_eq_getD_getElem?, List.getD_eq_getElem?_getD]
  have e2 : ∀ i, l.toArray.getD i default = l.getD i default := fun i => by simp [Array.getD_eq_getD_getElem?, List.getD_eq_getElem?_getD]
  have := facts_pre (md := .any) (w0 := w) (w := w.drew) (F := F) (ops := l.toArray) (ms := ms) (post := post) hD hs hQ hA hG (Below.refl w.heap.size w).drew hst pre _ a (Closed.start _) hB' (by
    rw [e, e]
    simp only [e2]
    exact h)
  rw [← hn] at this
  exact this
/-- one operation's part -/
theorem facts_step {D : List Nat} {o : Oper} {a : Act} {W : World} {i : Nat} (h : ∀ K : Act → World → Prop, (∀ u W' a', a' = a.put o.dst u → Below W.heap.size W W' → F i u W' → New D i u W W' → K a' W') → o.wp P a W K Q) :
    o.wp P a W (fun a'' W' => Below W.heap.size W W' ∧ ∃ u, a'' = a.put o.dst u ∧ F i u W' ∧ New D i u W W') Q :=
  h _ fun u _ _ he hb hf hn => ⟨hb, u, he, hf, hn⟩
end
end Go.Proofs.YtpompeancmonbaaGreat

/- A whole block is written: the world behind it under a name. Conditions: the block is known whole. -/
namespace Go.Proofs.YtpompeancmonbaaGreat
open Go.RowKit

section
variable {P : Program} {w : World} {g : Nat} {t : TypeId} {cs cells : Array Value}
theorem setCells_blk : ∀ (vs : List Value) (o : Nat) (w : World) (cs : Array Value), Blk w g t cs → (∃ C, Blk (w.setCells g o vs) g t C ∧ C.size = cs.size) ∧ Chg [g] w (w.setCells g o vs)
  | [], _, w, cs, h => ⟨⟨cs, h, rfl⟩, Chg.refl⟩
  | v :: r, o, w, cs, h => by
    simp only [World.setCells]
    obtain ⟨⟨C, h1, h2⟩, h3⟩ := setCells_blk r (o + 1) (w.setCell ⟨g, o, none⟩ v) _ (h.set_ o v)
    refine ⟨⟨C, h1, by simpa using h2⟩, Chg.trans (W := w.setCell ⟨g, o, none⟩ v) ⟨rfl, rfl, rfl, by simp, fun k _ hn => Below.heap_setCell w ⟨g, o, none⟩ v k (by simpa using hn)⟩ h3⟩
theorem Blk.store_ (h : Blk w g t cs) (ty : TypeId) (hsz : cells.size = cs.size) (hi : (P.info? ty).map (·.size) = some cells.size) (h1 : cells.all (·.oneCell') = true) :
    ∃ W', (storeVar ty ⟨g, 0, none⟩ (.agg cells)).run P w = .ok () W' ∧ Blk W' g t cells ∧ Chg [g] w W' := by
  have ht : w.there g 0 cells.size := fun j hj => by
    rw [Nat.zero_add, h.cell, h.frozen]
    simp [hsz ▸ hj]
  refine ⟨_, run_storeVar_mid w g 0 ty cells ht hi h1, ?_, (setCells_blk _ _ _ _ h).2⟩
  obtain ⟨C, hC, hCs⟩ := (setCells_blk (g := g) (t := t) cells.toList 0 w cs h).1
  have hr := World.rangeAt_setCells_same w g 0 cells.toList (by simpa using ht)
  have : C = cells := by
    apply Array.ext
    · omega
    · intro i h1 h2
      have := hr i cells[i] (by simp [h2])
      rw [Nat.zero_add, hC.cell] at this
      simpa [h1] using this
  unfold Blk at hC ⊢
  rw [hC, this]
theorem Own.chg {α : Type} {enc : α → List Value} {sz base : Nat} {e : TypeId} {w w' : World} {v : Value} {l : List α} {S : List Nat} (h : Own enc sz base e w v l) (hc : Chg S w w') (hS : ∀ k ∈ S, k < base) : Own enc sz base e w' v l := by
  obtain ⟨h1, h2⟩ := h
  refine ⟨h1, ?_⟩
  rcases h2 with h2 | ⟨g, cap, cur, hv, hg, hh, r⟩
  · exact .inl h2
  · exact .inr ⟨g, cap, cur, hv, hg, (hc.block g (Array.getElem?_eq_some_iff.1 hh).1 (fun hm => by have := hS g hm; omega)).trans hh, r⟩
theorem Own.shape {α : Type} {enc : α → List Value} {sz base : Nat} {e : TypeId} {w : World} {v : Value} {l : List α} (h : Own enc sz base e w v l) : ∃ A c, v = .slice A l.length c := by
  rcases h.2 with ⟨rfl, hn⟩ | ⟨g, cap, cur, rfl, _⟩
  · exact ⟨none, 0, by rw [hn]⟩
  · exact ⟨_, _, rfl⟩
theorem Blk.new1 (w : World) (o : Obj) (t : TypeId) (cs : Array Value) : Blk ((w.alloc o).alloc (.cells cs t)) (w.heap.size + 1) t cs := by
  have := Blk.new (w.alloc o) t cs
  simpa using this
theorem Blk.new2 (w : World) (o o' : Obj) (t : TypeId) (cs : Array Value) : Blk (((w.alloc o).alloc o').alloc (.cells cs t)) (w.heap.size + 1 + 1) t cs := by
  have := Blk.new ((w.alloc o).alloc o') t cs
  simpa using this
theorem Blk.new3 (w : World) (o o' o'' : Obj) (t : TypeId) (cs : Array Value) : Blk ((((w.alloc o).alloc o').alloc o'').alloc (.cells cs t)) (w.heap.size + 1 + 1 + 1) t cs := by
  have := Blk.new (((w.alloc o).alloc o').alloc o'') t cs
  simpa using this
theorem wpList_store_blk {ops : Array Oper} {rest : List Oper} {op : Oper} {a : Act} {Q : Exit → Act → World → Prop} (h : Blk w g t cs) (hgd : op.guard = none) (ty : TypeId) (x y : Operand) (ho : op.op = .store ty x y)
    (hx : a.eval x = .pointer (some ⟨g, 0, none⟩)) (hy : a.eval y = .agg cells) (hsz : cells.size = cs.size) (hi : (P.info? ty).map (·.size) = some cells.size) (h1 : cells.all (·.oneCell') = true)
    (hK : ∀ W', Blk W' g t cells → Chg [g] w W' → wpList P ops Q rest (a.put op.dst undef) W') : wpList P ops Q (op :: rest) a w := by
  refine wpList_plain hgd fun K hK' => ?_
  obtain ⟨W', hr, h2, h3⟩ := h.store_ (P := P) ty hsz hi h1
  unfold Oper.wp execOp
  simp only [ho, hx, hy, Instr.storeAt, Instr.sureAddr, Sem.run_bind, Sem.run_pure, Result.andThen_ok, hr]
  exact hK' _ _ (hK W' h2 h3)
end
end Go.Proofs.YtpompeancmonbaaGreat

/- The reference's four bars of a knot, walked. Conditions: coordinates within a million. -/
namespace Go.Proofs.YtpompeancmonbaaGreat
open Go.RowKit
set_option maxHeartbeats 2000000
set_option maxRecDepth 100000

def fourA (x y : Int) : Array Value := #[.int .i64 x, .int .i64 y, .int .i64 (-1), .int .i64 x, .int .i64 y, .int .i64 1, .int .i64 (x - 1), .int .i64 (y - 1), .int .i64 1, .int .i64 (x + 1), .int .i64 (y - 1), .int .i64 (-1)]
end Go.Proofs.YtpompeancmonbaaGreat

/- The reference's knots and bars: ends, the order, how many are missing, walked. Conditions: coordinates within a million. -/
namespace Go.Proofs.YtpompeancmonbaaGreat
open Go.RowKit
set_option maxHeartbeats 2000000
set_option maxRecDepth 100000

theorem four_get {x y : Int} {a : Nat} (ha : a < 4) : (fourA x y)[a * 3]? = some (.int .i64 (armB (x, y) a).1) ∧ (fourA x y)[a * 3 + 1]? = some (.int .i64 (armB (x, y) a).2.1) ∧ (fourA x y)[a * 3 + 2]? = some (.int .i64 (armB (x, y) a).2.2) := by
  obtain rfl | rfl | rfl | rfl : a = 0 ∨ a = 1 ∨ a = 2 ∨ a = 3 := by omega
  all_goals exact ⟨rfl, rfl, rfl⟩
theorem lget_legs (D : List Bar) (k : Knot) {a : Nat} (ha : a < 4) : lget (legsAt D k) a = hasb D (armB k a) := by
  obtain rfl | rfl | rfl | rfl : a = 0 ∨ a = 1 ∨ a = 2 ∨ a = 3 := by omega
  all_goals rfl
def missN (D : List Bar) (k : Knot) : Nat := cnt (legsAt D k)
theorem four_cells {W : World} {g : Nat} {t : TypeId} {x y : Int} (h : Blk W g t (fourA x y)) {a : Nat} (ha : a < 4) : W.cell? ⟨g, a * 3, none⟩ = some (.int .i64 (armB (x, y) a).1) ∧ W.cell? ⟨g, a * 3 + 1, none⟩ = some (.int .i64 (armB (x, y) a).2.1) ∧ W.cell? ⟨g, a * 3 + 2, none⟩ = some (.int .i64 (armB (x, y) a).2.2) := by
  rw [h.cell, h.cell, h.cell]
  exact four_get ha

end Go.Proofs.YtpompeancmonbaaGreat

/- Small functions of the statement's file, of the reference and of the program, walked. Conditions: what is read is known. -/
namespace Go.Proofs.YtpompeancmonbaaGreat
open Go.RowKit
set_option maxHeartbeats 2000000
set_option maxRecDepth 100000

theorem mwhen_any (b : Bool) (n : Int) (w : World) : Calls Tryz.prog 46 #[.bool b, .int .i64 n] w (RV w (.int .i64 (whenI b n))) := by
  cases b
  all_goals
    go_enter Tryz.func46, Tryz.ntmps46
    go_wp2
    go_ret
    exact ⟨rfl, bl_refl⟩
theorem mwithin_any (n lo hi : Int) (w : World) : Calls Tryz.prog 49 #[.int .i64 n, .int .i64 lo, .int .i64 hi] w (RV w (.int .i64 (withinI n lo hi))) := by
  go_enter Tryz.func49, Tryz.ntmps49
  go_wp2_with (go_at_call 46; refine (mwhen_any _ _ _).mono ?_; rintro e w1 ⟨rfl, hb1⟩)
  all_goals go_ret
  · exact ⟨rfl, hb1⟩
  · exact ⟨ret_int (by simp [withinI, *]), hb1⟩
theorem mfirst_any (l : List Int) (A : Option Addr) (c : Nat) (w : World) (hl : l.length ≤ maxLen) (h : Rd ic 1 w A l) :
    Calls Tryz.prog 44 #[.slice A l.length c] w (RV w (.int .i64 (firstI l))) := by
  unfold maxLen at hl
  go_enter Tryz.func44, Tryz.ntmps44
  go_wp2
  go_loop [7] (fun i => ∃ k : Nat, k ≤ l.length ∧ i = .int .i64 k ∧ Hid (firstI l = firstI (l.drop k))) (fun i => l.length - (intOf i).toNat)
  case atStart => exact ⟨0, Nat.zero_le _, rfl, rfl⟩
  case round =>
    obtain ⟨k, hk, rfl, H⟩ := hrel
    by_cases hlt : k < l.length
    · obtain ⟨b, off, rfl, hb, hc⟩ := h.int hlt
      have hd := Lib.hid (firstI_drop hlt)
      go_wp2
      · have hne : (l[k] != 0) = true := by assumption
        go_ret
        refine ⟨ret_int ?_, bl_refl⟩
        rw [H.out, hd.out, if_neg (by simpa using hne)]
      · have hne : (l[k] != 0) = false := by assumption
        go_round
        case rel => exact ⟨k + 1, by omega, by go_num, by rw [H.out, hd.out, if_pos (by simpa using hne)]; rfl⟩
        case measure => simp [intOf]; omega
    · have hkl : k = l.length := by omega
      go_wp2
      go_ret
      refine ⟨ret_int ?_, bl_refl⟩
      rw [H.out, hkl, List.drop_length]; rfl
def otherK (b : Bar) (k : Knot) : Knot := if lowK b = k then uppK b else lowK b
def kltB (x y x' y' : Int) : Bool := decide (y < y' ∨ y = y' ∧ x < x')
end Go.Proofs.YtpompeancmonbaaGreat

/- Lists told apart; the torn net copied; the reference's check of it, walked. Conditions: the slices read as lists. -/
namespace Go.Proofs.YtpompeancmonbaaGreat
open Go.RowKit
set_option maxHeartbeats 2000000
set_option maxRecDepth 100000

theorem same_drop {α : Type} [DecidableEq α] {l r : List α} {k : Nat} (hlen : l.length = r.length) (hk : k < l.length) : decide (l.drop k = r.drop k) = (decide (l[k] = r[k]'(hlen ▸ hk)) && decide (l.drop (k + 1) = r.drop (k + 1))) := by
  rw [List.drop_eq_getElem_cons hk, List.drop_eq_getElem_cons (l := r) (show k < r.length by omega)]
  rw [Bool.eq_iff_iff, Bool.and_eq_true, decide_eq_true_eq, decide_eq_true_eq, decide_eq_true_eq, List.cons.injEq]
/-- a torn net: its value reads as two lists -/
theorem short_any {v u : Value} (N D : List Bar) (n : Int) (w : World) (hN : SlB w v N) (hD : SlB w u D) : Calls Tryz.prog 28 #[.agg #[v, u], .int .i64 n] w (RV w (.bool (decide ((N.length : Int) ≤ n) && decide ((D.length : Int) ≤ n)))) := by
  obtain ⟨A, c, rfl, hlc, hcm, h⟩ := hN
  obtain ⟨A', c', rfl, hlc', hcm', h'⟩ := hD
  have hl : N.length ≤ maxLen := Nat.le_trans hlc hcm
  have hl' : D.length ≤ maxLen := Nat.le_trans hlc' hcm'
  unfold maxLen at hl hl'
  go_enter Tryz.func28, Tryz.ntmps28
  go_wp2
  all_goals go_ret
  all_goals refine ⟨ret_bool ?_, by (repeat (first | exact bl_refl | assumption | (apply bl_then; assumption) | refine bl_alloc ?_ _ | refine bl_drew ?_ | refine bl_drewN ?_ _))⟩
  all_goals
    simp [*]
    try omega
theorem rnet_sl {v : Value} (l : List Bar) (w : World) (h : SlB w v l) : Calls Tryz.prog 11 #[v] w (RV w (.int .i64 (netE l))) := by
  obtain ⟨A, c, rfl, hlc, hcm, h⟩ := h
  exact rnet_any l A c w (Nat.le_trans hlc hcm) h
def tornE (N D : List Bar) : Int := firstI [netE N, netE D, whenI (unk D N) 10]
theorem rtorn_any {v u : Value} (N D : List Bar) (w : World) (hN : SlB w v N) (hD : SlB w u D) : Calls Tryz.prog 29 #[.agg #[v, u]] w (RV w (.int .i64 (tornE N D))) := by
  have hB := Blk.new w 24 #[v, u]
  have hN0 := hN.alloc (.cells #[v, u] 24)
  have hD0 := hD.alloc (.cells #[v, u] 24)
  go_enter Tryz.func29, Tryz.ntmps29
  go_wp2_with (first | (go_at_call 11; refine (rnet_sl _ _ (by assumption)).mono ?_; rintro e w1 ⟨rfl, hb1⟩; (first | replace hB := hB.st0 hb1 | replace hB := hB.st1 hb1 | replace hB := hB.std hb1 | replace hB := hB.std1 hb1 | replace hB := hB.st2 hb1 | replace hB := hB.std2 hb1 | replace hB := hB.st3 hb1); have kB := hB.facts; (first | replace hN0 := hN0.st0 hb1 | replace hN0 := hN0.st1 hb1 | replace hN0 := hN0.std hb1 | replace hN0 := hN0.std1 hb1 | replace hN0 := hN0.st2 hb1 | replace hN0 := hN0.std2 hb1 | replace hN0 := hN0.st3 hb1); (first | replace hD0 := hD0.st0 hb1 | replace hD0 := hD0.st1 hb1 | replace hD0 := hD0.std hb1 | replace hD0 := hD0.std1 hb1 | replace hD0 := hD0.st2 hb1 | replace hD0 := hD0.std2 hb1 | replace hD0 := hD0.st3 hb1)) | (go_at_call 71; refine (unknown_any D N _ hD0 hN0).mono ?_; rintro e w1 ⟨rfl, hb1⟩))
  all_goals go_ret
  all_goals refine ⟨ret_int ?_, by (repeat (first | exact bl_refl | assumption | (apply bl_then; assumption) | refine bl_alloc ?_ _ | refine bl_drew ?_ | refine bl_drewN ?_ _))⟩
  all_goals simp_all [tornE, firstI, whenI]
end Go.Proofs.YtpompeancmonbaaGreat

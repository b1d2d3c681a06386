/- Two nets merged, plain. Conditions: the nets are in their order. -/
import Derived.Test.YtpompeancmonbaaGreatD07
import Derived.Test.YtpompeancmonbaaGreatD15
import Derived.Test.YtpompeancmonbaaGreatD21
import Derived.Test.YtpompeancmonbaaGreatD20
import Derived.Test.YtpompeancmonbaaGreatD22
import Derived.Test.YtpompeancmonbaaGreatD24
import Derived.Test.YtpompeancmonbaaGreatD12
import Derived.Test.YtpompeancmonbaaGreatD30
import Derived.Test.YtpompeancmonbaaGreatD26
import Derived.Test.YtpompeancmonbaaGreatD27
namespace Go.Proofs.YtpompeancmonbaaGreat
open Go.RowKit Go.ChangeMaps
set_option maxHeartbeats 4000000
set_option maxRecDepth 100000

theorem blt_all {x y : Bar} {l : List Bar} (h : bltP x y) (hs : (y :: l).Pairwise bltP) : ∀ z ∈ y :: l, bltP x z := fun z hz => by
  rcases List.mem_cons.1 hz with rfl | hz
  · exact h
  · exact bltP_trans h ((List.pairwise_cons.1 hs).1 z hz)
theorem blt_tri {a b : Bar} (h : ¬ bltP a b) (hne : a ≠ b) : bltP b a := by
  rw [bltP_iff] at h ⊢
  obtain ⟨x, y, s⟩ := a
  obtain ⟨x', y', s'⟩ := b
  simp only [ne_eq, Prod.mk.injEq] at *
  omega
/-- what is kept, as a test on the two lists -/
def kept (K : Bool → Bool → Bool) (a b : List Bar) (x : Bar) : Prop := (x ∈ a ∨ x ∈ b) ∧ K (decide (x ∈ a)) (decide (x ∈ b)) = true
theorem if_mem {p : Bool} {x y : Bar} : y ∈ (if p then [x] else []) ↔ y = x ∧ p = true := by cases p <;> simp
theorem merge_cons {x : Bar} {p : Bool} {r : List Bar} (hr : r.Pairwise bltP) (hx : ∀ z ∈ r, bltP x z) : ((if p then [x] else []) ++ r).Pairwise bltP := by
  cases p
  · simpa using hr
  · simpa using ⟨fun a b c h => hx _ h, hr⟩
theorem mergeF_spec (K : Bool → Bool → Bool) : ∀ (n : Nat) (a b : List Bar), a.Pairwise bltP → b.Pairwise bltP → a.length + b.length ≤ n → (mergeF K n a b).Pairwise bltP ∧ ∀ x, x ∈ mergeF K n a b ↔ kept K a b x
  | 0, a, b, _, _, h => by
    obtain rfl : a = [] := List.eq_nil_of_length_eq_zero (by omega)
    obtain rfl : b = [] := List.eq_nil_of_length_eq_zero (by omega)
    simp [mergeF, kept]
  | n + 1, [], [], _, _, _ => by simp [mergeF, kept]
  | n + 1, x :: a, [], ha, hb, h => by
    obtain ⟨h1, h2⟩ := mergeF_spec K n a [] (List.pairwise_cons.1 ha).2 hb (by simp at h ⊢; omega)
    have hxa : x ∉ a := fun hm => bltP_irrefl x ((List.pairwise_cons.1 ha).1 x hm)
    refine ⟨merge_cons h1 fun z hz => (List.pairwise_cons.1 ha).1 z (by have := ((h2 z).1 hz).1; simpa using this), fun z => ?_⟩
    simp only [mergeF, List.mem_append, if_mem, h2]
    unfold kept
    by_cases hz : z = x
    · subst hz; simp [hxa]
    · simp [hz]
  | n + 1, [], y :: b, ha, hb, h => by
    obtain ⟨h1, h2⟩ := mergeF_spec K n [] b ha (List.pairwise_cons.1 hb).2 (by simp at h ⊢; omega)
    have hyb : y ∉ b := fun hm => bltP_irrefl y ((List.pairwise_cons.1 hb).1 y hm)
    refine ⟨merge_cons h1 fun z hz => (List.pairwise_cons.1 hb).1 z (by have := ((h2 z).1 hz).1; simpa using this), fun z => ?_⟩
    simp only [mergeF, List.mem_append, if_mem, h2]
    unfold kept
    by_cases hz : z = y
    · subst hz; simp [hyb]
    · simp [hz]
  | n + 1, x :: a, y :: b, ha, hb, h => by
    have hxa : x ∉ a := fun hm => bltP_irrefl x ((List.pairwise_cons.1 ha).1 x hm)
    have hyb : y ∉ b := fun hm => bltP_irrefl y ((List.pairwise_cons.1 hb).1 y hm)
    simp only [List.length_cons] at h
    simp only [mergeF]
    split
    · rename_i hlt
      obtain ⟨h1, h2⟩ := mergeF_spec K n a (y :: b) (List.pairwise_cons.1 ha).2 hb (by simp; omega)
      have hxb : x ∉ y :: b := fun hm => bltP_irrefl x (blt_all hlt hb x hm)
      refine ⟨merge_cons h1 fun z hz => ?_, fun z => ?_⟩
      · rcases ((h2 z).1 hz).1 with hz | hz
        · exact (List.pairwise_cons.1 ha).1 z hz
        · exact blt_all hlt hb z hz
      · rw [List.mem_append, if_mem, h2]
        unfold kept
        by_cases hz : z = x
        · subst hz; simp [hxa, hxb]
        · simp only [List.mem_cons (a := z) (b := x), hz, false_or, false_and]
    · rename_i hn
      split
      · rename_i hxy
        subst hxy
        obtain ⟨h1, h2⟩ := mergeF_spec K n a b (List.pairwise_cons.1 ha).2 (List.pairwise_cons.1 hb).2 (by omega)
        refine ⟨merge_cons h1 fun z hz => ?_, fun z => ?_⟩
        · rcases ((h2 z).1 hz).1 with hz | hz
          · exact (List.pairwise_cons.1 ha).1 z hz
          · exact (List.pairwise_cons.1 hb).1 z hz
        · rw [List.mem_append, if_mem, h2]
          unfold kept
          by_cases hz : z = x
          · subst hz; simp [hxa, hyb]
          · simp only [List.mem_cons (a := z) (b := x), hz, false_or, false_and]
      · rename_i hne
        have hyx := blt_tri hn hne
        obtain ⟨h1, h2⟩ := mergeF_spec K n (x :: a) b ha (List.pairwise_cons.1 hb).2 (by simp; omega)
        have hya : y ∉ x :: a := fun hm => bltP_irrefl y (blt_all hyx ha y hm)
        refine ⟨merge_cons h1 fun z hz => ?_, fun z => ?_⟩
        · rcases ((h2 z).1 hz).1 with hz | hz
          · exact blt_all hyx ha z hz
          · exact (List.pairwise_cons.1 hb).1 z hz
        · rw [List.mem_append, if_mem, h2]
          unfold kept
          by_cases hz : z = y
          · subst hz; simp [hyb, hya]
          · simp only [List.mem_cons (a := z) (b := y), hz, false_or, false_and]
theorem mergeL_sorted (K : Bool → Bool → Bool) {a b : List Bar} (ha : a.Pairwise bltP) (hb : b.Pairwise bltP) : (mergeL K a b).Pairwise bltP := (mergeF_spec K _ a b ha hb (Nat.le_refl _)).1
theorem mergeL_mem (K : Bool → Bool → Bool) {a b : List Bar} (ha : a.Pairwise bltP) (hb : b.Pairwise bltP) (x : Bar) : x ∈ mergeL K a b ↔ kept K a b x := (mergeF_spec K _ a b ha hb (Nat.le_refl _)).2 x
theorem merge_minus {a b : List Bar} (ha : a.Pairwise bltP) (hb : b.Pairwise bltP) : mergeL minusK a b = wout a b :=
  sortedB_eq (mergeL_sorted _ ha hb) (ha.filter _) fun x => by
    rw [mergeL_mem _ ha hb]
    unfold kept minusK wout hasb
    simp only [List.mem_filter, Bool.and_eq_true, decide_eq_true_eq, Bool.not_eq_true', decide_eq_false_iff_not]
    constructor
    · rintro ⟨_, h1, h2⟩; exact ⟨h1, h2⟩
    · rintro ⟨h1, h2⟩; exact ⟨.inl h1, h1, h2⟩
theorem merge_meet {a b : List Bar} (ha : a.Pairwise bltP) (hb : b.Pairwise bltP) : mergeL meetK a b = meetL a b :=
  sortedB_eq (mergeL_sorted _ ha hb) (ha.filter _) fun x => by
    rw [mergeL_mem _ ha hb]
    unfold kept meetK meetL hasb
    simp only [List.mem_filter, Bool.and_eq_true, decide_eq_true_eq]
    constructor
    · rintro ⟨_, h1, h2⟩; exact ⟨h1, h2⟩
    · rintro ⟨h1, h2⟩; exact ⟨.inl h1, h1, h2⟩
theorem merge_union {a b : List Bar} (ha : a.Pairwise bltP) (hb : b.Pairwise bltP) : mergeL unionK a b = setB (a ++ b) :=
  sortedB_eq (mergeL_sorted _ ha hb) (setB_sorted _) fun x => by
    rw [mergeL_mem _ ha hb, setB_mem, List.mem_append]
    unfold kept unionK
    simp only [Bool.or_eq_true, decide_eq_true_eq]
    exact ⟨fun h => h.1, fun h => ⟨h, h⟩⟩
end Go.Proofs.YtpompeancmonbaaGreat

/- Nets whose knots are moved, of the program, walked. Conditions: bars within bounds. -/
namespace Go.Proofs.YtpompeancmonbaaGreat
open Go.RowKit Go.ChangeMaps
set_option maxHeartbeats 4000000
set_option maxRecDepth 100000

theorem mirrored_any (x y : Int) (hx : -1000000 ≤ x ∧ x ≤ 1000000) (w : World) : Calls Tryz.prog 39 #[.agg #[.int .i64 x, .int .i64 y]] w (RV w (.agg #[.int .i64 (-x), .int .i64 y])) := by
  have m1 : IntKind.i64.wrap (-x) = -x := by rw [IntWalk.i64_in _ (by omega)]
  go_enter Tryz.func39, Tryz.ntmps39
  go_wp2
  refine bodyPost_ret (v := .agg #[.int .i64 (-x), .int .i64 y]) (by simp [results, Tryz.results39, go_sem]) rfl ?_
  exact ⟨rfl, by (repeat (first | exact bl_refl | assumption | (apply bl_then; assumption) | refine bl_alloc ?_ _ | refine bl_drew ?_ | refine bl_drewN ?_ _))⟩
theorem turned_any (x y : Int) (hy : -1000000 ≤ y ∧ y ≤ 1000000) (w : World) : Calls Tryz.prog 41 #[.agg #[.int .i64 x, .int .i64 y]] w (RV w (.agg #[.int .i64 (-y), .int .i64 x])) := by
  have m1 : IntKind.i64.wrap (-y) = -y := by rw [IntWalk.i64_in _ (by omega)]
  go_enter Tryz.func41, Tryz.ntmps41
  go_wp2
  refine bodyPost_ret (v := .agg #[.int .i64 (-y), .int .i64 x]) (by simp [results, Tryz.results41, go_sem]) rfl ?_
  exact ⟨rfl, by (repeat (first | exact bl_refl | assumption | (apply bl_then; assumption) | refine bl_alloc ?_ _ | refine bl_drew ?_ | refine bl_drewN ?_ _))⟩
/-- the bar whose ends are moved -/
def mvB (mv : Knot → Knot) (b : Bar) : Bar := btwB (mv (lowK b)) (mv (uppK b))
def mvF (k1 k2 : Knot) (n₀ : Nat) (i : Nat) (v : Value) (W : World) : Prop :=
  (i = 3 → v = .agg #[.int .i64 k1.1, .int .i64 k1.2]) ∧ (i = 7 → v = .agg #[.int .i64 k2.1, .int .i64 k2.2]) ∧
  ((i = 8 ∨ i = 9) → ∃ g, v = .pointer (some ⟨g, 0, none⟩) ∧ n₀ ≤ g ∧ Blk W g 87 #[.int .i64 0, .int .i64 0])
theorem mvF_st (k1 k2 : Knot) (n₀ : Nat) : ∀ i v W W', mvF k1 k2 n₀ i v W → Below W.heap.size W W' → mvF k1 k2 n₀ i v W' := fun i v W W' h hb =>
  ⟨h.1, h.2.1, fun hi => by obtain ⟨g, h1, h0, h2⟩ := h.2.2 hi; exact ⟨g, h1, h0, h2.below hb⟩⟩
theorem moved_any {v : Value} (mv : Knot → Knot) (g : Nat) (hg3 : g = 39 ∨ g = 41)
    (hg : ∀ k W, nearKN k → Calls Tryz.prog g #[.agg #[.int .i64 k.1, .int .i64 k.2]] W (RV W (.agg #[.int .i64 (mv k).1, .int .i64 (mv k).2]))) (hnear : ∀ k, nearKN k → nearKN (mv k))
    (l : List Bar) (w : World) (h : SlB w v l) (hk : ∀ b ∈ l, BarOk b) (hlen : l.length ≤ 10000) :
    Calls Tryz.prog 38 #[v, .func (.func g) #[] #[]] w (RB w (srtB (l.map (mvB mv)))) := by
  obtain ⟨A, c, rfl, hlc, hcm, h⟩ := h
  have HK := Lib.hid hk
  clear hk
  rcases hg3 with rfl | rfl
  all_goals
    go_enter Tryz.func38, Tryz.ntmps38
    go_wp2
    go_loopw [5, 13] (fun o i wr => ∃ k : Nat, k ≤ l.length ∧ i = .int .i64 k ∧ OwB w.heap.size wr o ((l.take k).map (mvB mv)) ∧ Below w.heap.size w wr) (fun _ i _ => l.length - (intOf i).toNat)
    case atStart => exact ⟨0, Nat.zero_le _, rfl, Own.nil_, by (repeat (first | exact bl_refl | assumption | (apply bl_then; assumption) | refine bl_alloc ?_ _ | refine bl_drew ?_ | refine bl_drewN ?_ _))⟩
    case round =>
      obtain ⟨k, hk, rfl, hO, hbw⟩ := hrel
      obtain ⟨wo, rfl⟩ : ∃ x, x = wr := ⟨_, rfl⟩
      by_cases hlt : k < l.length
      · have hr := h.below hbw
        obtain ⟨b, off, rfl, hb, e0, e1, e2⟩ := hr.bar hlt
        have hbo := HK.out _ (List.getElem_mem hlt)
        have HD := Lib.hid (map_take (mvB mv) hlt)
        obtain ⟨⟨x, y, s⟩, hx⟩ : ∃ z, l[k] = z := ⟨_, rfl⟩
        rw [hx] at e0 e1 e2 hbo HD
        simp only at e0 e1 e2
        clear hx
        obtain ⟨q1, q2, q3⟩ := hbo
        simp only at q1 q2 q3
        have hll : ((l.take k).map (mvB mv)).length ≤ 10000 := by simp; omega
        have n1 : nearKN (x, y) := by unfold nearKN; simp only; omega
        have n2 : nearKN (x + s, y + 1) := by unfold nearKN; simp only; omega
        have m1 := hnear _ n1
        have m2 := hnear _ n2
        have g1 := fun W => hg _ W n1
        have g2 := fun W => hg _ W n2
        simp only at g1 g2
        obtain ⟨⟨ax, ay⟩, hk1⟩ : ∃ z, mv (x, y) = z := ⟨_, rfl⟩
        obtain ⟨⟨bx, bY⟩, hk2⟩ : ∃ z, mv (x + s, y + 1) = z := ⟨_, rfl⟩
        rw [hk1] at g1 m1
        rw [hk2] at g2 m2
        simp only at g1 g2
        have HT : Hid (mvB mv (x, y, s) = btwB (ax, ay) (bx, bY)) := by unfold Hid mvB lowK uppK; simp only; rw [hk1, hk2]
        unfold nearKN at m1 m2
        simp only at m1 m2
        clear hk1 hk2 n1 n2
        have hOa := hO.alloc (.cells #[.int .i64 x, .int .i64 y, .int .i64 s] 46)
        go_wp2_with fail
        refine (nends_any _ _ _ (by omega) (by omega) (by omega) _).mono ?_
        rintro e w1 ⟨rfl, hb1⟩
        have hO1 := hOa.below hb1
        have hbw1 : Below w.heap.size w w1 := by (repeat (first | exact bl_refl | assumption | (apply bl_then; assumption) | refine bl_alloc ?_ _ | refine bl_drew ?_ | refine bl_drewN ?_ _))
        have hE1 := Blk.new w1 115 #[.int .i64 x, .int .i64 y, .int .i64 (x + s), .int .i64 (y + 1)]
        have hO2 := hO1.alloc (.cells #[.int .i64 x, .int .i64 y, .int .i64 (x + s), .int .i64 (y + 1)] 115)
        have hbw2 : Below w.heap.size w (w1.alloc (.cells #[.int .i64 x, .int .i64 y, .int .i64 (x + s), .int .i64 (y + 1)] 115)) := by (repeat (first | exact bl_refl | assumption | (apply bl_then; assumption) | refine bl_alloc ?_ _ | refine bl_drew ?_ | refine bl_drewN ?_ _))
        obtain ⟨w2, hw2⟩ : ∃ X, w1.alloc (.cells #[.int .i64 x, .int .i64 y, .int .i64 (x + s), .int .i64 (y + 1)] 115) = X := ⟨_, rfl⟩
        rw [hw2] at hE1 hO2 hbw2
        have fE := hE1.facts
        clear hOa hO1 hO e0 e1 e2 hr
        go_upto_region 6 with fail
        clear hw2
        refine wp_region_facts (mvF (ax, ay) (bx, bY) w2.heap.size) [0, 1, 2, 4, 5, 6] [8, 9] [3, 7, 8, 9] [10, 11] (by decide) (by kernel_rfl) (by kernel_rfl) (fun d _ _ _ _ h => by cases d <;> exact h) (mvF_st (ax, ay) (bx, bY) w2.heap.size) ?_
        simp only [List.map_cons, List.map_nil, List.getD_cons_zero, List.getD_cons_succ]
        repeat (go_big_quiet_step (fail))
        refine wpQuiet_nil ⟨List.forall_mem_cons.2 ⟨?_, List.forall_mem_cons.2 ⟨?_, List.forall_mem_cons.2 ⟨?_, List.forall_mem_cons.2 ⟨?_, List.forall_mem_nil _⟩⟩⟩⟩, ?_⟩
        · intro vals W hbW hF
          refine facts_step (fun K hK => ?_)
          simp only [putAll, Array.getD_eq_getD_getElem?, List.getElem?_toArray, List.getElem?_cons_succ, List.getElem?_cons_zero, Option.getD_some, List.getD_cons_succ, List.getD_cons_zero, Act.put, List.setIfInBounds_toArray, List.set_cons_zero, List.set_cons_succ]
          go_simp
          refine (g1 _).mono ?_
          rintro e w1 ⟨rfl, hb1⟩
          exact hK _ _ _ rfl hb1 ⟨fun _ => rfl, fun h => by simp at h, fun h => by simp at h⟩ (fun h => by simp at h)
        · intro vals W hbW hF
          refine facts_step (fun K hK => ?_)
          simp only [putAll, Array.getD_eq_getD_getElem?, List.getElem?_toArray, List.getElem?_cons_succ, List.getElem?_cons_zero, Option.getD_some, List.getD_cons_succ, List.getD_cons_zero, Act.put, List.setIfInBounds_toArray, List.set_cons_zero, List.set_cons_succ]
          go_simp
          refine (g2 _).mono ?_
          rintro e w1 ⟨rfl, hb1⟩
          exact hK _ _ _ rfl hb1 ⟨fun h => by simp at h, fun _ => rfl, fun h => by simp at h⟩ (fun h => by simp at h)
        · intro vals W hbW hF
          refine facts_step (fun K hK => ?_)
          simp only [putAll, Array.getD_eq_getD_getElem?, List.getElem?_toArray, List.getElem?_cons_succ, List.getElem?_cons_zero, Option.getD_some, List.getD_cons_succ, List.getD_cons_zero, Act.put, List.setIfInBounds_toArray, List.set_cons_zero, List.set_cons_succ]
          go_simp
          exact hK _ _ _ rfl (bl_alloc bl_refl _) ⟨fun h => by simp at h, fun h => by simp at h, fun _ => ⟨_, rfl, hbW.size, Blk.new _ _ _⟩⟩ (fun _ => ⟨_, rfl, Nat.le_refl _, by simp⟩)
        · intro vals W hbW hF
          refine facts_step (fun K hK => ?_)
          simp only [putAll, Array.getD_eq_getD_getElem?, List.getElem?_toArray, List.getElem?_cons_succ, List.getElem?_cons_zero, Option.getD_some, List.getD_cons_succ, List.getD_cons_zero, Act.put, List.setIfInBounds_toArray, List.set_cons_zero, List.set_cons_succ]
          go_simp
          exact hK _ _ _ rfl (bl_alloc bl_refl _) ⟨fun h => by simp at h, fun h => by simp at h, fun _ => ⟨_, rfl, hbW.size, Blk.new _ _ _⟩⟩ (fun _ => ⟨_, rfl, Nat.le_refl _, by simp⟩)
        · intro vals W hbW hF hAp
          simp only [putAll, Array.getD_eq_getD_getElem?, List.getElem?_toArray, List.getElem?_cons_succ, List.getElem?_cons_zero, Option.getD_some, Act.put, List.setIfInBounds_toArray, List.set_cons_zero, List.set_cons_succ]
          have h1 := (hF 3 (by simp)).1 rfl
          have h3 := (hF 7 (by simp)).2.1 rfl
          obtain ⟨g4, e4, hg4, hB4⟩ := (hF 8 (by simp)).2.2 (.inl rfl)
          obtain ⟨g5, e5, hg5, hB5⟩ := (hF 9 (by simp)).2.2 (.inr rfl)
          have hne := hAp.2 8 (by simp) 9 (by simp) (by simp)
          simp only [h1, h3, e4, e5] at hne ⊢
          have hne' : ¬ g4 = g5 ∧ ¬ g5 = g4 := ⟨fun e => hne (by rw [e]), fun e => hne (by rw [e])⟩
          clear hF hAp h1 h3 e4 e5 hne fE
          refine wpList_store_blk hB4 rfl _ _ _ rfl rfl rfl (by rfl) (by kernel_rfl) (by kernel_rfl) fun w3 hB4 hc3 => ?_
          refine wpList_store_blk (hB5.chg hc3 (by simp [hne'])) rfl _ _ _ rfl rfl rfl (by rfl) (by kernel_rfl) (by kernel_rfl) fun w4 hB5 hc4 => ?_
          replace hB4 := hB4.chg hc4 (by simp [hne'])
          have f4 := hB4.facts
          have f5 := hB5.facts
          have hc := ((Chg.of_below hbW).trans (hc3.mono (S' := [g4, g5]) (by simp))).trans (hc4.mono (S' := [g4, g5]) (by simp))
          have hb4 : Below w2.heap.size w2 w4 := hc.below (by simp; omega) (Nat.le_refl _)
          have hO4 := hO2.below hb4
          have hO2b := hO2
          have hbw4 : Below w.heap.size w w4 := bl_then hb4 hbw2
          clear hc hc3 hc4 hO2
          have d1 : IntKind.i64.wrap (bx - ax) = bx - ax := IntWalk.i64_in _ (by omega)
          have d2 : IntKind.i64.wrap (ax - bx) = ax - bx := IntWalk.i64_in _ (by omega)
          by_cases hsw : bY < ay
          · have HTT : Hid (mvB mv (x, y, s) = (bx, bY, ax - bx)) := by unfold Hid; rw [HT.out]; unfold btwB; rw [if_pos hsw]
            have t1 : (bY < ay) = True := eq_true hsw
            clear hsw
            have hs4 := hb4.size
            go_wp2_with (first
              | (refine wpList_store_blk hB4 rfl _ _ _ rfl rfl rfl (by rfl) (by kernel_rfl) (by kernel_rfl) ?_; intro w7 hB7 hc7; have hB5' := hB5.chg hc7 (by simp [hne']))
              | (refine wpList_store_blk hB5' rfl _ _ _ rfl rfl rfl (by rfl) (by kernel_rfl) (by kernel_rfl) ?_; intro w8 hB8 hc8; have hB7' := hB7.chg hc8 (by simp [hne']); have f7 := hB7'.facts; have f8 := hB8.facts; have hb8 : Below w2.heap.size w2 w8 := hb4.trans (((hc7.mono (S' := [g4, g5]) (by simp)).trans (hc8.mono (S' := [g4, g5]) (by simp))).below (by simp; omega) hs4); have hO5 := hO2b.below hb8; have hbw5 := bl_then hb8 hbw2)
              | (at_builtin; refine wpList_appB1 hO5 rfl _ _ rfl rfl rfl (by simp) (by omega) hbw5.size ?_; intro v6 w6 hown6 hgr6))
            have hb6 := own_step hO5 hgr6 (by (repeat (first | exact bl_refl | assumption | (apply bl_then; assumption) | refine bl_alloc ?_ _ | refine bl_drew ?_ | refine bl_drewN ?_ _)))
            clear hgr6
            go_wp2
            go_roundw
            case rel => exact ⟨k + 1, by omega, by go_num, by rw [HD.out, HTT.out]; exact hown6, hb6⟩
            case measure => simp [intOf]; omega
          · have HTT : Hid (mvB mv (x, y, s) = (ax, ay, bx - ax)) := by unfold Hid; rw [HT.out]; unfold btwB; rw [if_neg hsw]
            have t1 : (bY < ay) = False := eq_false hsw
            clear hsw
            have hO5 := hO4
            have hbw5 := hbw4
            clear hO4 hbw4
            go_wp2_with (at_builtin; refine wpList_appB1 hO5 rfl _ _ rfl rfl rfl (by simp) (by omega) hbw5.size ?_; intro v6 w6 hown6 hgr6)
            have hb6 := own_step hO5 hgr6 (by (repeat (first | exact bl_refl | assumption | (apply bl_then; assumption) | refine bl_alloc ?_ _ | refine bl_drew ?_ | refine bl_drewN ?_ _)))
            clear hgr6
            go_wp2
            go_roundw
            case rel => exact ⟨k + 1, by omega, by go_num, by rw [HD.out, HTT.out]; exact hown6, hb6⟩
            case measure => simp [intOf]; omega
      · have HE : Hid (l.map (mvB mv) = (l.take k).map (mvB mv)) := by unfold Hid; rw [List.take_of_length_le (by omega)]
        have hO3 : OwB w.heap.size wo _ (l.map (mvB mv)) := HE.out ▸ hO
        go_wp2_with fail
        refine (sortB_anyN _ _ hO3 (by simp; omega)).mono ?_
        rintro e w4 ⟨rfl, hO4, hg4⟩
        have hb4 := own_step hO3 hg4 hbw
        go_wp2
        go_ret
        exact ⟨_, rfl, hO4, hb4⟩
end Go.Proofs.YtpompeancmonbaaGreat

/- Bars shifted, of the program, walked. Conditions: bars within bounds. -/
namespace Go.Proofs.YtpompeancmonbaaGreat
open Go.RowKit Go.ChangeMaps
set_option maxHeartbeats 4000000
set_option maxRecDepth 100000

theorem bad_in (x y s : Int) : firstI [reachI x y, reachI (x + s) (y + 1)] = if inBN (x, y, s) then 0 else 3 := by
  rw [reachI_far, reachI_far]
  unfold inBN
  simp only
  cases farB x <;> cases farB y <;> cases farB (x + s) <;> cases farB (y + 1) <;> rfl
def shE (d : Knot) (l : List Bar) : Int := if allIn (l.map (shB d)) then 0 else 3
def shL (d : Knot) (l : List Bar) : List Bar := if allIn (l.map (shB d)) then l.map (shB d) else []
theorem allIn_not {l : List Bar} {f : Bar → Bar} {k : Nat} (hk : k < l.length) (h : inBN (f l[k]) = false) : allIn (l.map f) = false := by
  unfold allIn
  rw [List.all_eq_false]
  exact ⟨f l[k], List.mem_map_of_mem (List.getElem_mem hk), by rw [h]; simp⟩
theorem nshifted_any {v : Value} (l : List Bar) (dx dy : Int) (w : World) (h : SlB w v l) (hk : ∀ b ∈ l, BarOk b) (hlen : l.length ≤ 10000) (hdx : -500000 ≤ dx ∧ dx ≤ 500000) (hdy : -500000 ≤ dy ∧ dy ≤ 500000) :
    Calls Tryz.prog 37 #[v, .agg #[.int .i64 dx, .int .i64 dy]] w (RBE w (shL (dx, dy) l) (shE (dx, dy) l)) := by
  obtain ⟨A, c, rfl, hlc, hcm, h⟩ := h
  have HK := Lib.hid hk
  have hB := Blk.new w 32 #[.int .i64 dx, .int .i64 dy]
  clear hk
  go_enter Tryz.func37, Tryz.ntmps37
  go_wp2
  go_loopw [6, 13] (fun o i wr => ∃ k : Nat, k ≤ l.length ∧ i = .int .i64 k ∧ Hid (allIn ((l.take k).map (shB (dx, dy))) = true) ∧ OwB w.heap.size wr o ((l.take k).map (shB (dx, dy))) ∧ Blk wr w.heap.size 32 #[.int .i64 dx, .int .i64 dy] ∧ Below w.heap.size w wr) (fun _ i _ => l.length - (intOf i).toNat)
  case atStart => exact ⟨0, Nat.zero_le _, rfl, rfl, Own.nil_, hB, by (repeat (first | exact bl_refl | assumption | (apply bl_then; assumption) | refine bl_alloc ?_ _ | refine bl_drew ?_ | refine bl_drewN ?_ _))⟩
  case round =>
    clear hB
    obtain ⟨k, hk, rfl, HQ, hO, hBr, hbw⟩ := hrel
    obtain ⟨wo, rfl⟩ : ∃ x, x = wr := ⟨_, rfl⟩
    by_cases hlt : k < l.length
    · have hr := h.below hbw
      obtain ⟨b, off, rfl, hb, e0, e1, e2⟩ := hr.bar hlt
      have hbo := HK.out _ (List.getElem_mem hlt)
      have HD := Lib.hid (map_take (shB (dx, dy)) hlt)
      have HA := Lib.hid (allIn_take (f := shB (dx, dy)) hlt)
      have HN := Lib.hid (@allIn_not l (shB (dx, dy)) k hlt)
      have fB := hBr.facts
      obtain ⟨⟨x, y, s⟩, hx⟩ : ∃ z, l[k] = z := ⟨_, rfl⟩
      rw [hx] at e0 e1 e2 hbo HD HA HN
      simp only at e0 e1 e2
      clear hx
      obtain ⟨q1, q2, q3⟩ := hbo
      simp only at q1 q2 q3
      have hll : ((l.take k).map (shB (dx, dy))).length ≤ 10000 := by simp; omega
      obtain ⟨x1, hx1⟩ : ∃ x1, x + dx = x1 := ⟨_, rfl⟩
      obtain ⟨y1, hy1⟩ : ∃ y1, y + dy = y1 := ⟨_, rfl⟩
      have m1 : IntKind.i64.wrap (x + dx) = x1 := by rw [IntWalk.i64_in _ (by omega)]; omega
      have m2 : IntKind.i64.wrap (y + dy) = y1 := by rw [IntWalk.i64_in _ (by omega)]; omega
      have r1 : -1000000 ≤ x1 ∧ x1 ≤ 1000000 := by omega
      have r2 : -1000000 ≤ y1 ∧ y1 ≤ 1000000 := by omega
      have HS : Hid (shB (dx, dy) (x, y, s) = (x1, y1, s)) := by unfold Hid shB; rw [← hx1, ← hy1]
      clear hx1 hy1
      rw [HS.out] at HD HA HN
      have hN0 := Blk.new wo 46 #[.int .i64 x, .int .i64 y, .int .i64 s]
      have hBa := hBr.alloc (.cells #[.int .i64 x, .int .i64 y, .int .i64 s] 46)
      have hOa := hO.alloc (.cells #[.int .i64 x, .int .i64 y, .int .i64 s] 46)
      go_upto_region 5 with fail
      obtain ⟨w1, hw1⟩ : ∃ X, wo.alloc (.cells #[.int .i64 x, .int .i64 y, .int .i64 s] 46) = X := ⟨_, rfl⟩
      have hb1 : Below wo.heap.size wo w1 := by rw [← hw1]; exact bl_alloc bl_refl _
      rw [hw1] at hN0 hBa hOa ⊢
      have fN := hN0.facts
      have fBa := hBa.facts
      clear hw1 e0 e1 e2 hr fB hOa
      go_region
      go_upto_region 6 with fail
      obtain ⟨w2, hw2⟩ : ∃ X, ((w1.setCell ⟨wo.heap.size, 0, none⟩ (.int .i64 x1)).setCell ⟨wo.heap.size, 1, none⟩ (.int .i64 y1)).drew = X := ⟨_, rfl⟩
      have hN2 : Blk w2 wo.heap.size 46 #[.int .i64 x1, .int .i64 y1, .int .i64 s] := by
        rw [← hw2]
        exact ((hN0.set_ 0 (.int .i64 x1)).set_ 1 (.int .i64 y1)).drew
      have hb2 : Below wo.heap.size wo w2 := by
        rw [← hw2]
        exact bl_drew (bl_set (bl_set hb1 (Nat.le_refl _) _) (Nat.le_refl _) _)
      have hB2 := hBr.below hb2
      have hO2 := hO.below hb2
      have hbw2 := bl_then hb2 hbw
      have fN2 := hN2.facts
      rw [hw2]
      clear hw2 fN fBa hN0 hBa hb1
      go_wp2_with fail
      refine (nends_any x1 y1 s (by omega) (by omega) (by omega) _).mono ?_
      rintro e w3 ⟨rfl, hb3⟩
      have hN3 := (hN2.below hb3).alloc (.cells #[.int .i64 x1, .int .i64 y1, .int .i64 (x1 + s), .int .i64 (y1 + 1)] 115)
      have hB3 := (hB2.below hb3).alloc (.cells #[.int .i64 x1, .int .i64 y1, .int .i64 (x1 + s), .int .i64 (y1 + 1)] 115)
      have hO3 := (hO2.below hb3).alloc (.cells #[.int .i64 x1, .int .i64 y1, .int .i64 (x1 + s), .int .i64 (y1 + 1)] 115)
      have hE3 := Blk.new w3 115 #[.int .i64 x1, .int .i64 y1, .int .i64 (x1 + s), .int .i64 (y1 + 1)]
      have hbw3 : Below w.heap.size w (w3.alloc (.cells #[.int .i64 x1, .int .i64 y1, .int .i64 (x1 + s), .int .i64 (y1 + 1)] 115)) := by (repeat (first | exact bl_refl | assumption | (apply bl_then; assumption) | refine bl_alloc ?_ _ | refine bl_drew ?_ | refine bl_drewN ?_ _))
      clear fN2 hN2 hB2 hO2 hO hBr
      go_upto_region 7 with fail
      obtain ⟨w4, hw4⟩ : ∃ X, w3.alloc (.cells #[.int .i64 x1, .int .i64 y1, .int .i64 (x1 + s), .int .i64 (y1 + 1)] 115) = X := ⟨_, rfl⟩
      rw [hw4] at hN3 hB3 hO3 hE3 hbw3 ⊢
      have fE3 := hE3.facts
      clear hw4
      have hF : ∀ A c W, Rd ic 1 W A [reachI x1 y1, reachI (x1 + s) (y1 + 1)] → Calls Tryz.prog 34 #[.slice A 2 c] W (RV W (.int .i64 (if inBN (x1, y1, s) then 0 else 3))) := fun A c W hr => by
        rw [← bad_in]
        exact nfirst_any [reachI x1 y1, reachI (x1 + s) (y1 + 1)] A c W (by simp [maxLen]) hr
      refine wp_region_ords [0, 1, 3, 4] [(2, false)] [5, 6, 7, 8] (by kernel_rfl) (by kernel_rfl) (fun d _ _ _ _ h => by cases d <;> exact h) ?_
      simp only [List.map_cons, List.map_nil, List.getD_cons_zero, List.getD_cons_succ]
      repeat (go_big_quiet_step (fail))
      refine wpQuiet_nil ?_
      refine wpMid_run rfl (fun K hK => ?_)
      go_simp
      refine (nreach_any x1 y1 _).mono ?_
      rintro e w5 ⟨rfl, hb5⟩
      refine hK _ _ (by (repeat (first | exact bl_refl | assumption | (apply bl_then; assumption) | refine bl_alloc ?_ _ | refine bl_drew ?_ | refine bl_drewN ?_ _))) ?_
      clear hK K
      have hE3_w5 := hE3.below (show Below _ _ w5 by (repeat (first | exact bl_refl | assumption | (apply bl_then; assumption) | refine bl_alloc ?_ _ | refine bl_drew ?_ | refine bl_drewN ?_ _)))
      have fhE3_w5 := hE3_w5.facts
      refine wpMid_nil ?_
      go_wp2_with fail
      refine (nreach_any (x1 + s) (y1 + 1) _).mono ?_
      rintro e w6 ⟨rfl, hb6⟩
      go_wp2_with fail
      go_must (refine (hF _ _ _ (Rd.ints2 (by simp) (by go_simp) (by go_simp))).mono ?_)
      rintro e w7 ⟨rfl, hb7⟩
      have hb47 : Below w4.heap.size w4 w7 := by (repeat (first | exact bl_refl | assumption | (apply bl_then; assumption) | refine bl_alloc ?_ _ | refine bl_drew ?_ | refine bl_drewN ?_ _))
      have hN7 := hN3.below hb47
      have hB7 := hB3.below hb47
      have hO7 := hO3.below hb47
      have hbw7 := bl_then hb47 hbw3
      have fN7 := hN7.facts
      clear hF fE3
      obtain ⟨q, hq⟩ : ∃ q, inBN (x1, y1, s) = q := ⟨_, rfl⟩
      rw [hq] at HA HN ⊢
      clear hq
      cases q
      · have HL : Hid (shL (dx, dy) l = [] ∧ shE (dx, dy) l = 3) := by
          unfold Hid shL shE
          rw [HN.out rfl]
          exact ⟨rfl, rfl⟩
        simp only [Bool.false_eq_true, if_false]
        go_wp2
        go_ret2
        exact ⟨_, by rw [HL.out.2]; rfl, by rw [HL.out.1]; exact Own.nil_, hbw7⟩
      · simp only [if_true]
        go_wp2_with (at_builtin; refine wpList_appB1 hO7 rfl _ _ rfl rfl rfl (by simp) (by omega) hbw7.size ?_; intro v8 w8 hown8 hgr8)
        have hb8 := own_step hO7 hgr8 (by (repeat (first | exact bl_refl | assumption | (apply bl_then; assumption) | refine bl_alloc ?_ _ | refine bl_drew ?_ | refine bl_drewN ?_ _)))
        have hB8 := (hB7.alloc (.cells #[.int .i64 x1, .int .i64 y1, .int .i64 s] 46)).grown hgr8 (hO7.ne_blk hB7 (by decide))
        clear hgr8
        go_wp2
        go_roundw
        case rel => exact ⟨k + 1, by omega, by go_num, by unfold Hid; rw [HA.out, HQ.out]; rfl, by rw [HD.out]; exact hown8, hB8, hb8⟩
        case measure => simp [intOf]; omega
    · have HE : Hid (l.map (shB (dx, dy)) = (l.take k).map (shB (dx, dy))) := by unfold Hid; rw [List.take_of_length_le (by omega)]
      have HL : Hid (shL (dx, dy) l = (l.take k).map (shB (dx, dy)) ∧ shE (dx, dy) l = 0) := by
        unfold Hid shL shE
        rw [HE.out, if_pos HQ.out, if_pos HQ.out]
        exact ⟨rfl, rfl⟩
      go_wp2
      go_ret2
      exact ⟨_, by rw [HL.out.2]; rfl, by rw [HL.out.1]; exact hO, hbw⟩
end Go.Proofs.YtpompeancmonbaaGreat

/- Two nets merged, plain. Conditions: the nets are in their order. -/
import Derived.Test.YtkmjcoofkgpanaaGreatDoorB21
import Derived.Test.YtkmjcoofkgpanaaGreatDoorB10
namespace Go.Proofs.YtkmjcoofkgpanaaGreatDoor
open Go.RowKit Go.ChangeMaps
set_option maxHeartbeats 4000000
set_option maxRecDepth 100000

theorem blt_all {x y : Bar} {l : List Bar} (h : bltP x y) (hs : (y :: l).Pairwise bltP) : ∀ z ∈ y :: l, bltP x z := fun z hz => by
  rcases List.mem_cons.1 hz with rfl | hz
  · exact h
  · exact bltP_trans h ((List.pairwise_cons.1 hs).1 z hz)
theorem blt_tri {a b : Bar} (h : ¬ bltP a b) (hne : a ≠ b) : bltP b a := by
  rw [bltP_iff] at h ⊢
  obtain ⟨x, y, s⟩ := a
  obtain ⟨x', y', s'⟩ := b
  simp only [ne_eq, Prod.mk.injEq] at *
  omega
/-- what is kept, as a test on the two lists -/
def kept (K : Bool → Bool → Bool) (a b : List Bar) (x : Bar) : Prop := (x ∈ a ∨ x ∈ b) ∧ K (decide (x ∈ a)) (decide (x ∈ b)) = true
theorem if_mem {p : Bool} {x y : Bar} : y ∈ (if p then [x] else []) ↔ y = x ∧ p = true := by cases p <;> simp
theorem merge_cons {x : Bar} {p : Bool} {r : List Bar} (hr : r.Pairwise bltP) (hx : ∀ z ∈ r, bltP x z) : ((if p then [x] else []) ++ r).Pairwise bltP := by
  cases p
  · simpa using hr
  · simpa using ⟨fun a b c h => hx _ h, hr⟩
theorem mergeF_spec (K : Bool → Bool → Bool) : ∀ (n : Nat) (a b : List Bar), a.Pairwise bltP → b.Pairwise bltP → a.length + b.length ≤ n → (mergeF K n a b).Pairwise bltP ∧ ∀ x, x ∈ mergeF K n a b ↔ kept K a b x
  | 0, a, b, _, _, h => by
    obtain rfl : a = [] := List.eq_nil_of_length_eq_zero (by omega)
    obtain rfl : b = [] := List.eq_nil_of_length_eq_zero (by omega)
    simp [mergeF, kept]
  | n + 1, [], [], _, _, _ => by simp [mergeF, kept]
  | n + 1, x :: a, [], ha, hb, h => by
    obtain ⟨h1, h2⟩ := mergeF_spec K n a [] (List.pairwise_cons.1 ha).2 hb (by simp at h ⊢; omega)
    have hxa : x ∉ a := fun hm => bltP_irrefl x ((List.pairwise_cons.1 ha).1 x hm)
    refine ⟨merge_cons h1 fun z hz => (List.pairwise_cons.1 ha).1 z (by have := ((h2 z).1 hz).1; simpa using this), fun z => ?_⟩
    simp only [mergeF, List.mem_append, if_mem, h2]
    unfold kept
    by_cases hz : z = x
    · subst hz; simp [hxa]
    · simp [hz]
  | n + 1, [], y :: b, ha, hb, h => by
    obtain ⟨h1, h2⟩ := mergeF_spec K n [] b ha (List.pairwise_cons.1 hb).2 (by simp at h ⊢; omega)
    have hyb : y ∉ b := fun hm => bltP_irrefl y ((List.pairwise_cons.1 hb).1 y hm)
    refine ⟨merge_cons h1 fun z hz => (List.pairwise_cons.1 hb).1 z (by have := ((h2 z).1 hz).1; simpa using this), fun z => ?_⟩
    simp only [mergeF, List.mem_append, if_mem, h2]
    unfold kept
    by_cases hz : z = y
    · subst hz; simp [hyb]
    · simp [hz]
  | n + 1, x :: a, y :: b, ha, hb, h => by
    have hxa : x ∉ a := fun hm => bltP_irrefl x ((List.pairwise_cons.1 ha).1 x hm)
    have hyb : y ∉ b := fun hm => bltP_irrefl y ((List.pairwise_cons.1 hb).1 y hm)
    simp only [List.length_cons] at h
    simp only [mergeF]
    split
    · rename_i hlt
      obtain ⟨h1, h2⟩ := mergeF_spec K n a (y :: b) (List.pairwise_cons.1 ha).2 hb (by simp; omega)
      have hxb : x ∉ y :: b := fun hm => bltP_irrefl x (blt_all hlt hb x hm)
      refine ⟨merge_cons h1 fun z hz => ?_, fun z => ?_⟩
      · rcases ((h2 z).1 hz).1 with hz | hz
        · exact (List.pairwise_cons.1 ha).1 z hz
        · exact blt_all hlt hb z hz
      · rw [List.mem_append, if_mem, h2]
        unfold kept
        by_cases hz : z = x
        · subst hz; simp [hxa, hxb]
        · simp only [List.mem_cons (a := z) (b := x), hz, false_or, false_and]
    · rename_i hn
      split
      · rename_i hxy
        subst hxy
        obtain ⟨h1, h2⟩ := mergeF_spec K n a b (List.pairwise_cons.1 ha).2 (List.pairwise_cons.1 hb).2 (by omega)
        refine ⟨merge_cons h1 fun z hz => ?_, fun z => ?_⟩
        · rcases ((h2 z).1 hz).1 with hz | hz
          · exact (List.pairwise_cons.1 ha).1 z hz
          · exact (List.pairwise_cons.1 hb).1 z hz
        · rw [List.mem_append, if_mem, h2]
          unfold kept
          by_cases hz : z = x
          · subst hz; simp [hxa, hyb]
          · simp only [List.mem_cons (a := z) (b := x), hz, false_or, false_and]
      · rename_i hne
        have hyx := blt_tri hn hne
        obtain ⟨h1, h2⟩ := mergeF_spec K n (x :: a) b ha (List.pairwise_cons.1 hb).2 (by simp; omega)
        have hya : y ∉ x :: a := fun hm => bltP_irrefl y (blt_all hyx ha y hm)
        refine ⟨merge_cons h1 fun z hz => ?_, fun z => ?_⟩
        · rcases ((h2 z).1 hz).1 with hz | hz
          · exact blt_all hyx ha z hz
          · exact (List.pairwise_cons.1 hb).1 z hz
        · rw [List.mem_append, if_mem, h2]
          unfold kept
          by_cases hz : z = y
          · subst hz; simp [hyb, hya]
          · simp only [List.mem_cons (a := z) (b := y), hz, false_or, false_and]
theorem mergeL_sorted (K : Bool → Bool → Bool) {a b : List Bar} (ha : a.Pairwise bltP) (hb : b.Pairwise bltP) : (mergeL K a b).Pairwise bltP := (mergeF_spec K _ a b ha hb (Nat.le_refl _)).1
theorem mergeL_mem (K : Bool → Bool → Bool) {a b : List Bar} (ha : a.Pairwise bltP) (hb : b.Pairwise bltP) (x : Bar) : x ∈ mergeL K a b ↔ kept K a b x := (mergeF_spec K _ a b ha hb (Nat.le_refl _)).2 x
theorem merge_minus {a b : List Bar} (ha : a.Pairwise bltP) (hb : b.Pairwise bltP) : mergeL minusK a b = wout a b :=
  sortedB_eq (mergeL_sorted _ ha hb) (ha.filter _) fun x => by
    rw [mergeL_mem _ ha hb]
    unfold kept minusK wout hasb
    simp only [List.mem_filter, Bool.and_eq_true, decide_eq_true_eq, Bool.not_eq_true', decide_eq_false_iff_not]
    constructor
    · rintro ⟨_, h1, h2⟩; exact ⟨h1, h2⟩
    · rintro ⟨h1, h2⟩; exact ⟨.inl h1, h1, h2⟩
theorem merge_meet {a b : List Bar} (ha : a.Pairwise bltP) (hb : b.Pairwise bltP) : mergeL meetK a b = meetL a b :=
  sortedB_eq (mergeL_sorted _ ha hb) (ha.filter _) fun x => by
    rw [mergeL_mem _ ha hb]
    unfold kept meetK meetL hasb
    simp only [List.mem_filter, Bool.and_eq_true, decide_eq_true_eq]
    constructor
    · rintro ⟨_, h1, h2⟩; exact ⟨h1, h2⟩
    · rintro ⟨h1, h2⟩; exact ⟨.inl h1, h1, h2⟩
theorem merge_union {a b : List Bar} (ha : a.Pairwise bltP) (hb : b.Pairwise bltP) : mergeL unionK a b = setB (a ++ b) :=
  sortedB_eq (mergeL_sorted _ ha hb) (setB_sorted _) fun x => by
    rw [mergeL_mem _ ha hb, setB_mem, List.mem_append]
    unfold kept unionK
    simp only [Bool.or_eq_true, decide_eq_true_eq]
    exact ⟨fun h => h.1, fun h => ⟨h, h⟩⟩
end Go.Proofs.YtkmjcoofkgpanaaGreatDoor

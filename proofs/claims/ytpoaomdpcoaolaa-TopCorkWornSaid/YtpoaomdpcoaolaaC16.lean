/- Two nets merged, plain. Conditions: the nets are in their order. -/
import Derived.Test.YtpoaomdpcoaolaaC15
import Derived.Test.YtpoaomdpcoaolaaC10
import Derived.Test.YtpoaomdpcoaolaaC12
import Derived.Test.YtpoaomdpcoaolaaC09
namespace Go.Proofs.Ytpoaomdpcoaolaa
open Go.RowKit Go.ChangeMaps
set_option maxHeartbeats 4000000
set_option maxRecDepth 100000

theorem blt_all {x y : Bar} {l : List Bar} (h : bltP x y) (hs : (y :: l).Pairwise bltP) : ∀ z ∈ y :: l, bltP x z := fun z hz => by
  rcases List.mem_cons.1 hz with rfl | hz
  · exact h
  · exact bltP_trans h ((List.pairwise_cons.1 hs).1 z hz)
theorem blt_tri {a b : Bar} (h : ¬ bltP a b) (hne : a ≠ b) : bltP b a := by
  rw [bltP_iff] at h ⊢
  obtain ⟨x, y, s⟩ := a
  obtain ⟨x', y', s'⟩ := b
  simp only [ne_eq, Prod.mk.injEq] at *
  omega
/-- what is kept, as a test on the two lists -/
def kept (K : Bool → Bool → Bool) (a b : List Bar) (x : Bar) : Prop := (x ∈ a ∨ x ∈ b) ∧ K (decide (x ∈ a)) (decide (x ∈ b)) = true
theorem if_mem {p : Bool} {x y : Bar} : y ∈ (if p then [x] else []) ↔ y = x ∧ p = true := by cases p <;> simp
theorem merge_cons {x : Bar} {p : Bool} {r : List Bar} (hr : r.Pairwise bltP) (hx : ∀ z ∈ r, bltP x z) : ((if p then [x] else []) ++ r).Pairwise bltP := by
  cases p
  · simpa using hr
  · simpa using ⟨fun a b c h => hx _ h, hr⟩
theorem mergeF_spec (K : Bool → Bool → Bool) : ∀ (n : Nat) (a b : List Bar), a.Pairwise bltP → b.Pairwise bltP → a.length + b.length ≤ n → (mergeF K n a b).Pairwise bltP ∧ ∀ x, x ∈ mergeF K n a b ↔ kept K a b x
  | 0, a, b, _, _, h => by
    obtain rfl : a = [] := List.eq_nil_of_length_eq_zero (by omega)
    obtain rfl : b = [] := List.eq_nil_of_length_eq_zero (by omega)
    simp [mergeF, kept]
  | n + 1, [], [], _, _, _ => by simp [mergeF, kept]
  | n + 1, x :: a, [], ha, hb, h => by
    obtain ⟨h1, h2⟩ := mergeF_spec K n a [] (List.pairwise_cons.1 ha).2 hb (by simp at h ⊢; omega)
    have hxa : x ∉ a := fun hm => bltP_irrefl x ((List.pairwise_cons.1 ha).1 x hm)
    refine ⟨merge_cons h1 fun z hz => (List.pairwise_cons.1 ha).1 z (by have := ((h2 z).1 hz).1; simpa using this), fun z => ?_⟩
    simp only [mergeF, List.mem_append, if_mem, h2]
    unfold kept
    by_cases hz : z = x
    · subst hz; simp [hxa]
    · simp [hz]
  | n + 1, [], y :: b, ha, hb, h => by
    obtain ⟨h1, h2⟩ := mergeF_spec K n [] b ha (List.pairwise_cons.1 hb).2 (by simp at h ⊢; omega)
    have hyb : y ∉ b := fun hm => bltP_irrefl y ((List.pairwise_cons.1 hb).1 y hm)
    refine ⟨merge_cons h1 fun z hz => (List.pairwise_cons.1 hb).1 z (by have := ((h2 z).1 hz).1; simpa using this), fun z => ?_⟩
    simp only [mergeF, List.mem_append, if_mem, h2]
    unfold kept
    by_cases hz : z = y
    · subst hz; simp [hyb]
    · simp [hz]
  | n + 1, x :: a, y :: b, ha, hb, h => by
    have hxa : x ∉ a := fun hm => bltP_irrefl x ((List.pairwise_cons.1 ha).1 x hm)
    have hyb : y ∉ b := fun hm => bltP_irrefl y ((List.pairwise_cons.1 hb).1 y hm)
    simp only [List.length_cons] at h
    simp only [mergeF]
    split
    · rename_i hlt
      obtain ⟨h1, h2⟩ := mergeF_spec K n a (y :: b) (List.pairwise_cons.1 ha).2 hb (by simp; omega)
      have hxb : x ∉ y :: b := fun hm => bltP_irrefl x (blt_all hlt hb x hm)
      refine ⟨merge_cons h1 fun z hz => ?_, fun z => ?_⟩
      · rcases ((h2 z).1 hz).1 with hz | hz
        · exact (List.pairwise_cons.1 ha).1 z hz
        · exact blt_all hlt hb z hz
      · rw [List.mem_append, if_mem, h2]
        unfold kept
        by_cases hz : z = x
        · subst hz; simp [hxa, hxb]
        · simp only [List.mem_cons (a := z) (b := x), hz, false_or, false_and]
    · rename_i hn
      split
      · rename_i hxy
        subst hxy
        obtain ⟨h1, h2⟩ := mergeF_spec K n a b (List.pairwise_cons.1 ha).2 (List.pairwise_cons.1 hb).2 (by omega)
        refine ⟨merge_cons h1 fun z hz => ?_, fun z => ?_⟩
        · rcases ((h2 z).1 hz).1 with hz | hz
          · exact (List.pairwise_cons.1 ha).1 z hz
          · exact (List.pairwise_cons.1 hb).1 z hz
        · rw [List.mem_append, if_mem, h2]
          unfold kept
          by_cases hz : z = x
          · subst hz; simp [hxa, hyb]
          · simp only [List.mem_cons (a := z) (b := x), hz, false_or, false_and]
      · rename_i hne
        have hyx := blt_tri hn hne
        obtain ⟨h1, h2⟩ := mergeF_spec K n (x :: a) b ha (List.pairwise_cons.1 hb).2 (by simp; omega)
        have hya : y ∉ x :: a := fun hm => bltP_irrefl y (blt_all hyx ha y hm)
        refine ⟨merge_cons h1 fun z hz => ?_, fun z => ?_⟩
        · rcases ((h2 z).1 hz).1 with hz | hz
          · exact blt_all hyx ha z hz
          · exact (List.pairwise_cons.1 hb).1 z hz
        · rw [List.mem_append, if_mem, h2]
          unfold kept
          by_cases hz : z = y
          · subst hz; simp [hyb, hya]
          · simp only [List.mem_cons (a := z) (b := y), hz, false_or, false_and]
theorem mergeL_sorted (K : Bool → Bool → Bool) {a b : List Bar} (ha : a.Pairwise bltP) (hb : b.Pairwise bltP) : (mergeL K a b).Pairwise bltP := (mergeF_spec K _ a b ha hb (Nat.le_refl _)).1
theorem mergeL_mem (K : Bool → Bool → Bool) {a b : List Bar} (ha : a.Pairwise bltP) (hb : b.Pairwise bltP) (x : Bar) : x ∈ mergeL K a b ↔ kept K a b x := (mergeF_spec K _ a b ha hb (Nat.le_refl _)).2 x
theorem merge_minus {a b : List Bar} (ha : a.Pairwise bltP) (hb : b.Pairwise bltP) : mergeL minusK a b = wout a b :=
  sortedB_eq (mergeL_sorted _ ha hb) (ha.filter _) fun x => by
    rw [mergeL_mem _ ha hb]
    unfold kept minusK wout hasb
    simp only [List.mem_filter, Bool.and_eq_true, decide_eq_true_eq, Bool.not_eq_true', decide_eq_false_iff_not]
    constructor
    · rintro ⟨_, h1, h2⟩; exact ⟨h1, h2⟩
    · rintro ⟨h1, h2⟩; exact ⟨.inl h1, h1, h2⟩
theorem merge_meet {a b : List Bar} (ha : a.Pairwise bltP) (hb : b.Pairwise bltP) : mergeL meetK a b = meetL a b :=
  sortedB_eq (mergeL_sorted _ ha hb) (ha.filter _) fun x => by
    rw [mergeL_mem _ ha hb]
    unfold kept meetK meetL hasb
    simp only [List.mem_filter, Bool.and_eq_true, decide_eq_true_eq]
    constructor
    · rintro ⟨_, h1, h2⟩; exact ⟨h1, h2⟩
    · rintro ⟨h1, h2⟩; exact ⟨.inl h1, h1, h2⟩
theorem merge_union {a b : List Bar} (ha : a.Pairwise bltP) (hb : b.Pairwise bltP) : mergeL unionK a b = setB (a ++ b) :=
  sortedB_eq (mergeL_sorted _ ha hb) (setB_sorted _) fun x => by
    rw [mergeL_mem _ ha hb, setB_mem, List.mem_append]
    unfold kept unionK
    simp only [Bool.or_eq_true, decide_eq_true_eq]
    exact ⟨fun h => h.1, fun h => ⟨h, h⟩⟩
end Go.Proofs.Ytpoaomdpcoaolaa

/- Nets turned and mirrored, and the canonical form, plain. Conditions: the net is in its order. -/
namespace Go.Proofs.Ytpoaomdpcoaolaa
open Go.RowKit Go.ChangeMaps
set_option maxHeartbeats 4000000
set_option maxRecDepth 100000

theorem mirB_mirB (b : Bar) : mirB (mirB b) = b := by obtain ⟨x, y, s⟩ := b; simp [mirB]
theorem mirB_inj {a b : Bar} (h : mirB a = mirB b) : a = b := by rw [← mirB_mirB a, h, mirB_mirB]
theorem turn_up (x y : Int) : turnB (x, y, 1) = (-y, x, -1) := by
  unfold turnB btwB; simp only; rw [if_neg (by omega)]; simp only [Prod.mk.injEq, true_and] <;> omega
theorem turn_dn (x y : Int) : turnB (x, y, -1) = (-y - 1, x - 1, 1) := by
  unfold turnB btwB; simp only; rw [if_pos (by omega)]; simp only [Prod.mk.injEq] <;> omega
theorem turnB_of {b : Bar} (h : Sided b) : turnB b = if b.2.2 = 1 then (-b.2.1, b.1, -1) else (-b.2.1 - 1, b.1 - 1, 1) := by
  obtain ⟨x, y, s⟩ := b
  unfold Sided at h
  simp only at h
  obtain rfl | rfl := h
  · rw [turn_up]; rfl
  · rw [turn_dn]; rfl
theorem turnB_sided {b : Bar} (h : Sided b) : Sided (turnB b) := by
  rw [turnB_of h]; unfold Sided; split <;> simp
theorem mirB_sided {b : Bar} (h : Sided b) : Sided (mirB b) := by
  obtain ⟨x, y, s⟩ := b
  unfold Sided mirB at *
  simp only at *
  omega
theorem turnB_two {b : Bar} (h : Sided b) : turnB (turnB b) = (-b.1 - b.2.2, -b.2.1 - 1, b.2.2) := by
  obtain ⟨x, y, s⟩ := b
  unfold Sided at h
  simp only at h
  obtain rfl | rfl := h
  · simp only [turn_up, turn_dn]
  · simp only [turn_up, turn_dn, Prod.mk.injEq, and_true]; omega
theorem turnB_four {b : Bar} (h : Sided b) : turnB (turnB (turnB (turnB b))) = b := by
  have h2 := turnB_sided (turnB_sided h)
  rw [turnB_two h2, turnB_two h]
  obtain ⟨x, y, s⟩ := b
  simp only [Prod.mk.injEq]
  exact ⟨by omega, by omega, trivial⟩
theorem turnB_inj {a b : Bar} (ha : Sided a) (hb : Sided b) (h : turnB a = turnB b) : a = b := by
  rw [← turnB_four ha, h, turnB_four hb]
theorem nodup_map {α β : Type} {f : α → β} {l : List α} (hn : l.Nodup) (hf : ∀ a ∈ l, ∀ b ∈ l, f a = f b → a = b) : (l.map f).Nodup := by
  rw [List.nodup_iff_pairwise_ne, List.pairwise_map]
  exact hn.imp_of_mem fun ha hb hne e => hne (hf _ ha _ hb e)
theorem split_len {α : Type} (p : α → Bool) : ∀ l : List α, l.length = (l.filter p).length + (l.filter fun b => !p b).length
  | [] => rfl
  | a :: l => by
    have := split_len p l
    cases h : p a <;> simp [h] <;> omega
theorem mirN_eq (l : List Bar) : mirN l = srtB (l.map mirB) := by
  unfold mirN
  congr 1
  exact List.map_congr_left fun b _ => mvB_mir
theorem turnN_eq (n : Nat) (l : List Bar) : turnN (n + 1) l = srtB ((turnN n l).map turnB) := rfl
theorem mirN_mem (l : List Bar) (b : Bar) : b ∈ mirN l ↔ mirB b ∈ l := by
  rw [mirN_eq, srtB_mem, List.mem_map]
  constructor
  · rintro ⟨c, hc, rfl⟩; rwa [mirB_mirB]
  · intro h; exact ⟨_, h, mirB_mirB b⟩
theorem mirN_set {l : List Bar} (hn : l.Nodup) : mirN l = setB (l.map mirB) := by
  rw [mirN_eq, setB_srt (nodup_map hn fun a _ b _ h => mirB_inj h)]
theorem mirN_sorted {l : List Bar} (hn : l.Nodup) : (mirN l).Pairwise bltP := by
  rw [mirN_eq]; exact srtB_sorted (nodup_map hn fun a _ b _ h => mirB_inj h)
theorem mirN_sided {l : List Bar} (h : ∀ b ∈ l, Sided b) : ∀ b ∈ mirN l, Sided b := fun b hb => by
  rw [mirN_mem] at hb
  rw [← mirB_mirB b]; exact mirB_sided (h _ hb)
theorem turnN_sided {l : List Bar} (h : ∀ b ∈ l, Sided b) : ∀ n, ∀ b ∈ turnN n l, Sided b
  | 0 => h
  | n + 1 => fun b hb => by
    rw [turnN_eq, srtB_mem, List.mem_map] at hb
    obtain ⟨c, hc, rfl⟩ := hb
    exact turnB_sided (turnN_sided h n c hc)
theorem turnN_nodup {l : List Bar} (hn : l.Nodup) (h : ∀ b ∈ l, Sided b) : ∀ n, (turnN n l).Nodup
  | 0 => hn
  | n + 1 => by
    rw [turnN_eq]
    exact sortedB_nodup (srtB_sorted (nodup_map (turnN_nodup hn h n) fun a ha b hb => turnB_inj (turnN_sided h n a ha) (turnN_sided h n b hb)))
theorem turnN_sorted {l : List Bar} (hs : l.Pairwise bltP) (h : ∀ b ∈ l, Sided b) : ∀ n, (turnN n l).Pairwise bltP
  | 0 => hs
  | n + 1 => by
    rw [turnN_eq]
    exact srtB_sorted (nodup_map (turnN_nodup (sortedB_nodup hs) h n) fun a ha b hb => turnB_inj (turnN_sided h n a ha) (turnN_sided h n b hb))
theorem turnN_set {l : List Bar} (hn : l.Nodup) (h : ∀ b ∈ l, Sided b) (n : Nat) : turnN (n + 1) l = setB ((turnN n l).map turnB) := by
  rw [turnN_eq, setB_srt (nodup_map (turnN_nodup hn h n) fun a ha b hb => turnB_inj (turnN_sided h n a ha) (turnN_sided h n b hb))]
/-- the reference's quarter turns -/
def rturnN : Nat → List Bar → List Bar
  | 0, l => l
  | n + 1, l => setB ((rturnN n l).map turnB)
theorem rturnN_eq {l : List Bar} (hn : l.Nodup) (h : ∀ b ∈ l, Sided b) : ∀ n, rturnN n l = turnN n l
  | 0 => rfl
  | n + 1 => by rw [rturnN, rturnN_eq hn h n, turnN_set hn h]
theorem turnN_mem (l : List Bar) (x : Bar) (n : Nat) : x ∈ turnN (n + 1) l ↔ ∃ b ∈ turnN n l, turnB b = x := by
  rw [turnN_eq, srtB_mem, List.mem_map]
theorem turnN_four {l : List Bar} (hs : l.Pairwise bltP) (h : ∀ b ∈ l, Sided b) : turnN 4 l = l :=
  sortedB_eq (turnN_sorted hs h 4) hs fun x => by
    constructor
    · intro hx
      obtain ⟨b3, h3, rfl⟩ := (turnN_mem l x 3).1 hx
      obtain ⟨b2, h2, rfl⟩ := (turnN_mem l _ 2).1 h3
      obtain ⟨b1, h1, rfl⟩ := (turnN_mem l _ 1).1 h2
      obtain ⟨b0, h0, rfl⟩ := (turnN_mem l _ 0).1 h1
      have h0' : b0 ∈ l := h0
      rw [turnB_four (h b0 h0')]; exact h0'
    · intro hx
      refine (turnN_mem l x 3).2 ⟨_, (turnN_mem l _ 2).2 ⟨_, (turnN_mem l _ 1).2 ⟨_, (turnN_mem l _ 0).2 ⟨x, hx, rfl⟩, rfl⟩, rfl⟩, turnB_four (h x hx)⟩
/-! ## the canonical form, of the reference -/
/-- whether a list comes before another one as long -/
def bef : List Bar → List Bar → Bool
  | [], _ => false
  | _ :: _, [] => false
  | a :: l, b :: r => if a = b then bef l r else decide (bltP a b)
theorem bef_drop {l r : List Bar} {k : Nat} (hl : k < l.length) (hr : k < r.length) : bef (l.drop k) (r.drop k) = if l[k] = r[k] then bef (l.drop (k + 1)) (r.drop (k + 1)) else decide (bltP l[k] r[k]) := by
  rw [List.drop_eq_getElem_cons hl, List.drop_eq_getElem_cons hr, bef]
theorem bef_cmp : ∀ {l r : List Bar}, l.length = r.length → (bef l r = true ↔ cmpL l r < 0)
  | [], [], _ => by simp [bef, cmpL]
  | a :: l, b :: r, h => by
    have ih := bef_cmp (l := l) (r := r) (by simpa using h)
    rw [bef, cmpL]
    by_cases hab : a = b
    · rw [if_pos hab, if_neg (by have := (barCmp_zero a b).2 hab; omega)]; exact ih
    · rw [if_neg hab, if_pos (fun e => hab ((barCmp_zero a b).1 e)), decide_eq_true_eq, barCmp_neg]
  | [], _ :: _, h => by simp at h
  | _ :: _, [], h => by simp at h
/-- the nets that the reference's canonical form goes through: ahead of round k, and in it -/
def rcN (l : List Bar) : Nat → List Bar
  | 0 => l
  | k + 1 => setB ((if k = 4 then setB ((rcN l k).map mirB) else rcN l k).map turnB)
def rcI (l : List Bar) (k : Nat) : List Bar := if k = 4 then setB ((rcN l k).map mirB) else rcN l k
theorem rcN_succ (l : List Bar) (k : Nat) : rcN l (k + 1) = setB ((rcI l k).map turnB) := rfl
def rcB (l : List Bar) : Nat → List Bar
  | 0 => nrm l
  | k + 1 => if bef (nrm (rcI l k)) (rcB l k) then nrm (rcI l k) else rcB l k
def rcA (l : List Bar) : Nat → Bool
  | 0 => allIn (nrm l)
  | k + 1 => rcA l k && allIn (nrm (rcI l k))
theorem rcI_frm {l : List Bar} (hs : l.Pairwise bltP) (h : ∀ b ∈ l, Sided b) {k : Nat} (hk : k < 8) : rcI l k = frm l k := by
  have hn := sortedB_nodup hs
  have lo : ∀ n, n ≤ 4 → rcN l n = turnN n l := fun n => by
    induction n with
    | zero => intro _; rfl
    | succ n ih =>
      intro hn4
      rw [rcN_succ]
      unfold rcI
      rw [if_neg (by omega), ih (by omega), turnN_set hn h]
  have h4 : rcI l 4 = mirN l := by
    unfold rcI
    rw [if_pos rfl, lo 4 (Nat.le_refl 4), turnN_four hs h, mirN_set hn]
  have hi : ∀ n, rcI l (4 + n) = turnN n (mirN l) := fun n => by
    induction n with
    | zero => exact h4
    | succ n ih =>
      unfold rcI
      rw [if_neg (by omega), show 4 + (n + 1) = (4 + n) + 1 from rfl, rcN_succ, ih, turnN_set (sortedB_nodup (mirN_sorted hn)) (mirN_sided h)]
  unfold frm
  by_cases h4' : k < 4
  · rw [if_pos h4', ← lo k (by omega)]
    unfold rcI
    rw [if_neg (by omega)]
  · rw [if_neg h4']
    obtain ⟨n, rfl⟩ : ∃ n, k = 4 + n := ⟨k - 4, by omega⟩
    rw [hi, show 4 + n - 4 = n by omega]
theorem nrm_len (l : List Bar) : (nrm l).length = l.length := by unfold nrm; rw [List.length_map]
theorem bst_len_eq (l : List Bar) : ∀ k, 0 < k → (bst l k).length = l.length
  | 0, h => by omega
  | k + 1, _ => by
    unfold bst
    by_cases hk : k = 0
    · rw [if_pos (.inl hk), nrm_len, frm_len]
    · split
      · rw [nrm_len, frm_len]
      · exact bst_len_eq l k (by omega)
theorem cmpL_self : ∀ l : List Bar, cmpL l l = 0
  | [] => rfl
  | a :: l => by rw [cmpL, if_neg (by have := (barCmp_zero a a).2 rfl; omega)]; exact cmpL_self l
theorem rcB_bst {l : List Bar} (hs : l.Pairwise bltP) (h : ∀ b ∈ l, Sided b) : ∀ {k : Nat}, k < 8 → rcB l (k + 1) = bst l (k + 1)
  | 0, _ => by
    have h2 : bst l 1 = nrm l := by unfold bst; rw [if_pos (.inl rfl)]; rfl
    have h3 : rcB l 1 = nrm l := by
      unfold rcB
      show (if bef (nrm l) (nrm l) = true then nrm l else nrm l) = nrm l
      split <;> rfl
    exact h3.trans h2.symm
  | k + 1, hk => by
    have ih := rcB_bst hs h (k := k) (by omega)
    rw [rcB, bst, ih, rcI_frm hs h hk]
    have hl : (nrm (frm l (k + 1))).length = (bst l (k + 1)).length := by rw [nrm_len, frm_len, bst_len_eq l _ (by omega)]
    have hb := bef_cmp hl
    by_cases hc : cmpL (nrm (frm l (k + 1))) (bst l (k + 1)) < 0
    · rw [if_pos (hb.2 hc), if_pos (.inr hc)]
    · rw [if_neg (fun e => hc (hb.1 e)), if_neg (by simp only [not_or]; exact ⟨by omega, hc⟩)]
theorem rcA_allN {l : List Bar} (hs : l.Pairwise bltP) (h : ∀ b ∈ l, Sided b) : ∀ {k : Nat}, k < 8 → rcA l (k + 1) = allN l (k + 1)
  | 0, _ => by
    have h0 : rcI l 0 = l := rfl
    have h1 : frm l 0 = l := rfl
    rw [rcA, allN, h0, h1, rcA, allN]
    cases allIn (nrm l) <;> rfl
  | k + 1, hk => by rw [rcA, allN, rcA_allN hs h (k := k) (by omega), rcI_frm hs h hk]
end Go.Proofs.Ytpoaomdpcoaolaa

/- The parts of a net, plain: program and reference. Conditions: the net is in its order. -/
namespace Go.Proofs.Ytpoaomdpcoaolaa
open Go.RowKit Go.ChangeMaps
set_option maxHeartbeats 4000000
set_option maxRecDepth 100000

/-- two bars have a common end -/
def Tch (a b : Bar) : Prop := lowK a = lowK b ∨ lowK a = uppK b ∨ uppK a = lowK b ∨ uppK a = uppK b
instance (a b : Bar) : Decidable (Tch a b) := inferInstanceAs (Decidable (_ ∨ _))
theorem Tch.symm {a b : Bar} (h : Tch a b) : Tch b a := by
  unfold Tch at *
  rcases h with h | h | h | h
  · exact .inl h.symm
  · exact .inr (.inr (.inl h.symm))
  · exact .inr (.inl h.symm)
  · exact .inr (.inr (.inr h.symm))
theorem tch_ends {a b : Bar} : Tch a b ↔ ∃ n, n < 2 ∧ (lowK b = endK a n ∨ uppK b = endK a n) := by
  constructor
  · rintro (h | h | h | h)
    · exact ⟨0, by omega, .inl h.symm⟩
    · exact ⟨0, by omega, .inr h.symm⟩
    · exact ⟨1, by omega, .inl h.symm⟩
    · exact ⟨1, by omega, .inr h.symm⟩
  · rintro ⟨n, hn, h⟩
    obtain rfl | rfl : n = 0 ∨ n = 1 := by omega
    · rcases h with h | h
      · exact .inl h.symm
      · exact .inr (.inl h.symm)
    · rcases h with h | h
      · exact .inr (.inr (.inl h.symm))
      · exact .inr (.inr (.inr h.symm))
theorem arB_at (k : Knot) (j : Nat) : lowK (arB k j) = k ∨ uppK (arB k j) = k := by
  obtain ⟨x, y⟩ := k
  match j with
  | 0 => right; simp only [arB, uppK, Prod.mk.injEq] <;> omega
  | 1 => right; simp only [arB, uppK, Prod.mk.injEq] <;> omega
  | 2 => left; simp [arB, lowK]
  | _ + 3 => left; simp [arB, lowK]
theorem arB_of {k : Knot} {c : Bar} (hs : Sided c) (h : lowK c = k ∨ uppK c = k) : ∃ j, j < 4 ∧ arB k j = c := by
  obtain ⟨x, y, s⟩ := c
  unfold Sided at hs
  simp only at hs
  rcases h with rfl | rfl
  · obtain rfl | rfl := hs
    · exact ⟨3, by omega, rfl⟩
    · exact ⟨2, by omega, rfl⟩
  · obtain rfl | rfl := hs
    · exact ⟨0, by omega, by simp only [arB, uppK, Prod.mk.injEq, and_true] <;> omega⟩
    · exact ⟨1, by omega, by simp only [arB, uppK, Prod.mk.injEq, and_true] <;> omega⟩
/-- the bars that are connected with a bar, through bars of a list -/
inductive Conn (l : List Bar) (a : Bar) : Bar → Prop
  | refl : Conn l a a
  | step {b c : Bar} : Conn l a b → c ∈ l → Tch b c → Conn l a c
theorem Conn.mem {l : List Bar} {a b : Bar} (h : Conn l a b) (ha : a ∈ l) : b ∈ l := by
  cases h with
  | refl => exact ha
  | step _ h _ => exact h
theorem Conn.trans {l : List Bar} {a b c : Bar} (h : Conn l a b) (h' : Conn l b c) : Conn l a c := by
  induction h' with
  | refl => exact h
  | step _ hm ht ih => exact ih.step hm ht
theorem Conn.symm {l : List Bar} {a b : Bar} (h : Conn l a b) (ha : a ∈ l) : Conn l b a := by
  induction h with
  | refl => exact .refl
  | step hab hm ht ih => exact (Conn.step .refl (hab.mem ha) ht.symm).trans ih
/-- the tried bars: those of l that are not in S are there behind it -/
theorem tryP_got {l S P : List Bar} {b : Bar} (hb : b ∈ l) : b ∈ tryP l S P b ∨ b ∈ S := by
  unfold tryP
  split
  · rename_i h
    rcases h with (h | h) | h
    · exact .inr h
    · exact .inl h
    · exact absurd hb h
  · exact .inl (by simp)
theorem tryP_pre (l S P : List Bar) (b : Bar) : ∃ r, tryP l S P b = P ++ r := by
  unfold tryP
  split
  · exact ⟨[], by simp⟩
  · exact ⟨[b], rfl⟩
theorem tryP_new {l S P : List Bar} {b x : Bar} (h : x ∈ tryP l S P b) : x ∈ P ∨ x = b := by
  unfold tryP at h
  split at h
  · exact .inl h
  · simpa using h
theorem arP_pre (l S : List Bar) (k : Knot) (P : List Bar) : ∀ j, ∃ r, arP l S k P j = P ++ r
  | 0 => ⟨[], by simp [arP]⟩
  | j + 1 => by
    obtain ⟨r, hr⟩ := arP_pre l S k P j
    obtain ⟨r', hr'⟩ := tryP_pre l S (arP l S k P j) (arB k j)
    exact ⟨r ++ r', by rw [arP, hr', hr, List.append_assoc]⟩
theorem arP_got {l S : List Bar} {k : Knot} {P : List Bar} : ∀ {j i : Nat}, i < j → arB k i ∈ l → arB k i ∈ arP l S k P j ∨ arB k i ∈ S
  | j + 1, i, hi, hm => by
    rw [arP]
    by_cases h : i = j
    · subst h; exact tryP_got hm
    · rcases arP_got (j := j) (by omega) hm with h | h
      · obtain ⟨r, hr⟩ := tryP_pre l S (arP l S k P j) (arB k j)
        exact .inl (by rw [hr]; exact List.mem_append_left _ h)
      · exact .inr h
theorem arP_new {l S : List Bar} {k : Knot} {P : List Bar} {x : Bar} : ∀ {j : Nat}, x ∈ arP l S k P j → x ∈ P ∨ ∃ i, x = arB k i
  | 0, h => .inl h
  | j + 1, h => by
    rw [arP] at h
    rcases tryP_new h with h | h
    · exact arP_new h
    · exact .inr ⟨j, h⟩
theorem enP_two (l S : List Bar) (b : Bar) (P : List Bar) : enP l S b P 2 = arP l S (endK b 1) (arP l S (endK b 0) P 4) 4 := rfl
theorem enP_pre (l S : List Bar) (b : Bar) (P : List Bar) : ∃ r, enP l S b P 2 = P ++ r := by
  obtain ⟨r, hr⟩ := arP_pre l S (endK b 0) P 4
  obtain ⟨r', hr'⟩ := arP_pre l S (endK b 1) (arP l S (endK b 0) P 4) 4
  exact ⟨r ++ r', by rw [enP_two, hr', hr, List.append_assoc]⟩
theorem enP_new {l S P : List Bar} {b x : Bar} (h : x ∈ enP l S b P 2) : x ∈ P ∨ Tch b x := by
  rw [enP_two] at h
  have at_ : ∀ n, n < 2 → ∀ i, x = arB (endK b n) i → Tch b x := fun n hn i e => tch_ends.2 ⟨n, hn, by rw [e]; exact arB_at _ i⟩
  rcases arP_new h with h | ⟨i, h⟩
  · rcases arP_new h with h | ⟨i, h⟩
    · exact .inl h
    · exact .inr (at_ 0 (by omega) i h)
  · exact .inr (at_ 1 (by omega) i h)
theorem enP_got {l S P : List Bar} {b c : Bar} (hs : Sided c) (hc : c ∈ l) (ht : Tch b c) : c ∈ enP l S b P 2 ∨ c ∈ S := by
  rw [enP_two]
  obtain ⟨n, hn, h⟩ := tch_ends.1 ht
  obtain ⟨j, hj, rfl⟩ := arB_of hs h
  obtain rfl | rfl : n = 0 ∨ n = 1 := by omega
  · rcases arP_got (S := S) (P := P) hj hc with h | h
    · obtain ⟨r, hr⟩ := arP_pre l S (endK b 1) (arP l S (endK b 0) P 4) 4
      exact .inl (by rw [hr]; exact List.mem_append_left _ h)
    · exact .inr h
  · exact arP_got hj hc
/-! ## a list that is gone through while it grows -/
def colG (ex : Bar → List Bar → List Bar) : Nat → Nat → List Bar → List Bar
  | 0, _, P => P
  | f + 1, i, P => if h : i < P.length then colG ex f (i + 1) (ex P[i] P) else P
theorem colP_eq (l S : List Bar) : ∀ (f i : Nat) (P : List Bar), colP l S f i P = colG (fun p P => enP l S p P 2) f i P
  | 0, _, _ => rfl
  | f + 1, i, P => by
    rw [colP, colG]
    split
    · exact colP_eq l S f (i + 1) _
    · rfl
structure ExOk (l S : List Bar) (ex : Bar → List Bar → List Bar) : Prop where
  ok : ∀ p P, PartOk l S P → PartOk l S (ex p P)
  pre : ∀ p P, ∃ r, ex p P = P ++ r
  new : ∀ p P x, x ∈ ex p P → x ∈ P ∨ Tch p x
  got : ∀ p P c, c ∈ l → Tch p c → c ∈ ex p P ∨ c ∈ S
theorem colG_spec {l S : List Bar} {ex : Bar → List Bar → List Bar} (E : ExOk l S ex) (a : Bar) : ∀ (f i : Nat) (P : List Bar), PartOk l S P → l.length + 1 ≤ f + i → i ≤ P.length → (∀ x ∈ P, Conn l a x) →
    (∀ j (hj : j < P.length), j < i → ∀ c ∈ l, Tch P[j] c → c ∈ P ∨ c ∈ S) →
    PartOk l S (colG ex f i P) ∧ (∀ x ∈ colG ex f i P, Conn l a x) ∧ (∀ p ∈ colG ex f i P, ∀ c ∈ l, Tch p c → c ∈ colG ex f i P ∨ c ∈ S) ∧ (∀ x ∈ P, x ∈ colG ex f i P)
  | 0, i, P, hP, hf, hi, _, _ => by have := hP.len; omega
  | f + 1, i, P, hP, hf, hi, hc, hd => by
    rw [colG]
    split
    · rename_i hlt
      obtain ⟨r, hr⟩ := E.pre P[i] P
      have hok := E.ok P[i] P hP
      have hlen : P.length ≤ (ex P[i] P).length := by rw [hr]; simp
      have hmem : ∀ x ∈ P, x ∈ ex P[i] P := fun x hx => by rw [hr]; exact List.mem_append_left _ hx
      have := colG_spec E a f (i + 1) (ex P[i] P) hok (by omega) (by omega) (fun x hx => by
        rcases E.new _ _ _ hx with h | h
        · exact hc x h
        · exact (hc _ (List.getElem_mem hlt)).step (hok.sub x hx) h) (fun j hj hji c hcl ht => by
        have hjP : j < P.length := by omega
        have he : (ex P[i] P)[j] = P[j] := by simp only [hr]; exact List.getElem_append_left hjP
        rw [he] at ht
        by_cases hjj : j = i
        · subst hjj; exact E.got _ _ c hcl ht
        · rcases hd j hjP (by omega) c hcl ht with h | h
          · exact .inl (hmem c h)
          · exact .inr h)
      exact ⟨this.1, this.2.1, this.2.2.1, fun x hx => this.2.2.2 x (hmem x hx)⟩
    · rename_i hge
      refine ⟨hP, hc, fun p hp c hcl ht => ?_, fun x hx => hx⟩
      obtain ⟨j, hj, rfl⟩ := List.getElem_of_mem hp
      exact hd j hj (by omega) c hcl ht
/-- what is gone through from a bar, where S is a union of whole parts: the bars that are connected with it -/
theorem colG_conn {l S : List Bar} {ex : Bar → List Bar → List Bar} (E : ExOk l S ex) {a : Bar} (ha : a ∈ l) (haS : a ∉ S) (hS : ∀ s ∈ S, ∀ c ∈ l, Tch s c → c ∈ S) :
    (colG ex (l.length + 1) 0 [a]).Nodup ∧ ∀ x, x ∈ colG ex (l.length + 1) 0 [a] ↔ Conn l a x := by
  obtain ⟨h1, h2, h3, h4⟩ := colG_spec E a (l.length + 1) 0 [a] (PartOk.start ha haS) (by omega) (by simp) (fun x hx => by
    obtain rfl : x = a := by simpa using hx
    exact .refl) (fun j hj h => by omega)
  refine ⟨h1.nodup, fun x => ⟨h2 x, fun h => ?_⟩⟩
  induction h with
  | refl => exact h4 a (by simp)
  | step hab hm ht ih =>
    rcases h3 _ ih _ hm ht with h | h
    · exact h
    · exact absurd (hS _ h _ (h1.sub _ ih) ht.symm) (h1.apart _ ih)
theorem enP_ok {l S : List Bar} (hs : ∀ b ∈ l, Sided b) : ExOk l S (fun p P => enP l S p P 2) :=
  ⟨fun p _ h => h.en p 2, fun p P => enP_pre l S p P, fun _ _ _ h => enP_new h, fun _ _ c hc ht => enP_got (hs c hc) hc ht⟩
/-! ## the parts -/
noncomputable instance (l : List Bar) (a x : Bar) : Decidable (Conn l a x) := Classical.propDecidable _
/-- the bars of a net that are connected with a bar -/
noncomputable def compL (l : List Bar) (a : Bar) : List Bar := l.filter fun x => decide (Conn l a x)
theorem compL_mem {l : List Bar} {a x : Bar} (ha : a ∈ l) : x ∈ compL l a ↔ Conn l a x := by
  unfold compL
  rw [List.mem_filter, decide_eq_true_eq]
  exact ⟨fun h => h.2, fun h => ⟨h.mem ha, h⟩⟩
theorem compL_sorted {l : List Bar} (hs : l.Pairwise bltP) (a : Bar) : (compL l a).Pairwise bltP := by unfold compL; exact hs.filter _
noncomputable def prtC (l : List Bar) : Nat → List (List Bar)
  | 0 => []
  | k + 1 => match l[k]? with
    | none => prtC l k
    | some b => if b ∈ (prtC l k).flatten then prtC l k else prtC l k ++ [compL l b]
theorem prtC_succ {l : List Bar} {k : Nat} (hk : k < l.length) : prtC l (k + 1) = if l[k] ∈ (prtC l k).flatten then prtC l k else prtC l k ++ [compL l l[k]] := by
  rw [prtC, List.getElem?_eq_getElem hk]
theorem prtC_flat (l : List Bar) : ∀ (k : Nat), k ≤ l.length → ∀ x, x ∈ (prtC l k).flatten ↔ ∃ j, ∃ hj : j < l.length, j < k ∧ Conn l l[j] x
  | 0, _, x => by simp [prtC]
  | k + 1, hk, x => by
    have ih := prtC_flat l k (by omega)
    rw [prtC_succ (by omega)]
    have hlt : k < l.length := by omega
    split
    · rename_i hm
      rw [ih]
      constructor
      · rintro ⟨j, hj, h1, h2⟩; exact ⟨j, hj, by omega, h2⟩
      · rintro ⟨j, hj, h1, h2⟩
        by_cases hjk : j = k
        · subst hjk
          obtain ⟨i, hi, hik, hc⟩ := (ih _).1 hm
          exact ⟨i, hi, hik, hc.trans h2⟩
        · exact ⟨j, hj, by omega, h2⟩
    · simp only [List.flatten_append, List.mem_append, List.flatten_cons, List.flatten_nil, List.append_nil]
      rw [ih, compL_mem (List.getElem_mem hlt)]
      constructor
      · rintro (⟨j, hj, h1, h2⟩ | h)
        · exact ⟨j, hj, by omega, h2⟩
        · exact ⟨k, hlt, by omega, h⟩
      · rintro ⟨j, hj, h1, h2⟩
        by_cases hjk : j = k
        · subst hjk; exact .inr h2
        · exact .inl ⟨j, hj, by omega, h2⟩
theorem prtC_closed (l : List Bar) {k : Nat} (hk : k ≤ l.length) : ∀ s ∈ (prtC l k).flatten, ∀ c ∈ l, Tch s c → c ∈ (prtC l k).flatten := fun s hs c hc ht => by
  rw [prtC_flat l k hk] at *
  obtain ⟨j, hj, h1, h2⟩ := hs
  exact ⟨j, hj, h1, h2.step hc ht⟩
theorem prtO_prtC {l : List Bar} (hs : l.Pairwise bltP) (hd : ∀ b ∈ l, Sided b) : ∀ (k : Nat), k ≤ l.length → prtO l k = prtC l k
  | 0, _ => rfl
  | k + 1, hk => by
    have ih := prtO_prtC hs hd k (by omega)
    have hlt : k < l.length := by omega
    rw [prtO_succ hlt, prtC_succ hlt, ih]
    by_cases hm : l[k] ∈ (prtC l k).flatten
    · rw [if_pos hm, if_pos hm]
    · rw [if_neg hm, if_neg hm]
      congr 2
      obtain ⟨h1, h2⟩ := colG_conn (enP_ok (S := (prtC l k).flatten) hd) (List.getElem_mem hlt) hm (prtC_closed l (by omega))
      rw [← colP_eq] at h1 h2
      exact sortedB_eq (srtB_sorted h1) (compL_sorted hs _) fun x => by rw [srtB_mem, compL_mem (List.getElem_mem hlt)]; exact h2 x
theorem partsL_eq {l : List Bar} (hs : l.Pairwise bltP) (hd : ∀ b ∈ l, Sided b) : partsL l = prtC l l.length := prtO_prtC hs hd _ (Nat.le_refl _)
/-! ## the parts of the reference -/
def rtry (p : Bar) (P : List Bar) (c : Bar) : List Bar := if Tch p c ∧ c ∉ P then P ++ [c] else P
def rrow (l : List Bar) (p : Bar) (P : List Bar) : List Bar := l.foldl (rtry p) P
def rcol (l : List Bar) (f i : Nat) (P : List Bar) : List Bar := colG (rrow l) f i P
theorem rtry_ok {l S P : List Bar} {p c : Bar} (hS : S = []) (h : PartOk l S P) (hc : c ∈ l) : PartOk l S (rtry p P c) := by
  subst hS
  unfold rtry
  split
  · rename_i hn
    refine ⟨?_, fun x hx => ?_, fun x _ => by simp⟩
    · rw [List.nodup_append]
      exact ⟨h.nodup, by simp, fun a ha b hb e => by
        obtain rfl : b = c := by simpa using hb
        exact hn.2 (e ▸ ha)⟩
    · rcases List.mem_append.1 hx with hx | hx
      · exact h.sub x hx
      · obtain rfl : x = c := by simpa using hx
        exact hc
  · exact h
theorem rrow_spec (l : List Bar) (p : Bar) : ∀ (m P : List Bar), (∀ x ∈ m, x ∈ l) → PartOk l [] P → PartOk l [] (m.foldl (rtry p) P) ∧ (∃ r, m.foldl (rtry p) P = P ++ r) ∧ (∀ x ∈ m.foldl (rtry p) P, x ∈ P ∨ Tch p x) ∧ ∀ c ∈ m, Tch p c → c ∈ m.foldl (rtry p) P
  | [], P, _, hP => ⟨hP, ⟨[], by simp⟩, fun x h => .inl h, fun c h => by simp at h⟩
  | c :: m, P, hm, hP => by
    obtain ⟨h1, ⟨r, hr⟩, h3, h4⟩ := rrow_spec l p m (rtry p P c) (fun x hx => hm x (by simp [hx])) (rtry_ok rfl hP (hm c (by simp)))
    have hpre : ∃ r', rtry p P c = P ++ r' := by
      unfold rtry
      split
      · exact ⟨_, rfl⟩
      · exact ⟨[], by simp⟩
    obtain ⟨r', hr'⟩ := hpre
    refine ⟨h1, ⟨r' ++ r, by rw [List.foldl_cons, hr, hr', List.append_assoc]⟩, fun x hx => ?_, fun x hx ht => ?_⟩
    · rcases h3 x hx with h | h
      · unfold rtry at h
        split at h
        · rename_i hn
          rcases List.mem_append.1 h with h | h
          · exact .inl h
          · obtain rfl : x = c := by simpa using h
            exact .inr hn.1
        · exact .inl h
      · exact .inr h
    · rcases List.mem_cons.1 hx with rfl | hx
      · rw [List.foldl_cons, hr]
        refine List.mem_append_left _ ?_
        unfold rtry
        split
        · simp
        · rename_i hn
          exact Decidable.byContradiction fun h => hn ⟨ht, h⟩
      · exact h4 x hx ht
theorem rrow_pre (l : List Bar) (p : Bar) : ∀ (P : List Bar), ∃ r, rrow l p P = P ++ r := by
  unfold rrow
  induction l with
  | nil => exact fun P => ⟨[], by simp⟩
  | cons c l ih =>
    intro P
    obtain ⟨r, hr⟩ := ih (rtry p P c)
    have hpre : ∃ r', rtry p P c = P ++ r' := by
      unfold rtry
      split
      · exact ⟨_, rfl⟩
      · exact ⟨[], by simp⟩
    obtain ⟨r', hr'⟩ := hpre
    exact ⟨r' ++ r, by rw [List.foldl_cons, hr, hr', List.append_assoc]⟩
theorem rrow_new (p : Bar) : ∀ (l P : List Bar) (x : Bar), x ∈ rrow l p P → x ∈ P ∨ Tch p x
  | [], P, x, h => .inl h
  | c :: l, P, x, h => by
    rcases rrow_new p l (rtry p P c) x h with h | h
    · unfold rtry at h
      split at h
      · rename_i hn
        rcases List.mem_append.1 h with h | h
        · exact .inl h
        · obtain rfl : x = c := by simpa using h
          exact .inr hn.1
      · exact .inl h
    · exact .inr h
theorem rrow_got (p : Bar) : ∀ (l P : List Bar) (c : Bar), c ∈ l → Tch p c → c ∈ rrow l p P
  | a :: l, P, c, hc, ht => by
    rcases List.mem_cons.1 hc with rfl | hc
    · obtain ⟨r, hr⟩ := rrow_pre l p (rtry p P c)
      show c ∈ rrow l p (rtry p P c)
      rw [hr]
      refine List.mem_append_left _ ?_
      unfold rtry
      split
      · simp
      · rename_i hn
        exact Decidable.byContradiction fun h => hn ⟨ht, h⟩
    · exact rrow_got p l (rtry p P a) c hc ht
theorem rrow_ok (l : List Bar) : ExOk l [] (rrow l) :=
  ⟨fun p P h => (rrow_spec l p l P (fun _ h => h) h).1, fun p P => rrow_pre l p P, fun p P x h => rrow_new p l P x h, fun p P c hc ht => .inl (rrow_got p l P c hc ht)⟩
/-- the part of a bar, of the reference -/
def rpart (l : List Bar) (b : Bar) : List Bar := setB (rcol l (l.length + 1) 0 [b])
theorem rpart_eq {l : List Bar} (hs : l.Pairwise bltP) {b : Bar} (hb : b ∈ l) : rpart l b = compL l b := by
  obtain ⟨h1, h2⟩ := colG_conn (rrow_ok l) hb (by simp) (fun s h => by simp at h)
  exact sortedB_eq (setB_sorted _) (compL_sorted hs _) fun x => by unfold rpart rcol; rw [setB_mem, compL_mem hb]; exact h2 x
/-- the parts that the first k bars of a net begin, of the reference -/
def rprt (l : List Bar) : Nat → List (List Bar)
  | 0 => []
  | k + 1 => match l[k]? with
    | none => rprt l k
    | some b => if b ∈ (rprt l k).flatten then rprt l k else rprt l k ++ [rpart l b]
theorem rprt_succ {l : List Bar} {k : Nat} (hk : k < l.length) : rprt l (k + 1) = if l[k] ∈ (rprt l k).flatten then rprt l k else rprt l k ++ [rpart l l[k]] := by
  rw [rprt, List.getElem?_eq_getElem hk]
theorem rprt_prtC {l : List Bar} (hs : l.Pairwise bltP) : ∀ (k : Nat), k ≤ l.length → rprt l k = prtC l k
  | 0, _ => rfl
  | k + 1, hk => by
    have hlt : k < l.length := by omega
    rw [rprt_succ hlt, prtC_succ hlt, rprt_prtC hs k (by omega), rpart_eq hs (List.getElem_mem hlt)]
theorem parts_ref {l : List Bar} (hs : l.Pairwise bltP) (hd : ∀ b ∈ l, Sided b) : partsL l = rprt l l.length := by
  rw [partsL_eq hs hd, rprt_prtC hs _ (Nat.le_refl _)]
end Go.Proofs.Ytpoaomdpcoaolaa

/- Parts and labels of knots, plain. Conditions: none. -/
namespace Go.Proofs.Ytpoaomdpcoaolaa
open Go.RowKit Go.ChangeMaps
set_option maxHeartbeats 4000000
set_option maxRecDepth 100000

/-- a bar leads from one knot to the other -/
def Leads (b : Bar) (u v : Knot) : Prop := u = lowK b ∧ v = uppK b ∨ u = uppK b ∧ v = lowK b
theorem Leads.symm {b : Bar} {u v : Knot} (h : Leads b u v) : Leads b v u := by
  rcases h with ⟨h1, h2⟩ | ⟨h1, h2⟩
  · exact .inr ⟨h2, h1⟩
  · exact .inl ⟨h2, h1⟩
/-- the knots that are connected with a knot -/
inductive KC (l : List Bar) (u : Knot) : Knot → Prop
  | refl : KC l u u
  | step {v w : Knot} {b : Bar} : KC l u v → b ∈ l → Leads b v w → KC l u w
theorem KC.trans {l : List Bar} {u v w : Knot} (h : KC l u v) (h' : KC l v w) : KC l u w := by
  induction h' with
  | refl => exact h
  | step _ hm ht ih => exact ih.step hm ht
theorem KC.symm {l : List Bar} {u v : Knot} (h : KC l u v) : KC l v u := by
  induction h with
  | refl => exact .refl
  | step _ hm ht ih => exact (KC.step .refl hm ht.symm).trans ih
theorem KC.mono {l l' : List Bar} (hs : ∀ b ∈ l, b ∈ l') {u v : Knot} (h : KC l u v) : KC l' u v := by
  induction h with
  | refl => exact .refl
  | step _ hm ht ih => exact ih.step (hs _ hm) ht
theorem KC.bar {l : List Bar} {b : Bar} (h : b ∈ l) : KC l (lowK b) (uppK b) := KC.step .refl h (.inl ⟨rfl, rfl⟩)
theorem KC.nil_ {u v : Knot} (h : KC [] u v) : u = v := by
  induction h with
  | refl => rfl
  | step _ hm _ _ => simp at hm
theorem KC.ends {l : List Bar} {u v : Knot} (h : KC l u v) (hne : u ≠ v) : v ∈ holeK l := by
  cases h with
  | refl => exact absurd rfl hne
  | step _ hm ht =>
    rename_i b _
    refine (holeIn_mem _ l []).2 (.inr ⟨b, hm, ?_⟩)
    rcases ht with ⟨_, h⟩ | ⟨_, h⟩
    · exact .inr h
    · exact .inl h
theorem KC.cons_iff {l : List Bar} {b : Bar} {u v : Knot} : KC (b :: l) u v ↔ KC l u v ∨ (KC l u (lowK b) ∨ KC l u (uppK b)) ∧ (KC l v (lowK b) ∨ KC l v (uppK b)) := by
  constructor
  · intro h
    induction h with
    | refl => exact .inl .refl
    | step _ hm ht ih =>
      rename_i x w c _
      rcases List.mem_cons.1 hm with rfl | hm
      · have hx : KC l x (lowK c) ∨ KC l x (uppK c) := by
          rcases ht with ⟨rfl, _⟩ | ⟨rfl, _⟩
          · exact .inl .refl
          · exact .inr .refl
        have hw : KC l w (lowK c) ∨ KC l w (uppK c) := by
          rcases ht with ⟨_, rfl⟩ | ⟨_, rfl⟩
          · exact .inr .refl
          · exact .inl .refl
        rcases ih with ih | ⟨ih, _⟩
        · exact .inr ⟨hx.imp ih.trans ih.trans, hw⟩
        · exact .inr ⟨ih, hw⟩
      · rcases ih with ih | ⟨ih1, ih2⟩
        · exact .inl (ih.step hm ht)
        · have hwx : KC l w x := KC.step .refl hm ht.symm
          exact .inr ⟨ih1, ih2.imp hwx.trans hwx.trans⟩
  · rintro (h | ⟨h1, h2⟩)
    · exact h.mono fun c hc => by simp [hc]
    · have m : ∀ {u v : Knot}, KC l u v → KC (b :: l) u v := fun h => h.mono fun c hc => by simp [hc]
      have hb : KC (b :: l) (lowK b) (uppK b) := KC.bar (by simp)
      have h1' : KC (b :: l) u (lowK b) := h1.elim m fun h => (m h).trans hb.symm
      have h2' : KC (b :: l) v (lowK b) := h2.elim m fun h => (m h).trans hb.symm
      exact h1'.trans h2'.symm
/-- a labelling tells which knots are connected -/
def Lab (l : List Bar) (f : Knot → Knot) : Prop := ∀ u v, f u = f v ↔ KC l u v
theorem Lab.nil_ : Lab [] id := fun u v => ⟨fun h => by cases h; exact .refl, fun h => h.nil_⟩
theorem Lab.congr {l l' : List Bar} {f : Knot → Knot} (h : Lab l f) (hs : ∀ b, b ∈ l ↔ b ∈ l') : Lab l' f := fun u v =>
  (h u v).trans ⟨fun h => h.mono fun b hb => (hs b).1 hb, fun h => h.mono fun b hb => (hs b).2 hb⟩
/-- a labelling with one bar more -/
def mrgF (f : Knot → Knot) (b : Bar) (k : Knot) : Knot := if f k = f (uppK b) then f (lowK b) else f k
theorem mrgF_eq (f : Knot → Knot) (b : Bar) (u v : Knot) : mrgF f b u = mrgF f b v ↔ f u = f v ∨ (f u = f (lowK b) ∨ f u = f (uppK b)) ∧ (f v = f (lowK b) ∨ f v = f (uppK b)) := by
  unfold mrgF
  by_cases h1 : f u = f (uppK b) <;> by_cases h2 : f v = f (uppK b)
  · simp [h1, h2]
  · simp only [if_neg h2, h1]
    constructor
    · intro h; exact .inr ⟨.inr trivial, .inl h.symm⟩
    · rintro (h | ⟨_, h | h⟩)
      · exact absurd h.symm h2
      · exact h.symm
      · exact absurd h h2
  · simp only [if_neg h1, h2]
    constructor
    · intro h; exact .inr ⟨.inl h, .inr trivial⟩
    · rintro (h | ⟨h | h, _⟩)
      · exact absurd h h1
      · exact h
      · exact absurd h h1
  · simp only [if_neg h1, if_neg h2]
    constructor
    · exact .inl
    · rintro (h | ⟨h | h, h' | h'⟩)
      · exact h
      · rw [h, h']
      · exact absurd h' h2
      · exact absurd h h1
      · exact absurd h h1
theorem Lab.cons_ {l : List Bar} {f : Knot → Knot} (h : Lab l f) (b : Bar) : Lab (b :: l) (mrgF f b) := fun u v => by
  rw [mrgF_eq, KC.cons_iff, h u v, h u, h u, h v, h v]
theorem lab_ex : ∀ l : List Bar, ∃ f, Lab l f
  | [] => ⟨_, Lab.nil_⟩
  | b :: l => by
    obtain ⟨f, hf⟩ := lab_ex l
    exact ⟨_, hf.cons_ b⟩
/-- how many labels a list has -/
def nL {α : Type} (f : α → Knot) : List α → Nat
  | [] => 0
  | w :: W => nL f W + if f w ∈ W.map f then 0 else 1
theorem nL_congr {α : Type} {f g : α → Knot} : ∀ {W : List α}, (∀ u ∈ W, ∀ v ∈ W, (f u = f v ↔ g u = g v)) → nL f W = nL g W
  | [], _ => rfl
  | w :: W, h => by
    rw [nL, nL, nL_congr (W := W) fun u hu v hv => h u (by simp [hu]) v (by simp [hv])]
    have : f w ∈ W.map f ↔ g w ∈ W.map g := by
      simp only [List.mem_map]
      constructor
      · rintro ⟨x, hx, e⟩; exact ⟨x, hx, (h x (by simp [hx]) w (by simp)).1 e⟩
      · rintro ⟨x, hx, e⟩; exact ⟨x, hx, (h x (by simp [hx]) w (by simp)).2 e⟩
    simp only [this]
theorem nL_len {α : Type} {f : α → Knot} : ∀ {W : List α} {L : List Knot}, L.Nodup → (∀ x, x ∈ L ↔ x ∈ W.map f) → L.length = nL f W
  | [], L, _, h => by
    cases L with
    | nil => rfl
    | cons a r => have := (h a).1 (by simp); simp at this
  | w :: W, L, hn, h => by
    rw [nL]
    by_cases hm : f w ∈ W.map f
    · rw [if_pos hm, Nat.add_zero]
      refine nL_len hn fun x => ?_
      rw [h x, List.map_cons, List.mem_cons]
      exact ⟨fun h => h.elim (fun e => e ▸ hm) id, .inr⟩
    · rw [if_neg hm]
      have hw : f w ∈ L := (h _).2 (by simp)
      have := nL_len (W := W) (L := L.erase (f w)) (hn.erase _) fun x => by
        rw [hn.mem_erase_iff, h x, List.map_cons, List.mem_cons]
        constructor
        · rintro ⟨h1, h2⟩; exact h2.resolve_left h1
        · intro hx; exact ⟨fun e => hm (e ▸ hx), .inr hx⟩
      rw [← this, List.length_erase_of_mem hw]
      have := List.length_pos_of_mem hw
      omega
theorem foldK_mem (k : Knot) : ∀ (m o : List Knot), k ∈ m.foldl insK o ↔ k ∈ o ∨ k ∈ m
  | [], o => by simp
  | a :: m, o => by
    rw [List.foldl_cons, foldK_mem k m, insK_mem, List.mem_cons]
    constructor
    · rintro ((h | h) | h)
      · exact .inr (.inl h)
      · exact .inl h
      · exact .inr (.inr h)
    · rintro (h | h | h)
      · exact .inl (.inr h)
      · exact .inl (.inl h)
      · exact .inr h
theorem foldK_sorted : ∀ (m o : List Knot), o.Pairwise kltP → (m.foldl insK o).Pairwise kltP
  | [], _, h => h
  | a :: m, _, h => foldK_sorted m _ (insK_sorted a h)
/-- each once -/
def dedK (m : List Knot) : List Knot := m.foldl insK []
theorem dedK_mem (m : List Knot) (k : Knot) : k ∈ dedK m ↔ k ∈ m := by unfold dedK; rw [foldK_mem]; simp
theorem dedK_nodup (m : List Knot) : (dedK m).Nodup := sortedK_nodup (foldK_sorted m [] List.Pairwise.nil)
theorem nL_ded {α : Type} (f : α → Knot) (W : List α) : nL f W = (dedK (W.map f)).length := (nL_len (dedK_nodup _) fun x => dedK_mem _ x).symm
theorem nL_set {α β : Type} {f : α → Knot} {g : β → Knot} {W : List α} {V : List β} (h : ∀ x, x ∈ W.map f ↔ x ∈ V.map g) : nL f W = nL g V := by
  rw [nL_ded]
  exact nL_len (dedK_nodup _) fun x => (dedK_mem _ x).trans (h x)
/-- one bar more: one label less, or as many -/
theorem nL_mrg {f : Knot → Knot} {b : Bar} {W : List Knot} (hu : lowK b ∈ W) (hv : uppK b ∈ W) : nL f W = nL (mrgF f b) W + if f (lowK b) = f (uppK b) then 0 else 1 := by
  by_cases h : f (lowK b) = f (uppK b)
  · rw [if_pos h, Nat.add_zero]
    refine nL_congr fun x _ y _ => ?_
    rw [mrgF_eq, h]
    constructor
    · exact .inl
    · rintro (h | ⟨h1 | h1, h2 | h2⟩)
      · exact h
      all_goals rw [h1, h2]
  · rw [if_neg h, nL_ded f W]
    have hm : f (uppK b) ∈ dedK (W.map f) := (dedK_mem _ _).2 (List.mem_map.2 ⟨_, hv, rfl⟩)
    have := nL_len (f := mrgF f b) (W := W) (L := (dedK (W.map f)).erase (f (uppK b))) ((dedK_nodup _).erase _) fun x => by
      rw [(dedK_nodup _).mem_erase_iff, dedK_mem, List.mem_map, List.mem_map]
      constructor
      · rintro ⟨h1, w, hw, rfl⟩
        exact ⟨w, hw, by unfold mrgF; rw [if_neg h1]⟩
      · rintro ⟨w, hw, rfl⟩
        unfold mrgF
        split
        · exact ⟨h, _, hu, rfl⟩
        · rename_i h1; exact ⟨h1, w, hw, rfl⟩
    rw [← this, List.length_erase_of_mem hm]
    have := List.length_pos_of_mem hm
    omega
/-! ## parts and labels -/
theorem conn_kc {l : List Bar} {a b : Bar} (ha : a ∈ l) (hb : b ∈ l) : Conn l a b ↔ KC l (lowK a) (lowK b) := by
  constructor
  · intro h
    clear hb
    induction h with
    | refl => exact .refl
    | step hab hm ht ih =>
      rename_i c d
      have hc := hab.mem ha
      have e1 : KC l (lowK c) (uppK c) := KC.bar hc
      have e2 : KC l (lowK d) (uppK d) := KC.bar hm
      rcases ht with h | h | h | h
      · exact ih.trans (by rw [h]; exact .refl)
      · exact ih.trans (by rw [h]; exact e2.symm)
      · exact (ih.trans e1).trans (by rw [h]; exact .refl)
      · exact (ih.trans e1).trans (by rw [h]; exact e2.symm)
  · have key : ∀ v, KC l (lowK a) v → ∀ c ∈ l, (v = lowK c ∨ v = uppK c) → Conn l a c := fun v h => by
      induction h with
      | refl => exact fun c hc e => Conn.step .refl hc (e.elim .inl fun e => .inr (.inl e))
      | step hv hm ht ih =>
        rename_i x w d
        intro c hc e
        have hd : Conn l a d := ih d hm (by rcases ht with ⟨h, _⟩ | ⟨h, _⟩; exact .inl h; exact .inr h)
        refine hd.step hc ?_
        rcases ht with ⟨_, h⟩ | ⟨_, h⟩
        · rcases e with e | e
          · exact .inr (.inr (.inl (h ▸ e)))
          · exact .inr (.inr (.inr (h ▸ e)))
        · rcases e with e | e
          · exact .inl (h ▸ e)
          · exact .inr (.inl (h ▸ e))
    exact fun h => key _ h b hb (.inl rfl)
theorem prtC_len {l : List Bar} {f : Knot → Knot} (hf : Lab l f) : ∀ k, k ≤ l.length → (prtC l k).length = nL (fun b => f (lowK b)) (l.take k).reverse
  | 0, _ => by simp [prtC, nL]
  | k + 1, hk => by
    have hlt : k < l.length := by omega
    have ih := prtC_len hf k (by omega)
    rw [prtC_succ hlt, ← List.take_append_getElem hlt, List.reverse_append, List.reverse_singleton, List.singleton_append, nL]
    have hm : l[k] ∈ (prtC l k).flatten ↔ f (lowK l[k]) ∈ (l.take k).reverse.map fun b => f (lowK b) := by
      rw [prtC_flat l k (by omega), List.mem_map]
      constructor
      · rintro ⟨j, hj, hjk, hc⟩
        refine ⟨l[j], List.mem_reverse.2 (List.mem_take_iff_getElem.2 ⟨j, by omega, rfl⟩), ?_⟩
        exact (hf _ _).2 ((conn_kc (List.getElem_mem hj) (List.getElem_mem hlt)).1 hc)
      · rintro ⟨b, hb, e⟩
        obtain ⟨j, hj, rfl⟩ := List.mem_take_iff_getElem.1 (List.mem_reverse.1 hb)
        have hj' : j < l.length := by omega
        exact ⟨j, hj', by omega, (conn_kc (List.getElem_mem hj') (List.getElem_mem hlt)).2 ((hf _ _).1 e)⟩
    by_cases h : l[k] ∈ (prtC l k).flatten
    · rw [if_pos h, if_pos (hm.1 h), ih, Nat.add_zero]
    · rw [if_neg h, if_neg (fun e => h (hm.2 e)), List.length_append, ih]; rfl
theorem holeK_ends (l : List Bar) (k : Knot) : k ∈ holeK l ↔ ∃ b ∈ l, k = lowK b ∨ k = uppK b := by
  unfold holeK; rw [holeIn_mem]; simp
theorem parts_len {l : List Bar} {f : Knot → Knot} (hf : Lab l f) : (prtC l l.length).length = nL f (holeK l) := by
  rw [prtC_len hf _ (Nat.le_refl _), List.take_length]
  refine nL_set fun x => ?_
  simp only [List.mem_map, List.mem_reverse, holeK_ends]
  constructor
  · rintro ⟨b, hb, rfl⟩; exact ⟨_, ⟨b, hb, .inl rfl⟩, rfl⟩
  · rintro ⟨k, ⟨b, hb, rfl | rfl⟩, rfl⟩
    · exact ⟨b, hb, rfl⟩
    · exact ⟨b, hb, (hf _ _).2 (KC.bar hb)⟩
/-- knots beside a net are labels of their own -/
theorem nL_more {l : List Bar} {f : Knot → Knot} (hf : Lab l f) {W : List Knot} (hW : W.Nodup) (hs : ∀ k ∈ holeK l, k ∈ W) : nL f W + (holeK l).length = nL f (holeK l) + W.length := by
  have hlen : W.length = (holeK l).length + (W.filter fun k => decide (k ∉ holeK l)).length := by
    have h1 : (W.filter fun k => decide (k ∈ holeK l)).length = (holeK l).length := by
      refine Nat.le_antisymm (length_le_of_sub (hW.filter _) fun x hx => ?_) (length_le_of_sub (sortedK_nodup (holeK_sorted l)) fun x hx => ?_)
      · simpa using (List.mem_filter.1 hx).2
      · exact List.mem_filter.2 ⟨hs x hx, by simpa using hx⟩
    have h2 := split_len (fun k => decide (k ∈ holeK l)) W
    rw [h2, h1]
    congr 2
    exact List.filter_congr fun k _ => by simp
  have := nL_len (f := f) (W := W) (L := dedK ((holeK l).map f) ++ (W.filter fun k => decide (k ∉ holeK l)).map f) (by
    rw [List.nodup_append]
    refine ⟨dedK_nodup _, ?_, ?_⟩
    · refine nodup_map (hW.filter _) fun a _ b hb e => Decidable.byContradiction fun hne => ?_
      have hb' := (List.mem_filter.1 hb).2
      exact absurd (((hf _ _).1 e).ends hne) (by simpa using hb')
    · intro x hx y hy e
      rw [dedK_mem, List.mem_map] at hx
      obtain ⟨k, hk, rfl⟩ := hx
      obtain ⟨k', hk', rfl⟩ := List.mem_map.1 hy
      have hk2 := (List.mem_filter.1 hk').2
      refine absurd (((hf _ _).1 e).ends fun e' => ?_) (by simpa using hk2)
      subst e'
      exact absurd hk (by simpa using hk2)) fun x => by
    rw [List.mem_append, dedK_mem]
    simp only [List.mem_map]
    constructor
    · rintro (⟨k, hk, rfl⟩ | ⟨k, hk, rfl⟩)
      · exact ⟨k, hs k hk, rfl⟩
      · exact ⟨k, (List.mem_filter.1 hk).1, rfl⟩
    · rintro ⟨k, hk, rfl⟩
      by_cases h : k ∈ holeK l
      · exact .inl ⟨k, h, rfl⟩
      · exact .inr ⟨k, List.mem_filter.2 ⟨hk, by simpa using h⟩, rfl⟩
  rw [List.length_append, List.length_map, ← nL_ded] at this
  omega
end Go.Proofs.Ytpoaomdpcoaolaa

/- Lists of bars that are kept in order, a walk's bars, and the two ends of a run: plain. Conditions: none. -/
import Derived.Test.YthcnngoaijgnoaaGreatK11
import Derived.Test.YthcnngoaijgnoaaGreatRcwJ
namespace Go.Proofs.YthcnngoaijgnoaaGreat

theorem insB_mem (b y : Bar) : ∀ l, y ∈ insB l b ↔ y = b ∨ y ∈ l
  | [] => by simp [insB]
  | x :: r => by
    unfold insB
    split
    · rw [List.mem_cons, insB_mem b y r, List.mem_cons]
      constructor
      · rintro (h | h | h) <;> simp [h]
      · rintro (h | h | h) <;> simp [h]
    · simp
theorem insB_sorted {b : Bar} : ∀ {l : List Bar}, l.Pairwise bltP → b ∉ l → (insB l b).Pairwise bltP
  | [], _, _ => by simp [insB]
  | x :: r, h, hb => by
    obtain ⟨h1, h2⟩ := List.pairwise_cons.1 h
    have hbx : x ≠ b := fun e => hb (by simp [e])
    have hbr : b ∉ r := fun e => hb (by simp [e])
    unfold insB
    split
    · rename_i hx
      refine List.pairwise_cons.2 ⟨fun y hy => ?_, insB_sorted h2 hbr⟩
      rcases (insB_mem b y r).1 hy with rfl | hy
      · exact hx
      · exact h1 y hy
    · rename_i hx
      have hlt : bltP b x := bltP_tri (fun h => hx h) hbx
      refine List.pairwise_cons.2 ⟨fun y hy => ?_, h⟩
      rcases List.mem_cons.1 hy with rfl | hy
      · exact hlt
      · exact bltP_trans hlt (h1 y hy)
theorem hasb_mem {l : List Bar} {b : Bar} : hasb l b = true ↔ b ∈ l := by simp [hasb]
theorem hasb_not {l : List Bar} {b : Bar} : hasb l b = false ↔ b ∉ l := by simp [hasb]
theorem tog_mem (x : Bar) : ∀ (b a : List Bar), x ∈ tog a b ↔ x ∈ a ∨ x ∈ b
  | [], a => by simp [tog]
  | y :: b, a => by
    show x ∈ tog (if hasb a y then a else insB a y) b ↔ _
    rw [tog_mem x b]
    by_cases h : hasb a y = true
    · rw [if_pos h]
      have := hasb_mem.1 h
      constructor
      · rintro (h | h) <;> simp [h]
      · rintro (h | h)
        · exact .inl h
        · rcases List.mem_cons.1 h with rfl | h
          · exact .inl this
          · exact .inr h
    · rw [if_neg h, insB_mem, List.mem_cons]
      constructor
      · rintro ((h | h) | h) <;> simp [h]
      · rintro (h | h | h) <;> simp [h]
theorem tog_sorted : ∀ (b a : List Bar), a.Pairwise bltP → (tog a b).Pairwise bltP
  | [], a, h => h
  | y :: b, a, h => by
    show (tog (if hasb a y then a else insB a y) b).Pairwise bltP
    by_cases hh : hasb a y = true
    · rw [if_pos hh]; exact tog_sorted b a h
    · rw [if_neg hh]; exact tog_sorted b _ (insB_sorted h (hasb_not.1 (by simpa using hh)))
theorem sortedB_eq {l r : List Bar} (h1 : l.Pairwise bltP) (h2 : r.Pairwise bltP) (h : ∀ x, x ∈ l ↔ x ∈ r) : l = r := sorted_unique bltP_irrefl (fun _ _ _ => bltP_trans) h1 h2 h
theorem sortedB_nodup {l : List Bar} (h : l.Pairwise bltP) : l.Nodup := h.imp fun hab e => by subst e; exact bltP_irrefl _ hab
theorem srtB_unique {l r : List Bar} (hn : l.Nodup) (hs : r.Pairwise bltP) (h : ∀ x, x ∈ r ↔ x ∈ l) : srtB l = r := sortedB_eq (srtB_sorted hn) hs fun x => by rw [srtB_mem, h]
theorem mkB_some : ∀ (p o r : List Bar), o.Pairwise bltP → mkB o p = some r → r.Pairwise bltP ∧ (∀ x, x ∈ r ↔ x ∈ o ∨ x ∈ p) ∧ p.Nodup ∧ ∀ x ∈ p, x ∉ o
  | [], o, r, h, e => by
    obtain rfl := Option.some.inj e
    exact ⟨h, fun x => by simp, List.nodup_nil, fun x hx => by simp at hx⟩
  | b :: p, o, r, h, e => by
    unfold mkB at e
    split at e
    · cases e
    · rename_i hh
      have hb : b ∉ o := hasb_not.1 (by simpa using hh)
      obtain ⟨h1, h2, h3, h4⟩ := mkB_some p (insB o b) r (insB_sorted h hb) e
      refine ⟨h1, fun x => ?_, List.nodup_cons.2 ⟨fun hm => h4 b hm ((insB_mem b b o).2 (.inl rfl)), h3⟩, fun x hx hm => ?_⟩
      · rw [h2, insB_mem, List.mem_cons]
        constructor
        · rintro ((h | h) | h) <;> simp [h]
        · rintro (h | h | h) <;> simp [h]
      · rcases List.mem_cons.1 hx with rfl | hx
        · exact hb hm
        · exact h4 x hx ((insB_mem b x o).2 (.inr hm))
theorem mkB_none : ∀ (p o : List Bar), mkB o p = none → ¬ (p.Nodup ∧ ∀ x ∈ p, x ∉ o)
  | [], o, e => by cases e
  | b :: p, o, e => by
    rintro ⟨h1, h2⟩
    obtain ⟨h3, h4⟩ := List.nodup_cons.1 h1
    unfold mkB at e
    rw [if_neg (by rw [hasb_not.2 (h2 b (by simp))]; simp)] at e
    refine mkB_none p _ e ⟨h4, fun x hx hm => ?_⟩
    rcases (insB_mem b x o).1 hm with rfl | hm
    · exact h3 hx
    · exact h2 x (by simp [hx]) hm
theorem mkB_eq (p : List Bar) : mkB [] p = if p.Nodup then some (srtB p) else none := by
  cases e : mkB [] p with
  | none =>
    have := mkB_none p [] e
    rw [if_neg (fun h => this ⟨h, fun x _ => by simp⟩)]
  | some r =>
    obtain ⟨h1, h2, h3, _⟩ := mkB_some p [] r List.Pairwise.nil e
    rw [if_pos h3, srtB_unique h3 h1 (fun x => by rw [h2]; simp)]
theorem adjDup_weak : ∀ l : List Bar, l.Pairwise (fun a b => a = b ∨ bltP a b) → (adjDup l = false ↔ l.Nodup)
  | [], _ => by simp [adjDup]
  | [a], _ => by simp [adjDup]
  | a :: b :: r, h => by
    obtain ⟨h1, h2⟩ := List.pairwise_cons.1 h
    have ih := adjDup_weak (b :: r) h2
    unfold adjDup
    rw [Bool.or_eq_false_iff, ih, decide_eq_false_iff_not]
    constructor
    · rintro ⟨hab, hn⟩
      refine List.nodup_cons.2 ⟨fun hm => ?_, hn⟩
      rcases List.mem_cons.1 hm with e | hm
      · exact hab e.symm
      · have hba : bltP a b := (h1 b (by simp)).resolve_left (fun e => hab e.symm)
        rcases (List.pairwise_cons.1 h2).1 a hm with e | hlt
        · exact hab e
        · exact bltP_irrefl _ (bltP_trans hba hlt)
    · intro hn
      obtain ⟨g1, g2⟩ := List.nodup_cons.1 hn
      exact ⟨fun e => g1 (by simp [e]), g2⟩
theorem madeE_eq (l : List Knot) : madeE l = if cwE l = 0 then whenI (!(mkB [] (passP l)).isSome) 9 else cwE l := by
  unfold madeE
  by_cases h : cwE l = 0
  · rw [if_pos h, if_pos h, mkB_eq]
    have hw := adjDup_weak (srtB (passP l)) (srtB_weak _)
    have hn : (srtB (passP l)).Nodup ↔ (passP l).Nodup := (List.mergeSort_perm (passP l) _).nodup_iff
    rw [hn] at hw
    by_cases hd : (passP l).Nodup
    · rw [if_pos hd, hw.2 hd]; rfl
    · rw [if_neg hd]
      have : adjDup (srtB (passP l)) = true := by
        cases hh : adjDup (srtB (passP l))
        · exact absurd (hw.1 hh) hd
        · rfl
      rw [this]; rfl
  · rw [if_neg h, if_neg h]
theorem madeL_eq (l : List Knot) (h : cwE l = 0) : madeL l = (mkB [] (passP l)).getD [] := by
  unfold madeL
  rw [madeE_eq, if_pos h, mkB_eq]
  by_cases hd : (passP l).Nodup
  · rw [if_pos hd]; rfl
  · rw [if_neg hd]; rfl

/-! ## the ends of a run -/
theorem cnt_one_unique {D : List Bar} {k : Knot} (h : cnt (legsAt D k) = 1) {a b : Nat} (ha : a < 4) (hb : b < 4) (hma : armB k a ∈ D) (hmb : armB k b ∈ D) : a = b := by
  have h1 := (lget_mem D k ha).2 hma
  have h2 := (lget_mem D k hb).2 hmb
  generalize legsAt D k = L at h h1 h2
  obtain ⟨p, q, r, s⟩ := L
  obtain rfl | rfl | rfl | rfl : a = 0 ∨ a = 1 ∨ a = 2 ∨ a = 3 := by omega
  all_goals
    obtain rfl | rfl | rfl | rfl : b = 0 ∨ b = 1 ∨ b = 2 ∨ b = 3 := by omega
    all_goals (revert h h1 h2; revert p q r s; decide)
/-- the walk from a knot with one missing bar ends elsewhere -/
theorem walk_end_ne {D : List Bar} {k : Knot} (h1 : cnt (legsAt D k) = 1) {L : Nat} (hL : WEnd D (k, arm0 D k) L) : (dart D (k, arm0 D k) L).1 ≠ k := by
  have ho : ¬ evn D k := by unfold evn oddL; rw [h1]; simp
  obtain ⟨ha, hb⟩ := arm0_ok (odd_ne ho)
  intro e
  have hok := dart_ok (n := L - 1) ha hb (fun t h1 h2 => hL.even t h1 (by have := hL.pos; omega))
  have hp := hL.pos
  obtain ⟨a1, b1⟩ := hok (L - 1) (by omega)
  have hdl : dart D (k, arm0 D k) L = nxt D (dart D (k, arm0 D k) (L - 1)) := by
    have e : L = (L - 1) + 1 := by omega
    conv => lhs; rw [e]
    rfl
  have hk : armK (dart D (k, arm0 D k) (L - 1)).1 (dart D (k, arm0 D k) (L - 1)).2 = k := by rw [hdl] at e; exact e
  have hr := armB_rev (dart D (k, arm0 D k) (L - 1)).1 a1
  rw [hk] at hr
  have hm : armB k (3 - (dart D (k, arm0 D k) (L - 1)).2) ∈ D := by rw [hr]; exact b1
  have hsame := cnt_one_unique h1 (by omega) ha hm hb
  -- the last bar is the first one
  have hbar : barD (dart D (k, arm0 D k) (L - 1)) = barD (k, arm0 D k) := hr.symm.trans (congrArg (armB k) hsame)
  rcases Nat.eq_zero_or_pos (L - 1) with h0 | h0
  · rw [h0] at hk
    exact armK_ne k ha hk
  · have := bars_ne (n := L - 1) ha hb ho (fun t h1 h2 => hL.even t h1 (by omega)) h0 (Nat.le_refl _)
    exact this hbar.symm
theorem tryRun_ends {D : List Bar} (hs : ∀ b ∈ D, Sided b) {k : Knot} {W : List Knot} (h : tryRun D k = some W) : cnt (legsAt D k) = 1 ∧ ∃ z, z ∈ oddK D ∧ z ≠ k ∧ cnt (legsAt D z) = 1 := by
  unfold tryRun at h
  cases hc : (cnt (legsAt D k) == 1 && isRunP D (walkL D k)) with
  | false => rw [hc] at h; cases h
  | true =>
    rw [Bool.and_eq_true, beq_iff_eq] at hc
    obtain ⟨h1, h2⟩ := hc
    have ho : ¬ evn D k := by unfold evn oddL; rw [h1]; simp
    obtain ⟨L, hL, _, _⟩ := walkL_eq ho
    obtain ⟨_, hz, _⟩ := (isRun_walk ho hL).1 h2
    refine ⟨h1, _, ?_, walk_end_ne h1 hL, hz⟩
    refine List.mem_filter.2 ⟨(holeK_mem hs _).2 (odd_ne hL.odd), ?_⟩
    have := hL.odd
    unfold evn at this
    simpa using this
theorem ready_ends {D : List Bar} (hs : ∀ b ∈ D, Sided b) (h : rdyB D = true) : ∀ k ∈ oddK D, cnt (legsAt D k) = 1 := by
  obtain ⟨W, hW⟩ : ∃ W, runO D = some W := by
    unfold rdyB at h
    exact Option.isSome_iff_exists.1 h
  unfold runO at hW
  split at hW
  · rename_i a b e
    have key : ∀ k, k ∈ oddK D → ∀ V, tryRun D k = some V → ∀ x ∈ oddK D, cnt (legsAt D x) = 1 := by
      intro k hk V hV x hx
      obtain ⟨h1, z, hz, hzk, h2⟩ := tryRun_ends hs hV
      rw [e] at hk hz hx
      simp only [List.mem_cons, List.not_mem_nil, or_false] at hk hz hx
      rcases hx with rfl | rfl <;> rcases hk with rfl | rfl <;> rcases hz with rfl | rfl <;> first | exact h1 | exact h2 | exact absurd rfl hzk
    split at hW
    · rename_i w hw
      exact key b (by rw [e]; simp) w hw
    · exact key a (by rw [e]; simp) W hW
  · cases hW
theorem isRunAny_eq {D : List Bar} (hs : ∀ b ∈ D, Sided b) (h : rdyB D = true) (l : List Knot) : isRunAny D l = (oneB D l && startsB D l) := by
  have hall := ready_ends hs h
  unfold isRunAny
  rw [Bool.eq_iff_iff, List.any_eq_true]
  constructor
  · rintro ⟨k, hk, hr⟩
    have h1 := hall k hk
    rw [rwalk_one h1] at hr
    rw [Bool.and_eq_true, decide_eq_true_eq] at hr
    obtain ⟨rfl, h2⟩ := hr
    have e1 : oneB D (walkL D k) = true := by
      show (cnt (legsAt D k) == 1) = true
      rw [h1]; rfl
    have e2 : startsB D (walkL D k) = true := by
      show (isRunP D (walkL D k) && decide (walkL D k = walkL D k)) = true
      rw [h2]; simp
    rw [e1, e2]; rfl
  · intro hr
    rw [Bool.and_eq_true] at hr
    obtain ⟨h1, h2⟩ := hr
    cases l with
    | nil => cases h1
    | cons k r =>
      have hc : cnt (legsAt D k) = 1 := by
        have : (cnt (legsAt D k) == 1) = true := h1
        simpa using this
      have h2' : (isRunP D (walkL D k) && decide (walkL D k = k :: r)) = true := h2
      rw [Bool.and_eq_true, decide_eq_true_eq] at h2'
      have ho : oddL (legsAt D k) = true := by unfold oddL; rw [hc]; rfl
      refine ⟨k, List.mem_filter.2 ⟨(holeK_mem hs k).2 (odd_legs ho), ho⟩, ?_⟩
      rw [rwalk_one hc, h2'.1, h2'.2]
      simp
end Go.Proofs.YthcnngoaijgnoaaGreat

/- The run of a torn net that is ready, plain: how often it passes a knot, and from where. Conditions: bars within bounds, each once. -/
import Derived.Test.YthcnngoaijgnoaaGreatK11
import Derived.Test.YthcnngoaijgnoaaGreatPldJ
namespace Go.Proofs.YthcnngoaijgnoaaGreat

theorem cnt_sum (k : Knot) : ∀ {D : List Bar}, D.Nodup → (∀ b ∈ D, Sided b) → cnt (legsAt D k) = (D.map fun b => shr b k).sum
  | [], _, _ => by rw [cnt_decide]; simp
  | b :: D, hn, hs => by
    rw [List.nodup_cons] at hn
    rw [cnt_cons (hs b (List.mem_cons_self ..)) hn.1, cnt_sum k hn.2 (fun x hx => hs x (List.mem_cons_of_mem _ hx)), List.map_cons, List.sum_cons, Nat.add_comm]
theorem shr_dart {d : Dart} (ha : d.2 < 4) (k : Knot) : shr (barD d) k = (if d.1 = k then 1 else 0) + (if armK d.1 d.2 = k then 1 else 0) := by
  obtain ⟨⟨x, y⟩, a⟩ := d
  obtain ⟨p, q⟩ := k
  simp only at ha
  obtain rfl | rfl | rfl | rfl : a = 0 ∨ a = 1 ∨ a = 2 ∨ a = 3 := by omega
  all_goals
    simp only [shr, barD, armB, armK, lowK, uppK, Prod.mk.injEq]
    (repeat' split) <;> omega
/-- how often the walk has passed a knot before step n -/
def vs (D : List Bar) (d : Dart) (k : Knot) : Nat → Nat
  | 0 => 0
  | n + 1 => vs D d k n + if 0 < n ∧ (dart D d n).1 = k then 1 else 0
section
variable {D : List Bar} {d : Dart} {L : Nat} {k : Knot}
theorem pathB_snoc (n : Nat) : pathB D d (n + 1) = pathB D d n ++ [barD (dart D d n)] := by
  unfold pathB
  rw [List.range_succ, List.map_append]; rfl
theorem vs_sum : ∀ n, (∀ t, t ≤ n → (dart D d t).2 < 4) → ((pathB D d (n + 1)).map fun b => shr b k).sum = 2 * vs D d k (n + 1) + (if d.1 = k then 1 else 0) + (if (dart D d (n + 1)).1 = k then 1 else 0)
  | 0, h => by
    have := shr_dart (h 0 (Nat.le_refl _)) k
    have e0 : pathB D d 0 = [] := rfl
    have e2 : vs D d k (0 + 1) = 0 := by simp [vs]
    rw [pathB_snoc, e0, List.nil_append, List.map_cons, List.map_nil, List.sum_cons, List.sum_nil, this, e2]
    show _ = 2 * 0 + (if (dart D d 0).1 = k then 1 else 0) + (if armK (dart D d 0).1 (dart D d 0).2 = k then 1 else 0)
    omega
  | n + 1, h => by
    have ih := vs_sum n (fun t ht => h t (by omega))
    have hd := shr_dart (h (n + 1) (Nat.le_refl _)) k
    have e1 : vs D d k (n + 1 + 1) = vs D d k (n + 1) + if (dart D d (n + 1)).1 = k then 1 else 0 := by
      show vs D d k (n + 1) + (if 0 < n + 1 ∧ (dart D d (n + 1)).1 = k then 1 else 0) = _
      simp
    have e : (dart D d (n + 1 + 1)).1 = armK (dart D d (n + 1)).1 (dart D d (n + 1)).2 := rfl
    rw [pathB_snoc, List.map_append, List.sum_append, ih, List.map_cons, List.map_nil, List.sum_cons, List.sum_nil, hd, e1, e]
    omega
theorem vs_mono {n : Nat} : ∀ m, n ≤ m → vs D d k n ≤ vs D d k m
  | 0, h => by obtain rfl : n = 0 := by omega
               exact Nat.le_refl _
  | m + 1, h => by
    by_cases e : n = m + 1
    · rw [e]; exact Nat.le_refl _
    · have := vs_mono (n := n) m (by omega)
      show _ ≤ vs D d k m + _
      omega
theorem vs_at {t : Nat} (h : 0 < t) : vs D d (dart D d t).1 (t + 1) = vs D d (dart D d t).1 t + 1 := by
  show vs D d _ t + _ = _
  rw [if_pos ⟨h, rfl⟩]
theorem vs_pos : ∀ n, 0 < vs D d k n → ∃ t, 0 < t ∧ t < n ∧ (dart D d t).1 = k ∧ vs D d k t = 0
  | 0, h => by simp [vs] at h
  | n + 1, h => by
    by_cases h0 : 0 < vs D d k n
    · obtain ⟨t, h1, h2, h3⟩ := vs_pos n h0
      exact ⟨t, h1, by omega, h3⟩
    · have e : vs D d k (n + 1) = vs D d k n + if 0 < n ∧ (dart D d n).1 = k then 1 else 0 := rfl
      rw [e] at h
      by_cases hk : 0 < n ∧ (dart D d n).1 = k
      · exact ⟨n, hk.1, by omega, hk.2, by omega⟩
      · rw [if_neg hk] at h; omega
/-- the walk from a dart is a run of L bars -/
structure RunAt (D : List Bar) (d : Dart) (L : Nat) : Prop where
  arm : d.2 < 4
  bar : barD d ∈ D
  wend : WEnd D d L
  len : L = D.length
  fine : fineW D d L
  last : cnt (legsAt D (dart D d L).1) = 1
  first : cnt (legsAt D d.1) = 1
theorem one_odd {k : Knot} (h : cnt (legsAt D k) = 1) : ¬ evn D k := by unfold evn oddL; rw [h]; simp
theorem RunAt.odd0 (h : RunAt D d L) : ¬ evn D d.1 := one_odd h.first
theorem RunAt.ok (h : RunAt D d L) : ∀ t, t < L → (dart D d t).2 < 4 ∧ barD (dart D d t) ∈ D := fun t ht =>
  dart_ok (n := L - 1) h.arm h.bar (fun t h1 h2 => h.wend.even t h1 (by have := h.wend.pos; omega)) t (by omega)
theorem RunAt.nodup (h : RunAt D d L) : (pathB D d L).Nodup := pathB_nodup h.arm h.bar h.odd0 h.wend.even
theorem RunAt.sub (h : RunAt D d L) : ∀ x ∈ pathB D d L, x ∈ D := pathB_sub h.arm h.bar h.wend.even
theorem RunAt.all (h : RunAt D d L) : ∀ x ∈ D, x ∈ pathB D d L := by
  intro b hb
  by_cases hm : b ∈ pathB D d L
  · exact hm
  · exfalso
    have := length_le_of_sub (l := b :: pathB D d L) (D := D) (List.nodup_cons.2 ⟨hm, h.nodup⟩) (fun x hx => by
      rcases List.mem_cons.1 hx with rfl | hx
      · exact hb
      · exact h.sub x hx)
    have hl := h.len
    simp [pathB_len] at this
    omega
theorem RunAt.perm (h : RunAt D d L) (hn : D.Nodup) : (pathB D d L).Perm D := (List.perm_ext_iff_of_nodup h.nodup hn).2 fun x => ⟨h.sub x, h.all x⟩
theorem RunAt.visits (h : RunAt D d L) (hn : D.Nodup) (hs : ∀ b ∈ D, Sided b) {t : Nat} (h0 : 0 < t) (h1 : t < L) : cnt (legsAt D (dart D d t).1) = 2 * vs D d (dart D d t).1 L := by
  have he := h.wend.even t h0 h1
  rw [cnt_sum _ hn hs, ← ((h.perm hn).map _).sum_nat]
  obtain ⟨n, rfl⟩ : ∃ n, L = n + 1 := ⟨L - 1, by omega⟩
  rw [vs_sum n (fun t ht => (h.ok t (by omega)).1)]
  rw [if_neg (fun e => h.odd0 (by rw [e]; exact he)), if_neg (fun e => h.wend.odd (by rw [e]; exact he))]
  rfl
theorem dart_succ (t : Nat) (h : 0 < t) : dart D d t = nxt D (dart D d (t - 1)) := by
  obtain ⟨s, rfl⟩ : ∃ s, t = s + 1 := ⟨t - 1, by omega⟩
  rfl
/-- the arm by which a knot is reached -/
def byA (D : List Bar) (d : Dart) (t : Nat) : Nat := 3 - (dart D d (t - 1)).2
theorem by_onw (t : Nat) (h : 0 < t) : (dart D d t).2 = onw (legsAt D (dart D d t).1) (byA D d t) := by
  rw [dart_succ t h]; rfl
theorem by_bar {t : Nat} (h : 0 < t) (ha : (dart D d (t - 1)).2 < 4) : armB (dart D d t).1 (byA D d t) = barD (dart D d (t - 1)) := by
  rw [dart_succ t h]
  exact armB_rev _ ha
theorem by_knot {t : Nat} (h : 0 < t) (ha : (dart D d (t - 1)).2 < 4) : armK (dart D d t).1 (byA D d t) = (dart D d (t - 1)).1 := by
  rw [dart_succ t h]
  exact armK_rev _ ha
theorem by_four {t : Nat} (h : 0 < t) (h4 : cnt (legsAt D (dart D d t).1) = 4) : (dart D d t).2 = byA D d t ^^^ 1 := by
  rw [by_onw t h, onw_four h4]
/-- a knot with four missing bars is passed by its upper bars first -/
theorem RunAt.high (h : RunAt D d L) {t : Nat} (h0 : 0 < t) (h1 : t < L) (h4 : cnt (legsAt D (dart D d t).1) = 4) (hv : vs D d (dart D d t).1 t = 0) : byA D d t < 2 := by
  obtain ⟨r, r1, r2, r3, r4⟩ := h.fine t h0 h1 h4
  by_cases e : r = t
  · subst e; exact r4
  · exfalso
    have h2 := vs_mono (D := D) (d := d) (k := (dart D d t).1) (n := r + 1) t (by omega)
    have h3 := vs_at (D := D) (d := d) r1
    rw [r3] at h3
    omega
/-- and by its lower bars later -/
theorem RunAt.low (h : RunAt D d L) {t : Nat} (h0 : 0 < t) (h1 : t < L) (h4 : cnt (legsAt D (dart D d t).1) = 4) (hv : 0 < vs D d (dart D d t).1 t) : 2 ≤ byA D d t := by
  obtain ⟨f, f1, f2, f3, f4⟩ := vs_pos t hv
  have hf := h.high f1 (by omega) (by rw [f3]; exact h4) (by rw [f3]; exact f4)
  rcases Nat.lt_or_ge (byA D d t) 2 with hb | hb
  · exfalso
    have bf := by_bar f1 (h.ok (f - 1) (by omega)).1
    have bt := by_bar h0 (h.ok (t - 1) (by omega)).1
    have nf := by_four f1 (by rw [f3]; exact h4)
    rw [f3] at bf
    have hbar : barD (dart D d f) = armB (dart D d t).1 (byA D d f ^^^ 1) := by
      unfold barD; rw [nf, f3]
    have hne : ∀ i j, i < j → j < L → barD (dart D d i) ≠ barD (dart D d j) := fun i j hij hj =>
      bars_ne (n := L - 1) h.arm h.bar h.odd0 (fun t h1 h2 => h.wend.even t h1 (by omega)) hij (by omega)
    by_cases e : byA D d t = byA D d f
    · exact hne (f - 1) (t - 1) (by omega) (by omega) (by rw [← bf, ← bt, e])
    · have e2 : byA D d t = byA D d f ^^^ 1 := by
        rcases (by omega : byA D d f = 0 ∨ byA D d f = 1) with hq | hq <;> rw [hq] at e ⊢ <;> (first | (have : byA D d t = 1 := by omega); rw [this]; rfl | (have : byA D d t = 0 := by omega); rw [this]; rfl)
      by_cases e3 : f = t - 1
      · have hk := by_knot h0 (h.ok (t - 1) (by omega)).1
        rw [← e3, f3] at hk
        exact armK_ne _ (by omega) hk
      · exact hne f (t - 1) (by omega) (by omega) (by rw [hbar, ← bt, e2])
  · exact hb
theorem armK_up {a : Nat} (k : Knot) (h : a < 2) : (armK k a).2 = k.2 + 1 := by
  obtain ⟨x, y⟩ := k
  rcases (by omega : a = 0 ∨ a = 1) with rfl | rfl <;> rfl
theorem armK_down {a : Nat} (k : Knot) (h : 2 ≤ a) (h4 : a < 4) : (armK k a).2 = k.2 - 1 := by
  obtain ⟨x, y⟩ := k
  rcases (by omega : a = 2 ∨ a = 3) with rfl | rfl <;> rfl
/-- the first visit of a knot with four missing bars comes from above and goes there -/
theorem RunAt.highY (h : RunAt D d L) {t : Nat} (h0 : 0 < t) (h1 : t < L) (h4 : cnt (legsAt D (dart D d t).1) = 4) (hv : vs D d (dart D d t).1 t = 0) :
    (dart D d (t - 1)).1.2 = (dart D d t).1.2 + 1 ∧ (dart D d (t + 1)).1.2 = (dart D d t).1.2 + 1 := by
  have hb := h.high h0 h1 h4 hv
  refine ⟨?_, ?_⟩
  · rw [← by_knot h0 (h.ok (t - 1) (by omega)).1]
    exact armK_up _ hb
  · show (armK (dart D d t).1 (dart D d t).2).2 = _
    refine armK_up _ ?_
    rw [by_four h0 h4]
    rcases (by omega : byA D d t = 0 ∨ byA D d t = 1) with hq | hq <;> rw [hq] <;> decide
theorem RunAt.lowY (h : RunAt D d L) {t : Nat} (h0 : 0 < t) (h1 : t < L) (h4 : cnt (legsAt D (dart D d t).1) = 4) (hv : 0 < vs D d (dart D d t).1 t) :
    (dart D d (t - 1)).1.2 = (dart D d t).1.2 - 1 ∧ (dart D d (t + 1)).1.2 = (dart D d t).1.2 - 1 := by
  have hb := h.low h0 h1 h4 hv
  have hb4 : byA D d t < 4 := by unfold byA; omega
  refine ⟨?_, ?_⟩
  · rw [← by_knot h0 (h.ok (t - 1) (by omega)).1]
    exact armK_down _ hb hb4
  · show (armK (dart D d t).1 (dart D d t).2).2 = _
    refine armK_down _ ?_ (h.ok t h1).1
    rw [by_four h0 h4]
    rcases (by omega : byA D d t = 2 ∨ byA D d t = 3) with hq | hq <;> rw [hq] <;> decide
theorem run_at {W : List Knot} (h : runO D = some W) : ∃ k L, W = pathK D (k, arm0 D k) (L + 1) ∧ RunAt D (k, arm0 D k) L := by
  have key : ∀ k, tryRun D k = some W → ∃ k L, W = pathK D (k, arm0 D k) (L + 1) ∧ RunAt D (k, arm0 D k) L := by
    intro k hk
    unfold tryRun at hk
    cases hc : (cnt (legsAt D k) == 1 && isRunP D (walkL D k)) with
    | false => rw [hc] at hk; cases hk
    | true =>
      rw [hc] at hk
      rw [Bool.and_eq_true, beq_iff_eq] at hc
      obtain ⟨h1, h2⟩ := hc
      have ho := one_odd h1
      obtain ⟨ha, hb⟩ := arm0_ok (odd_ne ho)
      obtain ⟨L, hL, _, hw⟩ := walkL_eq ho
      obtain ⟨q1, q2, q3⟩ := (isRun_walk ho hL).1 h2
      obtain rfl : walkL D k = W := by simpa using hk
      exact ⟨k, L, hw, ⟨ha, hb, hL, q3, q1, q2, h1⟩⟩
  unfold runO at h
  split at h
  · split at h
    · rename_i w hw
      cases h
      exact key _ hw
    · exact key _ h
  · cases h
end
end Go.Proofs.YthcnngoaijgnoaaGreat

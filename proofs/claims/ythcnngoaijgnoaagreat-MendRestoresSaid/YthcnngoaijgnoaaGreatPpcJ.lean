/- The walk backwards, plain; walks along valid bars are valid. Conditions: bars within bounds, each once. -/
import Derived.Test.YthcnngoaijgnoaaGreatK11
import Derived.Test.YthcnngoaijgnoaaGreatPpbJ
import Derived.Test.YthcnngoaijgnoaaGreatPlbJ
namespace Go.Proofs.YthcnngoaijgnoaaGreat

/-! ## walks along valid bars -/
theorem dart_low {d : Dart} (ha : d.2 < 4) : (d.1 = lowK (barD d) ∨ d.1 = uppK (barD d)) ∧ (armK d.1 d.2 = lowK (barD d) ∨ armK d.1 d.2 = uppK (barD d)) := by
  obtain ⟨⟨x, y⟩, a⟩ := d
  simp only at ha
  obtain rfl | rfl | rfl | rfl : a = 0 ∨ a = 1 ∨ a = 2 ∨ a = 3 := by omega
  · exact ⟨.inl rfl, .inr (by simp only [barD, armB, armK, uppK]; ext <;> simp <;> omega)⟩
  · exact ⟨.inl rfl, .inr (by simp only [barD, armB, armK, uppK])⟩
  · exact ⟨.inr (by simp only [barD, armB, uppK]; ext <;> simp), .inl (by simp only [barD, armB, armK, lowK])⟩
  · exact ⟨.inr (by simp only [barD, armB, uppK]; ext <;> simp <;> omega), .inl (by simp only [barD, armB, armK, lowK])⟩
theorem barE_ends {b : Bar} (h : barE b.1 b.2.1 b.2.2 = 0) : knotE (lowK b).1 (lowK b).2 = 0 ∧ knotE (uppK b).1 (uppK b).2 = 0 := by
  obtain ⟨x, y, s⟩ := b
  unfold barE at h
  simp only at h
  split at h
  · rename_i h1; exact absurd h h1
  · rename_i h1
    split at h
    · cases h
    · exact ⟨Decidable.not_not.1 h1, h⟩
theorem netE_all {l : List Bar} (h : netE l = 0) : ∀ b ∈ l, barE b.1 b.2.1 b.2.2 = 0 := by
  unfold netE at h
  split at h
  · cases h
  · exact netGo_all l none h
theorem knotsE_of : ∀ {l : List Knot}, (∀ k ∈ l, knotE k.1 k.2 = 0) → knotsE l = 0
  | [], _ => rfl
  | k :: r, h => by
    have ih := knotsE_of (l := r) fun x hx => h x (List.mem_cons_of_mem _ hx)
    unfold knotsE at ih ⊢
    rw [List.map_cons, firstI, if_pos (h k (List.mem_cons_self ..))]
    exact ih
section
variable {D : List Bar} {d : Dart} {L : Nat} {k : Knot}
theorem path_adj : ∀ (n : Nat) (d : Dart), (∀ t, t < n → (dart D d t).2 < 4) → adjAll (pathK D d (n + 1)) = true
  | 0, d, _ => rfl
  | n + 1, d, h => by
    have ih := path_adj n (nxt D d) fun t ht => by rw [dart_nxt]; exact h (t + 1) (by omega)
    rw [pathK_succ, pathK_succ] at *
    rw [adjAll, ih, Bool.and_true]
    exact (betw_arm (h 0 (by omega)) rfl).2
theorem path_cw (hN : netE D = 0) (hL : 0 < L) (hle : L ≤ D.length) (hok : ∀ t, t < L → (dart D d t).2 < 4 ∧ barD (dart D d t) ∈ D) : cwE (pathK D d (L + 1)) = 0 := by
  have hlen := (netE_ok hN).len
  unfold cwE
  rw [if_neg (by simp [pathK]; omega), if_pos, path_adj L d (fun t ht => (hok t ht).1)]
  · rfl
  · refine knotsE_of fun k hk => ?_
    obtain ⟨t, ht, rfl⟩ := List.mem_map.1 hk
    have ht' := List.mem_range.1 ht
    rcases Nat.lt_or_ge t L with h | h
    · obtain ⟨h1, h2⟩ := hok t h
      obtain ⟨q1, q2⟩ := barE_ends (netE_all hN _ h2)
      rcases (dart_low h1).1 with e | e <;> rw [e] <;> assumption
    · obtain rfl : t = L := by omega
      obtain ⟨h1, h2⟩ := hok (t - 1) (by omega)
      obtain ⟨q1, q2⟩ := barE_ends (netE_all hN _ h2)
      rw [dart_succ t hL]
      show knotE (armK _ _).1 (armK _ _).2 = 0
      rcases (dart_low h1).2 with e | e <;> rw [e] <;> assumption
/-! ## the walk backwards -/
theorem dart_back (hok : ∀ t, t < L → (dart D d t).2 < 4 ∧ barD (dart D d t) ∈ D) (hev : ∀ t, 0 < t → t < L → evn D (dart D d t).1) : ∀ t, t < L → dart D (revD (dart D d (L - 1))) t = revD (dart D d (L - 1 - t))
  | 0, _ => rfl
  | t + 1, h => by
    show nxt D (dart D _ t) = _
    rw [dart_back hok hev t (by omega)]
    have e : dart D d (L - 1 - t) = nxt D (dart D d (L - 1 - (t + 1))) := by
      rw [dart_succ (L - 1 - t) (by omega)]; rfl
    rw [e]
    obtain ⟨h1, h2⟩ := hok (L - 1 - (t + 1)) (by omega)
    refine nxt_rev_nxt h1 h2 ?_
    have := hev (L - 1 - t) (by omega) (by omega)
    rw [e] at this
    exact this
theorem back_knot (hL : 0 < L) (hok : ∀ t, t < L → (dart D d t).2 < 4 ∧ barD (dart D d t) ∈ D) (hev : ∀ t, 0 < t → t < L → evn D (dart D d t).1) {t : Nat} (ht : t ≤ L) : (dart D (revD (dart D d (L - 1))) t).1 = (dart D d (L - t)).1 := by
  rcases Nat.lt_or_ge t L with h | h
  · rw [dart_back hok hev t h]
    show armK (dart D d (L - 1 - t)).1 (dart D d (L - 1 - t)).2 = _
    rw [dart_succ (L - t) (by omega), show L - t - 1 = L - 1 - t by omega]
    rfl
  · obtain rfl : t = L := by omega
    rw [dart_succ t hL]
    show armK (dart D _ (t - 1)).1 (dart D _ (t - 1)).2 = _
    rw [dart_back hok hev (t - 1) (by omega), Nat.sub_self, Nat.sub_self]
    exact armK_rev _ (hok 0 hL).1
theorem path_rev (hL : 0 < L) (hok : ∀ t, t < L → (dart D d t).2 < 4 ∧ barD (dart D d t) ∈ D) (hev : ∀ t, 0 < t → t < L → evn D (dart D d t).1) : pathK D (revD (dart D d (L - 1))) (L + 1) = (pathK D d (L + 1)).reverse := by
  apply List.ext_getElem
  · simp [pathK]
  · intro i h1 h2
    have hi : i < L + 1 := by simpa [pathK] using h1
    rw [List.getElem_reverse]
    simp only [pathK, List.getElem_map, List.getElem_range, List.length_map, List.length_range]
    rw [back_knot hL hok hev (by omega), show L + 1 - 1 - i = L - i by omega]
theorem walk_back {k : Knot} (h1 : cnt (legsAt D k) = 1) (hL : WEnd D (k, arm0 D k) L) (hz : cnt (legsAt D (dart D (k, arm0 D k) L).1) = 1) : walkL D (dart D (k, arm0 D k) L).1 = (walkL D k).reverse := by
  have ho := one_odd h1
  obtain ⟨ha, hb⟩ := arm0_ok (odd_ne ho)
  have hle := hL.le ha hb ho
  have hok := fun t (ht : t < L) => dart_ok (n := L - 1) ha hb (fun t h1 h2 => hL.even t h1 (by omega)) t (by omega)
  have hw : walkL D k = pathK D (k, arm0 D k) (L + 1) := wk_eq _ _ _ hle hL
  obtain ⟨z, hzz⟩ : ∃ z, (dart D (k, arm0 D k) L).1 = z := ⟨_, rfl⟩
  have hoz := one_odd hz
  obtain ⟨ha', hb'⟩ := arm0_ok (odd_ne hoz)
  rw [hzz] at hz hoz ha' hb' ⊢
  have hlast := hok (L - 1) (by have := hL.pos; omega)
  have hk0 := by_knot (D := D) hL.pos hlast.1
  have hb0 := by_bar (D := D) hL.pos hlast.1
  rw [hzz] at hk0 hb0
  have e : (z, arm0 D z) = revD (dart D (k, arm0 D k) (L - 1)) := by
    have : arm0 D z = byA D (k, arm0 D k) L := cnt_one_unique hz ha' (by unfold byA; omega) hb' (by rw [hb0]; exact hlast.2)
    rw [this]
    unfold revD
    rw [← hzz, dart_succ L hL.pos]
    rfl
  have hend : WEnd D (z, arm0 D z) L := ⟨hL.pos, by
      rw [e, back_knot hL.pos hok hL.even (Nat.le_refl _), Nat.sub_self]
      exact ho, fun t h1 h2 => by
      rw [e, back_knot hL.pos hok hL.even (by omega)]
      exact hL.even _ (by omega) (by omega)⟩
  rw [hw, ← path_rev hL.pos hok hL.even, ← e]
  exact wk_eq _ _ _ hle hend
/-- a walk by pairs, backwards -/
theorem btwB_comm {a b : Knot} (h : adjB a b = true) : btwB a b = btwB b a := by
  obtain ⟨i, hi, rfl⟩ := adj_arm.1 h
  rw [btwB_arm a hi]
  have := btwB_arm (armK a i) (a := 3 - i) (by omega)
  rw [armK_rev a hi, armB_rev a hi] at this
  exact this.symm
theorem passP_snoc : ∀ (l : List Knot) (a b : Knot), passP (l ++ [a, b]) = passP (l ++ [a]) ++ [btwB a b]
  | [], a, b => rfl
  | [x], a, b => rfl
  | x :: y :: l, a, b => by
    have := passP_snoc (y :: l) a b
    simp only [List.cons_append, passP] at *
    rw [this]
theorem passP_rev : ∀ (l : List Knot), adjAll l = true → passP l.reverse = (passP l).reverse
  | [], _ => rfl
  | [x], _ => rfl
  | a :: b :: l, h => by
    rw [adjAll, Bool.and_eq_true] at h
    have ih := passP_rev (b :: l) h.2
    rw [List.reverse_cons, List.reverse_cons, List.append_assoc, List.singleton_append, passP_snoc]
    rw [List.reverse_cons] at ih
    rw [ih, passP, List.reverse_cons, btwB_comm h.1]
/-- the run backwards is a run just where no knot lacks four bars -/
theorem RunAt.back (h : RunAt D d L) : isRunP D (pathK D d (L + 1)).reverse = true ↔ ∀ k, cnt (legsAt D k) ≠ 4 := by
  have hp : passP (pathK D d (L + 1)) = pathB D d L := pass_path _ _ fun t ht => (h.ok t ht).1
  have hr : passP (pathK D d (L + 1)).reverse = (pathB D d L).reverse := by rw [passP_rev _ (path_adj _ _ fun t ht => (h.ok t ht).1), hp]
  have hpl := h.wend.pos
  have hlast : (pathK D d (L + 1)).reverse.getLastD (0, 0) = d.1 := by
    rw [pathK_succ, List.reverse_cons, List.getLastD_concat]
  have hplace : ∀ {i : Nat} {b : Bar}, i < L → barD (dart D d i) = b → placeP b (pathB D d L) 0 = i ∧ placeP b (pathB D d L).reverse 0 = ((L - 1 - i : Nat) : Int) := by
    intro i b hi e
    have h1 := placeP_at h.nodup (i := i) (by rw [pathB_len]; exact hi) 0 b (by rw [pathB_get hi, e])
    have h2 := placeP_at (show (pathB D d L).reverse.Nodup by rw [List.nodup_iff_pairwise_ne, List.pairwise_reverse]; exact (List.nodup_iff_pairwise_ne.1 h.nodup).imp Ne.symm) (i := L - 1 - i) (by rw [List.length_reverse, pathB_len]; omega) 0 b (by
      rw [List.getElem?_reverse (by rw [pathB_len]; omega), pathB_len, show L - 1 - (L - 1 - i) = i by omega, pathB_get hi, e])
    exact ⟨by omega, by omega⟩
  unfold isRunP
  rw [hr, hlast, List.length_reverse, pathB_len, Bool.and_eq_true, Bool.and_eq_true, beq_iff_eq, beq_iff_eq, List.all_eq_true]
  constructor
  · rintro ⟨_, hall⟩ k h4
    have harm : ∀ a, a < 4 → armB k a ∈ D := fun a hc => (lget_mem D _ hc).1 (four_get_true h4 hc)
    have hall' : ∀ a, a < 4 → ∃ i, i < L ∧ barD (dart D d i) = armB k a := fun a hc => by
      obtain ⟨i, hi, e⟩ := List.mem_map.1 (h.all _ (harm a hc))
      exact ⟨i, List.mem_range.1 hi, e⟩
    have hd4 : cnt (legsAt D d.1) ≠ 4 := by rw [h.first]; decide
    obtain ⟨i, hi, ei⟩ := hall' 0 (by omega)
    obtain ⟨j, hj, ej⟩ := hall' 2 (by omega)
    obtain ⟨s, s1, s2, s3, _⟩ := pass_four h.arm h.bar hd4 h.wend h4 hi (by omega) ei
    have hk : k ∈ pathK D d (L + 1) := List.mem_map.2 ⟨s, List.mem_range.2 (by omega), s3⟩
    have hfw := (fine_place h.arm h.bar h.odd0 h.wend h.len).1 h.fine k hk h4
    have hbk := hall k (List.mem_reverse.2 hk)
    rw [(hplace hi ei).2, (hplace hj ej).2] at hbk
    rw [(hplace hi ei).1, (hplace hj ej).1] at hfw
    have hij : i ≠ j := fun e => by
      rw [e, ej] at ei
      simp only [armB, Prod.mk.injEq] at ei
      omega
    simp [h4] at hbk
    omega
  · intro hno
    refine ⟨⟨h.len, h.first⟩, fun k _ => ?_⟩
    simp [hno k]
theorem RunAt.back_walk (h : RunAt D (k, arm0 D k) L) : walkL D (dart D (k, arm0 D k) L).1 = (pathK D (k, arm0 D k) (L + 1)).reverse := by
  rw [walk_back h.first h.wend h.last]
  rw [show walkL D k = pathK D (k, arm0 D k) (L + 1) from wk_eq _ _ _ (h.wend.le h.arm h.bar h.odd0) h.wend]
end
theorem new_none {D : List Bar} (hs : ∀ b ∈ D, Sided b) : (∀ k, cnt (legsAt D k) ≠ 4) ↔ ∀ k ∈ holeK D, cnt (legsAt D k) ≠ 4 := by
  constructor
  · exact fun h k _ => h k
  · intro h k h4
    refine h k ((holeK_mem hs k).2 fun e => ?_) h4
    rw [e] at h4
    cases h4
end Go.Proofs.YthcnngoaijgnoaaGreat

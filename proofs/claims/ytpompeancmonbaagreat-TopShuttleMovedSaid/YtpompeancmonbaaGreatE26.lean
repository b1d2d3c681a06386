/- The walk backwards, plain; walks along valid bars are valid. Conditions: bars within bounds, each once. -/
import Derived.Test.YtpompeancmonbaaGreatE25
import Derived.Test.YtpompeancmonbaaGreatE24
import Derived.Test.YtpompeancmonbaaGreatE08
import Derived.Test.YtpompeancmonbaaGreatE17
import Derived.Test.YtpompeancmonbaaGreatE23
import Derived.Test.YtpompeancmonbaaGreatE22
import Derived.Test.YtpompeancmonbaaGreatE14
namespace Go.Proofs.YtpompeancmonbaaGreat

/-! ## walks along valid bars -/
theorem dart_low {d : Dart} (ha : d.2 < 4) : (d.1 = lowK (barD d) ∨ d.1 = uppK (barD d)) ∧ (armK d.1 d.2 = lowK (barD d) ∨ armK d.1 d.2 = uppK (barD d)) := by
  obtain ⟨⟨x, y⟩, a⟩ := d
  simp only at ha
  obtain rfl | rfl | rfl | rfl : a = 0 ∨ a = 1 ∨ a = 2 ∨ a = 3 := by omega
  · exact ⟨.inl rfl, .inr (by simp only [barD, armB, armK, uppK]; ext <;> simp <;> omega)⟩
  · exact ⟨.inl rfl, .inr (by simp only [barD, armB, armK, uppK])⟩
  · exact ⟨.inr (by simp only [barD, armB, uppK]; ext <;> simp), .inl (by simp only [barD, armB, armK, lowK])⟩
  · exact ⟨.inr (by simp only [barD, armB, uppK]; ext <;> simp <;> omega), .inl (by simp only [barD, armB, armK, lowK])⟩
theorem barE_ends {b : Bar} (h : barE b.1 b.2.1 b.2.2 = 0) : knotE (lowK b).1 (lowK b).2 = 0 ∧ knotE (uppK b).1 (uppK b).2 = 0 := by
  obtain ⟨x, y, s⟩ := b
  unfold barE at h
  simp only at h
  split at h
  · rename_i h1; exact absurd h h1
  · rename_i h1
    split at h
    · cases h
    · exact ⟨Decidable.not_not.1 h1, h⟩
theorem netE_all {l : List Bar} (h : netE l = 0) : ∀ b ∈ l, barE b.1 b.2.1 b.2.2 = 0 := by
  unfold netE at h
  split at h
  · cases h
  · exact netGo_all l none h
theorem knotsE_of : ∀ {l : List Knot}, (∀ k ∈ l, knotE k.1 k.2 = 0) → knotsE l = 0
  | [], _ => rfl
  | k :: r, h => by
    have ih := knotsE_of (l := r) fun x hx => h x (List.mem_cons_of_mem _ hx)
    unfold knotsE at ih ⊢
    rw [List.map_cons, firstI, if_pos (h k (List.mem_cons_self ..))]
    exact ih
section
variable {D : List Bar} {d : Dart} {L : Nat} {k : Knot}
theorem path_adj : ∀ (n : Nat) (d : Dart), (∀ t, t < n → (dart D d t).2 < 4) → adjAll (pathK D d (n + 1)) = true
  | 0, d, _ => rfl
  | n + 1, d, h => by
    have ih := path_adj n (nxt D d) fun t ht => by rw [dart_nxt]; exact h (t + 1) (by omega)
    rw [pathK_succ, pathK_succ] at *
    rw [adjAll, ih, Bool.and_true]
    exact (betw_arm (h 0 (by omega)) rfl).2
theorem path_cw (hN : netE D = 0) (hL : 0 < L) (hle : L ≤ D.length) (hok : ∀ t, t < L → (dart D d t).2 < 4 ∧ barD (dart D d t) ∈ D) : cwE (pathK D d (L + 1)) = 0 := by
  have hlen := (netE_ok hN).len
  unfold cwE
  rw [if_neg (by simp [pathK]; omega), if_pos, path_adj L d (fun t ht => (hok t ht).1)]
  · rfl
  · refine knotsE_of fun k hk => ?_
    obtain ⟨t, ht, rfl⟩ := List.mem_map.1 hk
    have ht' := List.mem_range.1 ht
    rcases Nat.lt_or_ge t L with h | h
    · obtain ⟨h1, h2⟩ := hok t h
      obtain ⟨q1, q2⟩ := barE_ends (netE_all hN _ h2)
      rcases (dart_low h1).1 with e | e <;> rw [e] <;> assumption
    · obtain rfl : t = L := by omega
      obtain ⟨h1, h2⟩ := hok (t - 1) (by omega)
      obtain ⟨q1, q2⟩ := barE_ends (netE_all hN _ h2)
      rw [dart_succ t hL]
      show knotE (armK _ _).1 (armK _ _).2 = 0
      rcases (dart_low h1).2 with e | e <;> rw [e] <;> assumption
/-! ## the walk backwards -/
theorem dart_back (hok : ∀ t, t < L → (dart D d t).2 < 4 ∧ barD (dart D d t) ∈ D) (hev : ∀ t, 0 < t → t < L → evn D (dart D d t).1) : ∀ t, t < L → dart D (revD (dart D d (L - 1))) t = revD (dart D d (L - 1 - t))
  | 0, _ => rfl
  | t + 1, h => by
    show nxt D (dart D _ t) = _
    rw [dart_back hok hev t (by omega)]
    have e : dart D d (L - 1 - t) = nxt D (dart D d (L - 1 - (t + 1))) := by
      rw [dart_succ (L - 1 - t) (by omega)]; rfl
    rw [e]
    obtain ⟨h1, h2⟩ := hok (L - 1 - (t + 1)) (by omega)
    refine nxt_rev_nxt h1 h2 ?_
    have := hev (L - 1 - t) (by omega) (by omega)
    rw [e] at this
    exact this
theorem back_knot (hL : 0 < L) (hok : ∀ t, t < L → (dart D d t).2 < 4 ∧ barD (dart D d t) ∈ D) (hev : ∀ t, 0 < t → t < L → evn D (dart D d t).1) {t : Nat} (ht : t ≤ L) : (dart D (revD (dart D d (L - 1))) t).1 = (dart D d (L - t)).1 := by
  rcases Nat.lt_or_ge t L with h | h
  · rw [dart_back hok hev t h]
    show armK (dart D d (L - 1 - t)).1 (dart D d (L - 1 - t)).2 = _
    rw [dart_succ (L - t) (by omega), show L - t - 1 = L - 1 - t by omega]
    rfl
  · obtain rfl : t = L := by omega
    rw [dart_succ t hL]
    show armK (dart D _ (t - 1)).1 (dart D _ (t - 1)).2 = _
    rw [dart_back hok hev (t - 1) (by omega), Nat.sub_self, Nat.sub_self]
    exact armK_rev _ (hok 0 hL).1
theorem path_rev (hL : 0 < L) (hok : ∀ t, t < L → (dart D d t).2 < 4 ∧ barD (dart D d t) ∈ D) (hev : ∀ t, 0 < t → t < L → evn D (dart D d t).1) : pathK D (revD (dart D d (L - 1))) (L + 1) = (pathK D d (L + 1)).reverse := by
  apply List.ext_getElem
  · simp [pathK]
  · intro i h1 h2
    have hi : i < L + 1 := by simpa [pathK] using h1
    rw [List.getElem_reverse]
    simp only [pathK, List.getElem_map, List.getElem_range, List.length_map, List.length_range]
    rw [back_knot hL hok hev (by omega), show L + 1 - 1 - i = L - i by omega]
theorem walk_back {k : Knot} (h1 : cnt (legsAt D k) = 1) (hL : WEnd D (k, arm0 D k) L) (hz : cnt (legsAt D (dart D (k, arm0 D k) L).1) = 1) : walkL D (dart D (k, arm0 D k) L).1 = (walkL D k).reverse := by
  have ho := one_odd h1
  obtain ⟨ha, hb⟩ := arm0_ok (odd_ne ho)
  have hle := hL.le ha hb ho
  have hok := fun t (ht : t < L) => dart_ok (n := L - 1) ha hb (fun t h1 h2 => hL.even t h1 (by omega)) t (by omega)
  have hw : walkL D k = pathK D (k, arm0 D k) (L + 1) := wk_eq _ _ _ hle hL
  obtain ⟨z, hzz⟩ : ∃ z, (dart D (k, arm0 D k) L).1 = z := ⟨_, rfl⟩
  have hoz := one_odd hz
  obtain ⟨ha', hb'⟩ := arm0_ok (odd_ne hoz)
  rw [hzz] at hz hoz ha' hb' ⊢
  have hlast := hok (L - 1) (by have := hL.pos; omega)
  have hk0 := by_knot (D := D) hL.pos hlast.1
  have hb0 := by_bar (D := D) hL.pos hlast.1
  rw [hzz] at hk0 hb0
  have e : (z, arm0 D z) = revD (dart D (k, arm0 D k) (L - 1)) := by
    have : arm0 D z = byA D (k, arm0 D k) L := cnt_one_unique hz ha' (by unfold byA; omega) hb' (by rw [hb0]; exact hlast.2)
    rw [this]
    unfold revD
    rw [← hzz, dart_succ L hL.pos]
    rfl
  have hend : WEnd D (z, arm0 D z) L := ⟨hL.pos, by
      rw [e, back_knot hL.pos hok hL.even (Nat.le_refl _), Nat.sub_self]
      exact ho, fun t h1 h2 => by
      rw [e, back_knot hL.pos hok hL.even (by omega)]
      exact hL.even _ (by omega) (by omega)⟩
  rw [hw, ← path_rev hL.pos hok hL.even, ← e]
  exact wk_eq _ _ _ hle hend
/-- a walk by pairs, backwards -/
theorem btwB_comm {a b : Knot} (h : adjB a b = true) : btwB a b = btwB b a := by
  obtain ⟨i, hi, rfl⟩ := adj_arm.1 h
  rw [btwB_arm a hi]
  have := btwB_arm (armK a i) (a := 3 - i) (by omega)
  rw [armK_rev a hi, armB_rev a hi] at this
  exact this.symm
theorem passP_snoc : ∀ (l : List Knot) (a b : Knot), passP (l ++ [a, b]) = passP (l ++ [a]) ++ [btwB a b]
  | [], a, b => rfl
  | [x], a, b => rfl
  | x :: y :: l, a, b => by
    have := passP_snoc (y :: l) a b
    simp only [List.cons_append, passP] at *
    rw [this]
theorem passP_rev : ∀ (l : List Knot), adjAll l = true → passP l.reverse = (passP l).reverse
  | [], _ => rfl
  | [x], _ => rfl
  | a :: b :: l, h => by
    rw [adjAll, Bool.and_eq_true] at h
    have ih := passP_rev (b :: l) h.2
    rw [List.reverse_cons, List.reverse_cons, List.append_assoc, List.singleton_append, passP_snoc]
    rw [List.reverse_cons] at ih
    rw [ih, passP, List.reverse_cons, btwB_comm h.1]
/-- the run backwards is a run just where no knot lacks four bars -/
theorem RunAt.back (h : RunAt D d L) : isRunP D (pathK D d (L + 1)).reverse = true ↔ ∀ k, cnt (legsAt D k) ≠ 4 := by
  have hp : passP (pathK D d (L + 1)) = pathB D d L := pass_path _ _ fun t ht => (h.ok t ht).1
  have hr : passP (pathK D d (L + 1)).reverse = (pathB D d L).reverse := by rw [passP_rev _ (path_adj _ _ fun t ht => (h.ok t ht).1), hp]
  have hpl := h.wend.pos
  have hlast : (pathK D d (L + 1)).reverse.getLastD (0, 0) = d.1 := by
    rw [pathK_succ, List.reverse_cons, List.getLastD_concat]
  have hplace : ∀ {i : Nat} {b : Bar}, i < L → barD (dart D d i) = b → placeP b (pathB D d L) 0 = i ∧ placeP b (pathB D d L).reverse 0 = ((L - 1 - i : Nat) : Int) := by
    intro i b hi e
    have h1 := placeP_at h.nodup (i := i) (by rw [pathB_len]; exact hi) 0 b (by rw [pathB_get hi, e])
    have h2 := placeP_at (show (pathB D d L).reverse.Nodup by rw [List.nodup_iff_pairwise_ne, List.pairwise_reverse]; exact (List.nodup_iff_pairwise_ne.1 h.nodup).imp Ne.symm) (i := L - 1 - i) (by rw [List.length_reverse, pathB_len]; omega) 0 b (by
      rw [List.getElem?_reverse (by rw [pathB_len]; omega), pathB_len, show L - 1 - (L - 1 - i) = i by omega, pathB_get hi, e])
    exact ⟨by omega, by omega⟩
  unfold isRunP
  rw [hr, hlast, List.length_reverse, pathB_len, Bool.and_eq_true, Bool.and_eq_true, beq_iff_eq, beq_iff_eq, List.all_eq_true]
  constructor
  · rintro ⟨_, hall⟩ k h4
    have harm : ∀ a, a < 4 → armB k a ∈ D := fun a hc => (lget_mem D _ hc).1 (four_get_true h4 hc)
    have hall' : ∀ a, a < 4 → ∃ i, i < L ∧ barD (dart D d i) = armB k a := fun a hc => by
      obtain ⟨i, hi, e⟩ := List.mem_map.1 (h.all _ (harm a hc))
      exact ⟨i, List.mem_range.1 hi, e⟩
    have hd4 : cnt (legsAt D d.1) ≠ 4 := by rw [h.first]; decide
    obtain ⟨i, hi, ei⟩ := hall' 0 (by omega)
    obtain ⟨j, hj, ej⟩ := hall' 2 (by omega)
    obtain ⟨s, s1, s2, s3, _⟩ := pass_four h.arm h.bar hd4 h.wend h4 hi (by omega) ei
    have hk : k ∈ pathK D d (L + 1) := List.mem_map.2 ⟨s, List.mem_range.2 (by omega), s3⟩
    have hfw := (fine_place h.arm h.bar h.odd0 h.wend h.len).1 h.fine k hk h4
    have hbk := hall k (List.mem_reverse.2 hk)
    rw [(hplace hi ei).2, (hplace hj ej).2] at hbk
    rw [(hplace hi ei).1, (hplace hj ej).1] at hfw
    have hij : i ≠ j := fun e => by
      rw [e, ej] at ei
      simp only [armB, Prod.mk.injEq] at ei
      omega
    simp [h4] at hbk
    omega
  · intro hno
    refine ⟨⟨h.len, h.first⟩, fun k _ => ?_⟩
    simp [hno k]
theorem RunAt.back_walk (h : RunAt D (k, arm0 D k) L) : walkL D (dart D (k, arm0 D k) L).1 = (pathK D (k, arm0 D k) (L + 1)).reverse := by
  rw [walk_back h.first h.wend h.last]
  rw [show walkL D k = pathK D (k, arm0 D k) (L + 1) from wk_eq _ _ _ (h.wend.le h.arm h.bar h.odd0) h.wend]
end
theorem new_none {D : List Bar} (hs : ∀ b ∈ D, Sided b) : (∀ k, cnt (legsAt D k) ≠ 4) ↔ ∀ k ∈ holeK D, cnt (legsAt D k) ≠ 4 := by
  constructor
  · exact fun h k _ => h k
  · intro h k h4
    refine h k ((holeK_mem hs k).2 fun e => ?_) h4
    rw [e] at h4
    cases h4
end Go.Proofs.YtpompeancmonbaaGreat

/- Mirrored torn nets, plain. Conditions: bars within bounds, in order. -/
namespace Go.Proofs.YtpompeancmonbaaGreat

def mirB (b : Bar) : Bar := (-b.1, b.2.1, -b.2.2)
def mirK (k : Knot) : Knot := (-k.1, k.2)
def mirL (l : List Bar) : List Bar := l.foldl (fun o b => insB o (mirB b)) []
theorem mirB_mirB (b : Bar) : mirB (mirB b) = b := by obtain ⟨x, y, s⟩ := b; simp [mirB]
theorem mirK_mirK (k : Knot) : mirK (mirK k) = k := by obtain ⟨x, y⟩ := k; simp [mirK]
theorem mirB_inj {a b : Bar} (h : mirB a = mirB b) : a = b := by rw [← mirB_mirB a, h, mirB_mirB]
theorem mirK_inj {a b : Knot} (h : mirK a = mirK b) : a = b := by rw [← mirK_mirK a, h, mirK_mirK]
theorem mirL_take {l : List Bar} {k : Nat} (hk : k < l.length) : mirL (l.take (k + 1)) = insB (mirL (l.take k)) (mirB l[k]) := by
  unfold mirL
  rw [List.take_succ_eq_append_getElem hk, List.foldl_append]; rfl
theorem mirF_mem (x : Bar) : ∀ (l o : List Bar), x ∈ l.foldl (fun o b => insB o (mirB b)) o ↔ x ∈ o ∨ mirB x ∈ l
  | [], o => by simp
  | b :: l, o => by
    rw [List.foldl_cons, mirF_mem x l, insB_mem, List.mem_cons]
    have : x = mirB b ↔ mirB x = b := ⟨fun h => by rw [h, mirB_mirB], fun h => by rw [← h, mirB_mirB]⟩
    rw [this, or_comm (a := mirB x = b), or_assoc]
theorem mirL_mem {l : List Bar} {x : Bar} : x ∈ mirL l ↔ mirB x ∈ l := by unfold mirL; rw [mirF_mem]; simp
theorem mirF_sorted : ∀ (l o : List Bar), l.Nodup → o.Pairwise bltP → (∀ b ∈ l, mirB b ∉ o) → (l.foldl (fun o b => insB o (mirB b)) o).Pairwise bltP ∧ (l.foldl (fun o b => insB o (mirB b)) o).length = o.length + l.length
  | [], o, _, h, _ => ⟨h, by simp⟩
  | b :: l, o, hn, h, hd => by
    rw [List.nodup_cons] at hn
    have := mirF_sorted l (insB o (mirB b)) hn.2 (insB_sorted h (hd b (List.mem_cons_self ..))) fun x hx hm => by
      rcases (insB_mem _ _ _).1 hm with e | e
      · exact hn.1 (mirB_inj e ▸ hx)
      · exact hd x (List.mem_cons_of_mem _ hx) e
    rw [List.foldl_cons]
    refine ⟨this.1, ?_⟩
    rw [this.2, insB_len, List.length_cons]
    omega
theorem mirL_sorted {l : List Bar} (h : l.Nodup) : (mirL l).Pairwise bltP := (mirF_sorted l [] h List.Pairwise.nil (by simp)).1
theorem mirL_len {l : List Bar} (h : l.Nodup) : (mirL l).length = l.length := by
  have := (mirF_sorted l [] h List.Pairwise.nil (by simp)).2
  simpa [mirL] using this
theorem mirL_sided {l : List Bar} (h : ∀ b ∈ l, Sided b) : ∀ b ∈ mirL l, Sided b := fun b hb => by
  have := h _ (mirL_mem.1 hb)
  obtain ⟨x, y, s⟩ := b
  unfold Sided mirB at *
  simp only at *
  omega
theorem mir_knotE (x y : Int) : knotE (-x) y = knotE x y := by
  unfold knotE farB
  have h1 : (decide (-x < -100000) || decide (100000 < -x)) = (decide (x < -100000) || decide (100000 < x)) := by
    rw [Bool.eq_iff_iff]; simp; omega
  have h2 : ((-x + y) % 2 = 0) ↔ ((x + y) % 2 = 0) := by omega
  simp only [h1, h2]
theorem mir_barE (b : Bar) : barE (mirB b).1 (mirB b).2.1 (mirB b).2.2 = barE b.1 b.2.1 b.2.2 := by
  obtain ⟨x, y, s⟩ := b
  unfold barE mirB
  simp only
  have h2 : (-s ≠ 1 ∧ -s ≠ -1) ↔ (s ≠ 1 ∧ s ≠ -1) := by omega
  have h3 : -x + -s = -(x + s) := by omega
  rw [mir_knotE, h3, mir_knotE]
  simp only [h2]
theorem mir_netE {l : List Bar} (h : netE l = 0) : netE (mirL l) = 0 := by
  have hok := netE_ok h
  unfold netE
  rw [mirL_len hok.nodup, if_neg (by have := hok.len; omega)]
  exact netGo_of _ none (fun b hb => by rw [← mir_barE]; exact netE_all h _ (mirL_mem.1 hb)) (mirL_sorted hok.nodup) fun q hq => by cases hq
theorem mir_tornE {N D : List Bar} (h : tornE N D = 0) : tornE (mirL N) (mirL D) = 0 := by
  have hok := torn_ok h
  unfold tornE
  rw [mir_netE (torn_nets h).1, mir_netE (torn_nets h).2, unk_sub fun b hb => mirL_mem.2 (hok.sub _ (mirL_mem.1 hb))]
  rfl
/-! ## arms and legs -/
def swL (l : Legs) : Legs := (l.2.1, l.1, l.2.2.2, l.2.2.1)
theorem sw_facts : ∀ a b c d, cnt (swL (a, b, c, d)) = cnt (a, b, c, d) ∧ oddL (swL (a, b, c, d)) = oddL (a, b, c, d) ∧ kix (swL (a, b, c, d)) = kix (a, b, c, d) ∧ (swL (a, b, c, d) = noLegs ↔ (a, b, c, d) = noLegs) := by decide
theorem sw_cnt (l : Legs) : cnt (swL l) = cnt l := by obtain ⟨a, b, c, d⟩ := l; exact (sw_facts a b c d).1
theorem sw_odd (l : Legs) : oddL (swL l) = oddL l := by obtain ⟨a, b, c, d⟩ := l; exact (sw_facts a b c d).2.1
theorem sw_kix (l : Legs) : kix (swL l) = kix l := by obtain ⟨a, b, c, d⟩ := l; exact (sw_facts a b c d).2.2.1
theorem sw_none (l : Legs) : swL l = noLegs ↔ l = noLegs := by obtain ⟨a, b, c, d⟩ := l; exact (sw_facts a b c d).2.2.2
theorem sw_onw (l : Legs) (b : Nat) (hb : b < 4) (he : oddL l = false) (hm : lget l b = true) : onw (swL l) (b ^^^ 1) = onw l b ^^^ 1 := by
  obtain ⟨p, q, r, s⟩ := l
  obtain rfl | rfl | rfl | rfl : b = 0 ∨ b = 1 ∨ b = 2 ∨ b = 3 := by omega
  all_goals (revert p q r s; decide)
theorem xor_lt {a : Nat} (h : a < 4) : a ^^^ 1 < 4 ∧ (a ^^^ 1) ^^^ 1 = a ∧ 3 - (a ^^^ 1) = (3 - a) ^^^ 1 ∧ (3 - (a ^^^ 1) < 2 ↔ 3 - a < 2) := by
  obtain rfl | rfl | rfl | rfl : a = 0 ∨ a = 1 ∨ a = 2 ∨ a = 3 := by omega
  all_goals decide
theorem mir_armB (k : Knot) {a : Nat} (h : a < 4) : armB (mirK k) (a ^^^ 1) = mirB (armB k a) := by
  obtain ⟨x, y⟩ := k
  obtain rfl | rfl | rfl | rfl : a = 0 ∨ a = 1 ∨ a = 2 ∨ a = 3 := by omega
  all_goals
    simp [armB, mirK, mirB]
    try omega
theorem mir_armK (k : Knot) {a : Nat} (h : a < 4) : armK (mirK k) (a ^^^ 1) = mirK (armK k a) := by
  obtain ⟨x, y⟩ := k
  obtain rfl | rfl | rfl | rfl : a = 0 ∨ a = 1 ∨ a = 2 ∨ a = 3 := by omega
  all_goals
    simp [armK, mirK]
    try omega
theorem mir_arm_mem (D : List Bar) (k : Knot) {a : Nat} (h : a < 4) : armB (mirK k) (a ^^^ 1) ∈ mirL D ↔ armB k a ∈ D := by
  rw [mir_armB k h, mirL_mem, mirB_mirB]
theorem mir_legs (D : List Bar) (k : Knot) : legsAt (mirL D) (mirK k) = swL (legsAt D k) := by
  have h0 := mir_arm_mem D k (a := 0) (by omega)
  have h1 := mir_arm_mem D k (a := 1) (by omega)
  have h2 := mir_arm_mem D k (a := 2) (by omega)
  have h3 := mir_arm_mem D k (a := 3) (by omega)
  unfold legsAt swL
  simp only [Nat.reduceXor] at h0 h1 h2 h3
  simp only [h0, h1, h2, h3]
theorem mir_legs' (D : List Bar) (k : Knot) : legsAt (mirL D) k = swL (legsAt D (mirK k)) := by rw [← mir_legs, mirK_mirK]
theorem mir_evn (D : List Bar) (k : Knot) : evn (mirL D) (mirK k) ↔ evn D k := by unfold evn; rw [mir_legs, sw_odd]
/-! ## the walk -/
def mirD (d : Dart) : Dart := (mirK d.1, d.2 ^^^ 1)
section
variable {D : List Bar} {d : Dart} {L : Nat}
theorem mir_nxt {e : Dart} (ha : e.2 < 4) (hb : barD e ∈ D) (he : evn D (armK e.1 e.2)) : nxt (mirL D) (mirD e) = mirD (nxt D e) := by
  unfold nxt mirD
  simp only
  rw [mir_armK _ ha, mir_legs, (xor_lt ha).2.2.1, sw_onw _ _ (by omega) he ((lget_mem D _ (by omega)).2 (by rw [armB_rev _ ha]; exact hb))]
theorem mir_dart (hok : ∀ t, t < L → (dart D d t).2 < 4 ∧ barD (dart D d t) ∈ D) (hev : ∀ t, 0 < t → t < L → evn D (dart D d t).1) : ∀ t, t < L → dart (mirL D) (mirD d) t = mirD (dart D d t)
  | 0, _ => rfl
  | t + 1, h => by
    show nxt (mirL D) (dart _ _ t) = mirD (nxt D (dart D d t))
    rw [mir_dart hok hev t (by omega)]
    exact mir_nxt (hok t (by omega)).1 (hok t (by omega)).2 (hev (t + 1) (by omega) h)
theorem mir_dartK (hL : 0 < L) (hok : ∀ t, t < L → (dart D d t).2 < 4 ∧ barD (dart D d t) ∈ D) (hev : ∀ t, 0 < t → t < L → evn D (dart D d t).1) {t : Nat} (ht : t ≤ L) : (dart (mirL D) (mirD d) t).1 = mirK (dart D d t).1 := by
  rcases Nat.lt_or_ge t L with h | h
  · rw [mir_dart hok hev t h]; rfl
  · obtain rfl : t = L := by omega
    rw [dart_succ t hL, dart_succ t hL]
    show armK (dart _ _ (t - 1)).1 (dart _ _ (t - 1)).2 = mirK (armK _ _)
    rw [mir_dart hok hev (t - 1) (by omega)]
    exact mir_armK _ (hok (t - 1) (by omega)).1
theorem mir_wend (ha : d.2 < 4) (h0 : barD d ∈ D) (h : WEnd D d L) : WEnd (mirL D) (mirD d) L := by
  have hok := fun t (ht : t < L) => dart_ok (n := L - 1) ha h0 (fun t h1 h2 => h.even t h1 (by omega)) t (by omega)
  refine ⟨h.pos, ?_, fun t h1 h2 => ?_⟩
  · rw [mir_dartK h.pos hok h.even (Nat.le_refl _), mir_evn]; exact h.odd
  · rw [mir_dartK h.pos hok h.even (by omega), mir_evn]; exact h.even t h1 h2
theorem mir_fine (ha : d.2 < 4) (h0 : barD d ∈ D) (h : WEnd D d L) (hf : fineW D d L) : fineW (mirL D) (mirD d) L := by
  have hok := fun t (ht : t < L) => dart_ok (n := L - 1) ha h0 (fun t h1 h2 => h.even t h1 (by omega)) t (by omega)
  intro s s1 s2 h4
  have hk := fun {t : Nat} (ht : t ≤ L) => mir_dartK h.pos hok h.even ht
  rw [hk (by omega), mir_legs, sw_cnt] at h4
  obtain ⟨r, r1, r2, r3, r4⟩ := hf s s1 s2 h4
  refine ⟨r, r1, r2, by rw [hk (by omega), hk (by omega), r3], ?_⟩
  rw [mir_dart hok h.even (r - 1) (by omega)]
  exact (xor_lt (hok (r - 1) (by omega)).1).2.2.2.2 r4
theorem mir_run (hn : D.Nodup) {k : Knot} (h1 : cnt (legsAt D k) = 1) (h : isRunP D (walkL D k) = true) : cnt (legsAt (mirL D) (mirK k)) = 1 ∧ isRunP (mirL D) (walkL (mirL D) (mirK k)) = true := by
  have h1' : cnt (legsAt (mirL D) (mirK k)) = 1 := by rw [mir_legs, sw_cnt]; exact h1
  refine ⟨h1', ?_⟩
  have ho := one_odd h1
  have ho' := one_odd h1'
  obtain ⟨ha, hb⟩ := arm0_ok (odd_ne ho)
  obtain ⟨ha', hb'⟩ := arm0_ok (odd_ne ho')
  obtain ⟨L, hL, _, _⟩ := walkL_eq ho
  have e : arm0 (mirL D) (mirK k) = arm0 D k ^^^ 1 := cnt_one_unique h1' ha' (xor_lt ha).1 hb' ((mir_arm_mem D k ha).2 hb)
  have hd : ((mirK k, arm0 (mirL D) (mirK k)) : Dart) = mirD (k, arm0 D k) := by rw [e]; rfl
  have hok := fun t (ht : t < L) => dart_ok (n := L - 1) ha hb (fun t h1 h2 => hL.even t h1 (by omega)) t (by omega)
  obtain ⟨q1, q2, q3⟩ := (isRun_walk ho hL).1 h
  have hL' : WEnd (mirL D) (mirK k, arm0 (mirL D) (mirK k)) L := by rw [hd]; exact mir_wend ha hb hL
  refine (isRun_walk ho' hL').2 ⟨?_, ?_, ?_⟩
  · rw [hd]; exact mir_fine ha hb hL q1
  · rw [hd, mir_dartK hL.pos hok hL.even (Nat.le_refl _), mir_legs, sw_cnt]; exact q2
  · rw [mirL_len hn, q3]
end
theorem tryRun_isSome {D : List Bar} {k : Knot} : (tryRun D k).isSome = true ↔ cnt (legsAt D k) = 1 ∧ isRunP D (walkL D k) = true := by
  unfold tryRun
  cases h : (cnt (legsAt D k) == 1 && isRunP D (walkL D k))
  · simp only [cond_false, Option.isSome_none, Bool.false_eq_true, false_iff]
    rintro ⟨h1, h2⟩
    rw [h2, Bool.and_true] at h
    simp [h1] at h
  · rw [Bool.and_eq_true, beq_iff_eq] at h
    simp [h]
theorem rdy_iff {D : List Bar} : rdyB D = true ↔ (oddK D).length = 2 ∧ ∃ k ∈ oddK D, cnt (legsAt D k) = 1 ∧ isRunP D (walkL D k) = true := by
  unfold rdyB runO
  split
  · rename_i a b e
    rw [e]
    simp only [List.length_cons, List.length_nil, true_and, List.mem_cons, List.not_mem_nil, or_false]
    constructor
    · intro h
      split at h
      · rename_i w hw
        exact ⟨b, .inr rfl, tryRun_isSome.1 (by rw [hw]; rfl)⟩
      · exact ⟨a, .inl rfl, tryRun_isSome.1 h⟩
    · rintro ⟨k, hk, h⟩
      have h' := tryRun_isSome.2 h
      split
      · rfl
      · rename_i hb
        rcases hk with rfl | rfl
        · exact h'
        · rw [hb] at h'; cases h'
  · rename_i hne
    simp only [Option.isSome_none, Bool.false_eq_true, false_iff]
    rintro ⟨hl, _⟩
    match h : oddK D, hl with
    | [a, b], _ => exact hne a b h
theorem mir_oddK {D : List Bar} (hs : ∀ b ∈ D, Sided b) {k : Knot} : k ∈ oddK (mirL D) ↔ mirK k ∈ oddK D := by
  rw [oddK_mem (mirL_sided hs), oddK_mem hs, mir_legs', sw_odd]
theorem mir_holeK {D : List Bar} (hs : ∀ b ∈ D, Sided b) {k : Knot} : k ∈ holeK (mirL D) ↔ mirK k ∈ holeK D := by
  rw [holeK_mem (mirL_sided hs), holeK_mem hs, mir_legs', Ne, sw_none]
theorem mir_length {l r : List Knot} (hl : l.Nodup) (hr : r.Nodup) (h : ∀ k, k ∈ l ↔ mirK k ∈ r) : l.length = r.length := by
  have h1 := length_le_of_sub (l := l.map mirK) (D := r) (by
    rw [List.nodup_iff_pairwise_ne, List.pairwise_map]
    exact (List.nodup_iff_pairwise_ne.1 hl).imp fun hab e => hab (mirK_inj e)) (fun x hx => by
    obtain ⟨y, hy, rfl⟩ := List.mem_map.1 hx
    exact (h y).1 hy)
  have h2 := length_le_of_sub (l := r.map mirK) (D := l) (by
    rw [List.nodup_iff_pairwise_ne, List.pairwise_map]
    exact (List.nodup_iff_pairwise_ne.1 hr).imp fun hab e => hab (mirK_inj e)) (fun x hx => by
    obtain ⟨y, hy, rfl⟩ := List.mem_map.1 hx
    rw [h, mirK_mirK]; exact hy)
  rw [List.length_map] at h1 h2
  omega
theorem mir_odd_len {D : List Bar} (hs : ∀ b ∈ D, Sided b) : (oddK (mirL D)).length = (oddK D).length := mir_length (oddK_nodup _) (oddK_nodup _) fun _ => mir_oddK hs
theorem mir_hole_len {D : List Bar} (hs : ∀ b ∈ D, Sided b) : (holeK (mirL D)).length = (holeK D).length := mir_length (holeK_nodup _) (holeK_nodup _) fun _ => mir_holeK hs
theorem mirL_mirL {D : List Bar} (h : D.Pairwise bltP) : mirL (mirL D) = D :=
  sortedB_eq (mirL_sorted (sortedB_nodup (mirL_sorted (sortedB_nodup h)))) h fun x => by rw [mirL_mem, mirL_mem, mirB_mirB]
theorem mir_rdy1 {D : List Bar} (hD : D.Nodup) (hs : ∀ b ∈ D, Sided b) (h : rdyB D = true) : rdyB (mirL D) = true := by
  obtain ⟨h1, k, hk, h2, h3⟩ := rdy_iff.1 h
  obtain ⟨q1, q2⟩ := mir_run hD h2 h3
  exact rdy_iff.2 ⟨by rw [mir_odd_len hs, h1], mirK k, by rw [mir_oddK hs, mirK_mirK]; exact hk, q1, q2⟩
theorem mir_rdy {D : List Bar} (hD : D.Pairwise bltP) (hs : ∀ b ∈ D, Sided b) : rdyB (mirL D) = rdyB D := by
  rw [Bool.eq_iff_iff]
  refine ⟨fun h => ?_, mir_rdy1 (sortedB_nodup hD) hs⟩
  have := mir_rdy1 (sortedB_nodup (mirL_sorted (sortedB_nodup hD))) (mirL_sided hs) h
  rwa [mirL_mirL hD] at this
theorem mir_kinds {D : List Bar} (hs : ∀ b ∈ D, Sided b) {k : Knot} (hk : k ∈ holeK D) : (mirK k, cnt (legsAt D k), kix (legsAt D k)) ∈ (holeK (mirL D)).map (legOf (mirL D)) := by
  refine List.mem_map.2 ⟨mirK k, by rw [mir_holeK hs, mirK_mirK]; exact hk, ?_⟩
  unfold legOf
  rw [mir_legs, sw_cnt, sw_kix]
/-! ## trimmings -/
theorem rls_some : ∀ (n : Nat) (D l z : List Bar), rls n D l = some z → z.Sublist l ∧ z.length = n ∧ rdyB (tog D z) = true
  | 0, D, l, z, h => by
    unfold rls at h
    split at h
    · rename_i hr
      obtain rfl : [] = z := by simpa using h
      exact ⟨List.nil_sublist _, rfl, hr⟩
    · cases h
  | n + 1, D, l, z, h => by
    have ih := rls_some n
    unfold rls at h
    induction l with
    | nil => unfold tryR at h; cases h
    | cons x r ihr =>
      unfold tryR at h
      split at h
      · rename_i y hy
        obtain rfl : x :: y = z := by simpa using h
        obtain ⟨h1, h2, h3⟩ := ih _ _ _ hy
        exact ⟨h1.cons_cons x, by rw [List.length_cons, h2], h3⟩
      · obtain ⟨h1, h2, h3⟩ := ihr h
        exact ⟨h1.cons x, h2, h3⟩
theorem rls_has : ∀ (n : Nat) (D l z : List Bar), z.Sublist l → z.length = n → rdyB (tog D z) = true → (rls n D l).isSome = true
  | 0, D, l, z, h1, h2, h3 => by
    obtain rfl : z = [] := List.eq_nil_of_length_eq_zero h2
    unfold rls
    rw [if_pos (show rdyB D = true from h3)]; rfl
  | n + 1, D, l, z, h1, h2, h3 => by
    have ih := rls_has n
    unfold rls
    induction l with
    | nil => obtain rfl := List.sublist_nil.1 h1; cases h2
    | cons x r ihr =>
      unfold tryR
      split
      · rfl
      · rename_i hn
        rcases List.sublist_cons_iff.1 h1 with h | ⟨y, rfl, h⟩
        · exact ihr h
        · have := ih (tog D [x]) r y h (by simpa using h2) h3
          rw [hn] at this; cases this
theorem sub_sorted {z S : List Bar} (hz : z.Pairwise bltP) (hS : S.Pairwise bltP) (h : ∀ x ∈ z, x ∈ S) : z.Sublist S := by
  have e : z = S.filter (hasb z) := sortedB_eq hz (hS.filter _) fun x => by
    rw [List.mem_filter, hasb_mem]
    exact ⟨fun hx => ⟨h x hx, hx⟩, fun hx => hx.2⟩
  rw [e]
  exact List.filter_sublist
theorem mir_tog {D z : List Bar} (hD : D.Pairwise bltP) : tog (mirL D) (mirL z) = mirL (tog D z) :=
  sortedB_eq (tog_sorted _ _ (mirL_sorted (sortedB_nodup hD))) (mirL_sorted (sortedB_nodup (tog_sorted _ _ hD))) fun x => by
    rw [tog_mem, mirL_mem, mirL_mem, mirL_mem, tog_mem]
theorem mir_wout (N D : List Bar) (hN : N.Pairwise bltP) : wout (mirL N) (mirL D) = mirL (wout N D) :=
  sortedB_eq (wout_sorted (mirL_sorted (sortedB_nodup hN))) (mirL_sorted (sortedB_nodup (wout_sorted hN))) fun x => by
    rw [wout_mem, mirL_mem, mirL_mem, mirL_mem, wout_mem]
theorem mir_rls1 {n : Nat} {D S : List Bar} (hD : D.Pairwise bltP) (hS : S.Pairwise bltP) (hsD : ∀ b ∈ D, Sided b) (hsS : ∀ b ∈ S, Sided b) (h : (rls n D S).isSome = true) : (rls n (mirL D) (mirL S)).isSome = true := by
  obtain ⟨z, hz⟩ := Option.isSome_iff_exists.1 h
  obtain ⟨h1, h2, h3⟩ := rls_some n D S z hz
  have hzs := hS.sublist h1
  refine rls_has n _ _ (mirL z) (sub_sorted (mirL_sorted (sortedB_nodup hzs)) (mirL_sorted (sortedB_nodup hS)) fun x hx => mirL_mem.2 (h1.subset (mirL_mem.1 hx))) ?_ ?_
  · rw [mirL_len (sortedB_nodup hzs), h2]
  · rw [mir_tog hD, mir_rdy (tog_sorted _ _ hD) fun b hb => ?_]
    · exact h3
    · rcases (tog_mem _ _ _).1 hb with hb | hb
      · exact hsD b hb
      · exact hsS b (h1.subset hb)
theorem mir_rls {n : Nat} {D S : List Bar} (hD : D.Pairwise bltP) (hS : S.Pairwise bltP) (hsD : ∀ b ∈ D, Sided b) (hsS : ∀ b ∈ S, Sided b) : (rls n (mirL D) (mirL S)).map List.length = (rls n D S).map List.length := by
  have h1 := mir_rls1 (n := n) hD hS hsD hsS
  have h2 := mir_rls1 (n := n) (mirL_sorted (sortedB_nodup hD)) (mirL_sorted (sortedB_nodup hS)) (mirL_sided hsD) (mirL_sided hsS)
  rw [mirL_mirL hD, mirL_mirL hS] at h2
  cases hx : rls n D S with
  | none =>
    rw [hx] at h2
    cases hy : rls n (mirL D) (mirL S) with
    | none => rfl
    | some y => rw [hy] at h2; cases h2 rfl
  | some x =>
    rw [hx] at h1
    cases hy : rls n (mirL D) (mirL S) with
    | none => rw [hy] at h1; cases h1 rfl
    | some y =>
      have q1 := (rls_some _ _ _ _ hx).2.1
      have q2 := (rls_some _ _ _ _ hy).2.1
      rw [Option.map_some, Option.map_some, q1, q2]
theorem mir_rtrF {D S : List Bar} (hD : D.Pairwise bltP) (hS : S.Pairwise bltP) (hsD : ∀ b ∈ D, Sided b) (hsS : ∀ b ∈ S, Sided b) : ∀ f n, (rtrF (mirL D) (mirL S) f n).map List.length = (rtrF D S f n).map List.length
  | 0, _ => rfl
  | f + 1, n => by
    have h := mir_rls (n := n) hD hS hsD hsS
    have ih := mir_rtrF hD hS hsD hsS f (n + 1)
    unfold rtrF
    cases hx : rls n D S with
    | none =>
      rw [hx] at h
      cases hy : rls n (mirL D) (mirL S) with
      | none => exact ih
      | some y => rw [hy] at h; cases h
    | some x =>
      rw [hx] at h
      cases hy : rls n (mirL D) (mirL S) with
      | none => rw [hy] at h; cases h
      | some y => rw [hy] at h; exact h
theorem mir_least {N D : List Bar} (h : tornE N D = 0) (hl : N.length ≤ 64) (m : Int) (hm : 0 ≤ m ∧ m ≤ 4) : leastE (mirL N) (mirL D) m = leastE N D m ∧ (leastL (mirL N) (mirL D) m).length = (leastL N D m).length ∧ (leastE N D m = 0 ∨ leastE N D m = 23) := by
  have hok := torn_ok h
  have hok' := torn_ok (mir_tornE h)
  have hw : withinI m 0 4 = 0 := by
    unfold withinI whenI
    rw [if_neg (by simp; omega)]
  have p1 : leastP N D m = 0 := by
    unfold leastP
    rw [h, hw, show decide ((64 : Int) < N.length) = false by simp; omega]; rfl
  have p2 : leastP (mirL N) (mirL D) m = 0 := by
    unfold leastP
    rw [mir_tornE h, hw, mirL_len hok.net.nodup, show decide ((64 : Int) < N.length) = false by simp; omega]; rfl
  have key : (leastO (mirL N) (mirL D) m).map List.length = (leastO N D m).map List.length := by
    unfold leastO
    rw [trimF_rtrF hok, trimF_rtrF hok', mir_wout N D hok.net.sorted]
    exact mir_rtrF hok.dam.sorted (wout_sorted hok.net.sorted) (fun b hb => (hok.dam.ok b hb).2.2) (fun b hb => (hok.net.ok b (wout_mem.1 hb).1).2.2) _ _
  unfold leastL leastE
  rw [if_pos p1, if_pos p2]
  cases hx : leastO N D m with
  | none =>
    rw [hx] at key
    cases hy : leastO (mirL N) (mirL D) m with
    | none => exact ⟨rfl, rfl, .inr rfl⟩
    | some y => rw [hy] at key; cases key
  | some x =>
    rw [hx] at key
    cases hy : leastO (mirL N) (mirL D) m with
    | none => rw [hy] at key; cases key
    | some y =>
      rw [hy] at key
      exact ⟨rfl, by simpa using key, .inl rfl⟩
end Go.Proofs.YtpompeancmonbaaGreat

/- Nets and knots in their order, plain; what a net without an error is. Conditions: none. -/
namespace Go.Proofs.YtpompeancmonbaaGreat
open Go.RowKit
set_option maxHeartbeats 2000000
set_option maxRecDepth 100000

/-! ## the knots of a hole -/
instance (a b : Knot) : Decidable (kltP a b) := inferInstanceAs (Decidable (a.2 < b.2 ∨ a.2 = b.2 ∧ a.1 < b.1))
theorem sortedK_eq {l r : List Knot} (h1 : l.Pairwise kltP) (h2 : r.Pairwise kltP) (h : ∀ x, x ∈ l ↔ x ∈ r) : l = r := sorted_unique kltP_irr kltP_tr h1 h2 h
theorem sortedK_nodup {l : List Knot} (h : l.Pairwise kltP) : l.Nodup := h.imp fun hab e => by subst e; exact kltP_irr _ hab
instance (a b : Bar) : Decidable (bltP a b) := inferInstanceAs (Decidable (barLt a.1 a.2.1 a.2.2 b.1 b.2.1 b.2.2 = true))
end Go.Proofs.YtpompeancmonbaaGreat

/- The reference's lists of bars: has, unknown, without, the same, walked. Conditions: the slices read as lists. -/
namespace Go.Proofs.YtpompeancmonbaaGreat
open Go.RowKit
set_option maxHeartbeats 2000000
set_option maxRecDepth 100000

end Go.Proofs.YtpompeancmonbaaGreat

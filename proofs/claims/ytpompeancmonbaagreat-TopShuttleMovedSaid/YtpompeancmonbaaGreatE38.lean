/- A torn net shifted, and turned upside down, plain. Conditions: none. -/
import Derived.Test.YtpompeancmonbaaGreatE08
import Derived.Test.YtpompeancmonbaaGreatE17
import Derived.Test.YtpompeancmonbaaGreatE23
import Derived.Test.YtpompeancmonbaaGreatE22
import Derived.Test.YtpompeancmonbaaGreatE24
import Derived.Test.YtpompeancmonbaaGreatE26
import Derived.Test.YtpompeancmonbaaGreatE14
import Derived.Test.YtpompeancmonbaaGreatE21
import Derived.Test.YtpompeancmonbaaGreatE37
import Derived.Test.YtpompeancmonbaaGreatE25
namespace Go.Proofs.YtpompeancmonbaaGreat
open Go.RowKit Go.ChangeMaps
set_option maxHeartbeats 4000000
set_option maxRecDepth 100000

/-! ## a torn net, shifted -/
section
variable {d : Knot}
theorem shB_inj {a b : Bar} (h : shB d a = shB d b) : a = b := by
  obtain ⟨x, y, s⟩ := a
  obtain ⟨x', y', s'⟩ := b
  unfold shB at h
  simp only [Prod.mk.injEq] at *
  omega
theorem shK_inj {a b : Knot} (h : shK d a = shK d b) : a = b := by
  obtain ⟨x, y⟩ := a
  obtain ⟨x', y'⟩ := b
  unfold shK at h
  simp only [Prod.mk.injEq] at *
  omega
theorem shB_mem {D : List Bar} {b : Bar} : shB d b ∈ D.map (shB d) ↔ b ∈ D := by
  rw [List.mem_map]
  exact ⟨fun ⟨c, hc, e⟩ => shB_inj e ▸ hc, fun h => ⟨b, h, rfl⟩⟩
theorem sh_armB (k : Knot) (a : Nat) : armB (shK d k) a = shB d (armB k a) := by
  obtain ⟨x, y⟩ := k
  obtain ⟨p, q⟩ := d
  match a with
  | 0 => rfl
  | 1 => rfl
  | 2 => simp only [armB, shK, shB, Prod.mk.injEq, and_true]; omega
  | n + 3 => simp only [armB, shK, shB, Prod.mk.injEq, and_true]; omega
theorem sh_armK (k : Knot) (a : Nat) : armK (shK d k) a = shK d (armK k a) := by
  obtain ⟨x, y⟩ := k
  obtain ⟨p, q⟩ := d
  match a with
  | 0 => simp only [armK, shK, Prod.mk.injEq]; omega
  | 1 => simp only [armK, shK, Prod.mk.injEq]; omega
  | 2 => simp only [armK, shK, Prod.mk.injEq]; omega
  | n + 3 => simp only [armK, shK, Prod.mk.injEq]; omega
theorem sh_legs (D : List Bar) (k : Knot) : legsAt (D.map (shB d)) (shK d k) = legsAt D k := by
  unfold legsAt
  simp only [sh_armB, shB_mem]
def shD (d : Knot) (e : Dart) : Dart := (shK d e.1, e.2)
theorem sh_nxt (D : List Bar) (e : Dart) : nxt (D.map (shB d)) (shD d e) = shD d (nxt D e) := by
  unfold nxt shD
  simp only [sh_armK, sh_legs]
theorem sh_wk (D : List Bar) : ∀ (n : Nat) (e : Dart), wk (D.map (shB d)) n (shD d e) = (wk D n e).map (shK d)
  | 0, _ => rfl
  | n + 1, e => by
    rw [wk, wk, sh_nxt, sh_wk D n]
    have h1 : armK (shD d e).1 (shD d e).2 = shK d (armK e.1 e.2) := sh_armK e.1 e.2
    rw [h1, sh_legs, List.map_cons]
    split <;> rfl
theorem sh_arm0 (D : List Bar) (k : Knot) : arm0 (D.map (shB d)) (shK d k) = arm0 D k := by
  unfold arm0
  simp only [sh_armB, shB_mem]
theorem sh_walk (D : List Bar) (k : Knot) : walkL (D.map (shB d)) (shK d k) = (walkL D k).map (shK d) := by
  unfold walkL
  rw [List.length_map, sh_arm0, List.map_cons]
  congr 1
  exact sh_wk D _ (k, arm0 D k)
theorem sh_lowK (b : Bar) : lowK (shB d b) = shK d (lowK b) := rfl
theorem sh_uppK (b : Bar) : uppK (shB d b) = shK d (uppK b) := by
  unfold uppK shB shK
  simp only [Prod.mk.injEq]
  omega
theorem sh_klt {a b : Knot} : kltP (shK d a) (shK d b) ↔ kltP a b := by
  unfold kltP shK
  simp only
  omega
theorem sh_holeK (D : List Bar) : holeK (D.map (shB d)) = (holeK D).map (shK d) := by
  refine sorted_unique kltP_irr kltP_tr (holeK_sorted _) ?_ fun x => ?_
  · rw [List.pairwise_map]
    exact (holeK_sorted D).imp fun h => sh_klt.2 h
  · unfold holeK
    rw [holeIn_mem, List.mem_map]
    constructor
    · rintro (h | ⟨b, hb, h⟩)
      · cases h
      · obtain ⟨c, hc, rfl⟩ := List.mem_map.1 hb
        rw [sh_lowK, sh_uppK] at h
        rcases h with rfl | rfl
        · exact ⟨_, (holeIn_mem _ D []).2 (.inr ⟨c, hc, .inl rfl⟩), rfl⟩
        · exact ⟨_, (holeIn_mem _ D []).2 (.inr ⟨c, hc, .inr rfl⟩), rfl⟩
    · rintro ⟨k, hk, rfl⟩
      rcases (holeIn_mem _ D []).1 hk with h | ⟨c, hc, h⟩
      · cases h
      · refine .inr ⟨shB d c, List.mem_map.2 ⟨c, hc, rfl⟩, ?_⟩
        rw [sh_lowK, sh_uppK]
        exact h.imp (congrArg _) (congrArg _)
theorem sh_oddK (D : List Bar) : oddK (D.map (shB d)) = (oddK D).map (shK d) := by
  unfold oddK
  rw [sh_holeK, List.filter_map]
  congr 1
  exact List.filter_congr fun k _ => by simp only [Function.comp, sh_legs]
theorem sh_btw (a b : Knot) : btwB (shK d a) (shK d b) = shB d (btwB a b) := by
  obtain ⟨x, y⟩ := a
  obtain ⟨x', y'⟩ := b
  obtain ⟨p, q⟩ := d
  unfold btwB shK shB
  simp only
  by_cases h : y' < y
  · rw [if_pos h, if_pos (by omega)]
    simp only [Prod.mk.injEq, true_and]; omega
  · rw [if_neg h, if_neg (by omega)]
    simp only [Prod.mk.injEq, true_and]; omega
theorem sh_pass : ∀ W : List Knot, passP (W.map (shK d)) = (passP W).map (shB d)
  | [] => rfl
  | [_] => rfl
  | a :: b :: r => by
    have ih := sh_pass (b :: r)
    rw [List.map_cons] at ih
    rw [List.map_cons, List.map_cons, passP, passP, List.map_cons, ih, sh_btw]
theorem sh_place (b : Bar) : ∀ (l : List Bar) (i : Int), placeP (shB d b) (l.map (shB d)) i = placeP b l i
  | [], _ => rfl
  | x :: r, i => by
    rw [List.map_cons, placeP, placeP, sh_place b r]
    by_cases h : x = b
    · rw [if_pos h, if_pos (by rw [h])]
    · rw [if_neg h, if_neg fun e => h (shB_inj e)]
theorem last_map {α β : Type} (f : α → β) : ∀ (W : List α) (a : α) (b : β), W ≠ [] → (W.map f).getLastD b = f (W.getLastD a)
  | [], _, _, h => absurd rfl h
  | [x], _, _, _ => rfl
  | x :: y :: r, a, b, _ => by
    have := last_map f (y :: r) x (f x) (by simp)
    simpa [List.getLastD] using this
theorem sh_isRun (D : List Bar) {W : List Knot} (h : W ≠ []) : isRunP (D.map (shB d)) (W.map (shK d)) = isRunP D W := by
  unfold isRunP
  rw [sh_pass, List.length_map, List.length_map, last_map (shK d) W (0, 0) (0, 0) h, sh_legs, List.all_map]
  congr 1
  congr 1
  funext k
  simp only [Function.comp, sh_legs, sh_armB, sh_place]
theorem walkL_ne (D : List Bar) (k : Knot) : walkL D k ≠ [] := by unfold walkL; simp
theorem sh_try (D : List Bar) (k : Knot) : tryRun (D.map (shB d)) (shK d k) = (tryRun D k).map (List.map (shK d)) := by
  unfold tryRun
  rw [sh_legs, sh_walk, sh_isRun D (walkL_ne D k)]
  cases cnt (legsAt D k) == 1 && isRunP D (walkL D k) <;> rfl
theorem sh_runO (D : List Bar) : runO (D.map (shB d)) = (runO D).map (List.map (shK d)) := by
  unfold runO
  rw [sh_oddK]
  match oddK D with
  | [] => rfl
  | [_] => rfl
  | [a, b] =>
    simp only [List.map_cons, List.map_nil]
    rw [sh_try, sh_try]
    cases tryRun D b <;> rfl
  | _ :: _ :: _ :: _ => rfl
theorem sh_rdy (D : List Bar) : rdyB (D.map (shB d)) = rdyB D := by
  unfold rdyB
  rw [sh_runO]
  cases runO D <;> rfl
theorem sh_tryB {f f' : List Bar → List Bar → Option (List Bar)} (hf : ∀ D r, f' (D.map (shB d)) (r.map (shB d)) = (f D r).map (List.map (shB d))) (n : Nat) : ∀ (D l : List Bar), tryB f' n (D.map (shB d)) (l.map (shB d)) = (tryB f n D l).map (List.map (shB d))
  | D, [] => rfl
  | D, b :: r => by
    have e : D.map (shB d) ++ [shB d b] = (D ++ [b]).map (shB d) := by rw [List.map_append]; rfl
    rw [List.map_cons, tryB, tryB, List.length_map, e, hf]
    split
    · rfl
    · cases f (D ++ [b]) r with
      | none => exact sh_tryB hf n D r
      | some x => rfl
theorem sh_srch : ∀ (n : Nat) (D l : List Bar), srch n (D.map (shB d)) (l.map (shB d)) = (srch n D l).map (List.map (shB d))
  | 0, D, l => by
    rw [srch, srch, sh_rdy]
    split <;> rfl
  | n + 1, D, l => by
    rw [srch, srch, sh_oddK, List.length_map]
    split
    · rfl
    · exact sh_tryB (sh_srch n) (n + 1) D l
theorem sh_trimF (D S : List Bar) : ∀ (f n : Nat), trimF (D.map (shB d)) (S.map (shB d)) f n = (trimF D S f n).map (List.map (shB d))
  | 0, _ => rfl
  | f + 1, n => by
    rw [trimF, trimF, sh_srch, sh_trimF D S f]
    cases srch n D S <;> rfl
theorem sh_wout (N D : List Bar) : wout (N.map (shB d)) (D.map (shB d)) = (wout N D).map (shB d) := by
  unfold wout
  rw [List.filter_map]
  congr 1
  refine List.filter_congr fun b _ => ?_
  unfold hasb
  simp only [Function.comp, shB_mem]
theorem sh_least (N D : List Bar) (m : Int) : leastO (N.map (shB d)) (D.map (shB d)) m = (leastO N D m).map (List.map (shB d)) := by
  unfold leastO
  rw [sh_wout, sh_trimF]
end
/-! ## a torn net, turned upside down -/
def t2K (k : Knot) : Knot := (-k.1, -k.2)
def t2B (b : Bar) : Bar := (-b.1 - b.2.2, -b.2.1 - 1, b.2.2)
theorem t2K_t2K (k : Knot) : t2K (t2K k) = k := by obtain ⟨x, y⟩ := k; simp [t2K]
theorem t2B_t2B (b : Bar) : t2B (t2B b) = b := by
  obtain ⟨x, y, s⟩ := b
  unfold t2B
  simp only [Prod.mk.injEq, and_true]
  omega
theorem t2_armB (k : Knot) {a : Nat} (h : a < 4) : armB (t2K k) (3 - a) = t2B (armB k a) := by
  obtain ⟨x, y⟩ := k
  obtain rfl | rfl | rfl | rfl : a = 0 ∨ a = 1 ∨ a = 2 ∨ a = 3 := by omega
  all_goals
    simp only [armB, t2K, t2B, Nat.sub_zero, Nat.reduceSub, Prod.mk.injEq, and_true]
    try omega
theorem t2_armK (k : Knot) {a : Nat} (h : a < 4) : armK (t2K k) (3 - a) = t2K (armK k a) := by
  obtain ⟨x, y⟩ := k
  obtain rfl | rfl | rfl | rfl : a = 0 ∨ a = 1 ∨ a = 2 ∨ a = 3 := by omega
  all_goals
    simp only [armK, t2K, Nat.sub_zero, Nat.reduceSub, Prod.mk.injEq]
    try omega
theorem pass_map_len (f : Knot → Knot) : ∀ W : List Knot, (passP (W.map f)).length = (passP W).length
  | [] => rfl
  | [_] => rfl
  | a :: b :: r => by
    have ih := pass_map_len f (b :: r)
    rw [List.map_cons] at ih
    rw [List.map_cons, List.map_cons, passP, passP, List.length_cons, List.length_cons, ih]
def rvL (l : Legs) : Legs := (l.2.2.2, l.2.2.1, l.2.1, l.1)
theorem rv_facts : ∀ a b c d, cnt (rvL (a, b, c, d)) = cnt (a, b, c, d) ∧ oddL (rvL (a, b, c, d)) = oddL (a, b, c, d) := by decide
theorem rv_cnt (l : Legs) : cnt (rvL l) = cnt l := by obtain ⟨a, b, c, d⟩ := l; exact (rv_facts a b c d).1
theorem rv_odd (l : Legs) : oddL (rvL l) = oddL l := by obtain ⟨a, b, c, d⟩ := l; exact (rv_facts a b c d).2
theorem rv_onw (l : Legs) (b : Nat) (hb : b < 4) (he : oddL l = false) (hm : lget l b = true) (h4 : cnt l ≠ 4) : onw (rvL l) (3 - b) = 3 - onw l b ∧ onw l b < 4 ∧ lget l (onw l b) = true := by
  obtain ⟨p, q, r, s⟩ := l
  obtain rfl | rfl | rfl | rfl : b = 0 ∨ b = 1 ∨ b = 2 ∨ b = 3 := by omega
  all_goals (revert p q r s; decide)
section
variable {D D' : List Bar} (hM : ∀ x, x ∈ D' ↔ t2B x ∈ D)
include hM
theorem t2_arm_mem (k : Knot) {a : Nat} (h : a < 4) : armB (t2K k) (3 - a) ∈ D' ↔ armB k a ∈ D := by rw [hM, t2_armB k h, t2B_t2B]
theorem t2_legs (k : Knot) : legsAt D' (t2K k) = rvL (legsAt D k) := by
  have h0 := t2_arm_mem hM k (a := 0) (by omega)
  have h1 := t2_arm_mem hM k (a := 1) (by omega)
  have h2 := t2_arm_mem hM k (a := 2) (by omega)
  have h3 := t2_arm_mem hM k (a := 3) (by omega)
  unfold legsAt rvL
  simp only [Nat.sub_zero, Nat.reduceSub] at h0 h1 h2 h3
  simp only [h0, h1, h2, h3]
theorem t2_wk (h4 : ∀ k, cnt (legsAt D k) ≠ 4) : ∀ (n : Nat) (e : Dart), e.2 < 4 → barD e ∈ D → wk D' n (t2K e.1, 3 - e.2) = (wk D n e).map t2K
  | 0, _, _, _ => rfl
  | n + 1, e, ha, hb => by
    have h1 : armK (t2K e.1) (3 - e.2) = t2K (armK e.1 e.2) := t2_armK e.1 ha
    rw [wk, wk]
    simp only
    rw [h1, t2_legs hM, rv_odd, List.map_cons]
    congr 1
    cases ho : oddL (legsAt D (armK e.1 e.2)) with
    | true => rfl
    | false =>
      have hg : lget (legsAt D (armK e.1 e.2)) (3 - e.2) = true := (lget_mem D _ (by omega)).2 (by rw [armB_rev _ ha]; exact hb)
      obtain ⟨q1, q2, q3⟩ := rv_onw (legsAt D (armK e.1 e.2)) (3 - e.2) (by omega) ho hg (h4 _)
      have ih := t2_wk h4 n (nxt D e) q2 ((lget_mem D _ q2).1 q3)
      simp only [Bool.false_eq_true, if_false]
      rw [← ih]
      congr 1
      unfold nxt
      simp only
      rw [h1, t2_legs hM, q1]
omit hM in
theorem arm0_one {k : Knot} (h : cnt (legsAt D k) = 1) : arm0 D k < 4 ∧ barD (k, arm0 D k) ∈ D := arm0_ok fun e => by rw [e] at h; cases h
theorem t2_walk (h4 : ∀ k, cnt (legsAt D k) ≠ 4) (hl : D'.length = D.length) {k : Knot} (h1 : cnt (legsAt D k) = 1) : walkL D' (t2K k) = (walkL D k).map t2K := by
  obtain ⟨a1, a2⟩ := arm0_one h1
  have e : arm0 D' (t2K k) = 3 - arm0 D k := by
    have h0 := t2_arm_mem hM k (a := 0) (by omega)
    have h1' := t2_arm_mem hM k (a := 1) (by omega)
    have h2 := t2_arm_mem hM k (a := 2) (by omega)
    have h3 := t2_arm_mem hM k (a := 3) (by omega)
    simp only [Nat.sub_zero, Nat.reduceSub] at h0 h1' h2 h3
    unfold legsAt cnt at h1
    unfold arm0
    by_cases p0 : armB k 0 ∈ D <;> by_cases p1 : armB k 1 ∈ D <;> by_cases p2 : armB k 2 ∈ D <;> by_cases p3 : armB k 3 ∈ D <;> simp_all
  unfold walkL
  rw [e, hl, List.map_cons]
  congr 1
  exact t2_wk hM h4 _ (k, arm0 D k) a1 a2
theorem t2_isRun (h4 : ∀ k, cnt (legsAt D k) ≠ 4) (hl : D'.length = D.length) {W : List Knot} (hW : W ≠ []) : isRunP D' (W.map t2K) = isRunP D W := by
  have f4 : ∀ k, (cnt (legsAt D k) == 4) = false := fun k => beq_false_of_ne (h4 k)
  unfold isRunP
  rw [pass_map_len t2K W, hl, last_map t2K W (0, 0) (0, 0) hW, t2_legs hM, rv_cnt, List.all_map]
  congr 1
  congr 1
  funext k
  simp only [Function.comp, t2_legs hM, rv_cnt, f4, Bool.false_and]
theorem t2_odd (k : Knot) : t2K k ∈ oddK D' ↔ k ∈ oddK D := by
  have t2_low : ∀ b : Bar, lowK (t2B b) = t2K (uppK b) := fun b => by
    unfold lowK t2B uppK t2K; simp only [Prod.mk.injEq]; omega
  have t2_upp : ∀ b : Bar, uppK (t2B b) = t2K (lowK b) := fun b => by
    unfold lowK t2B uppK t2K; simp only [Prod.mk.injEq]; omega
  have hk : t2K k ∈ holeK D' ↔ k ∈ holeK D := by
    unfold holeK
    rw [holeIn_mem, holeIn_mem]
    simp only [List.not_mem_nil, false_or]
    constructor
    · rintro ⟨b, hb, h⟩
      refine ⟨t2B b, (hM b).1 hb, ?_⟩
      rw [t2_low, t2_upp]
      rcases h with h | h
      · exact .inr (by rw [← h, t2K_t2K])
      · exact .inl (by rw [← h, t2K_t2K])
    · rintro ⟨b, hb, h⟩
      refine ⟨t2B b, (hM _).2 (by rw [t2B_t2B]; exact hb), ?_⟩
      rw [t2_low, t2_upp]
      rcases h with h | h
      · exact .inr (by rw [h])
      · exact .inl (by rw [h])
  unfold oddK
  rw [List.mem_filter, List.mem_filter, hk, t2_legs hM, rv_odd]
theorem t2_rdy1 (h4 : ∀ k, cnt (legsAt D k) ≠ 4) (hl : D'.length = D.length) (h : rdyB D = true) : rdyB D' = true := by
  obtain ⟨h1, k, hk, h2, h3⟩ := rdy_iff.1 h
  refine rdy_iff.2 ⟨?_, t2K k, (t2_odd hM k).2 hk, by rw [t2_legs hM, rv_cnt]; exact h2, ?_⟩
  · rw [← h1]
    have nd : ∀ E : List Bar, (oddK E).Nodup := fun E => (((holeK_sorted E).filter _).imp fun {a b} hab e => by subst e; exact kltP_irr _ hab)
    refine Nat.le_antisymm ?_ ?_
    · have := length_le_of_sub (l := (oddK D').map t2K) (D := oddK D) (nodup_map (nd _) fun a _ b _ e => by rw [← t2K_t2K a, e, t2K_t2K]) fun x hx => by
        obtain ⟨y, hy, rfl⟩ := List.mem_map.1 hx
        rw [← t2_odd hM, t2K_t2K]; exact hy
      simpa using this
    · have := length_le_of_sub (l := (oddK D).map t2K) (D := oddK D') (nodup_map (nd _) fun a _ b _ e => by rw [← t2K_t2K a, e, t2K_t2K]) fun x hx => by
        obtain ⟨y, hy, rfl⟩ := List.mem_map.1 hx
        exact (t2_odd hM y).2 hy
      simpa using this
  · rw [t2_walk hM h4 hl h2, t2_isRun hM h4 hl (walkL_ne D k)]
    exact h3
end
theorem t2_rdy {D D' : List Bar} (hM : ∀ x, x ∈ D' ↔ t2B x ∈ D) (h4 : ∀ k, cnt (legsAt D k) ≠ 4) (hl : D'.length = D.length) : rdyB D' = rdyB D := by
  have hM' : ∀ x, x ∈ D ↔ t2B x ∈ D' := fun x => by rw [hM, t2B_t2B]
  have h4' : ∀ k, cnt (legsAt D' k) ≠ 4 := fun k => by
    have := t2_legs hM (t2K k)
    rw [t2K_t2K] at this
    rw [this, rv_cnt]; exact h4 _
  rw [Bool.eq_iff_iff]
  exact ⟨t2_rdy1 hM' h4' hl.symm, t2_rdy1 hM h4 hl⟩
end Go.Proofs.YtpompeancmonbaaGreat

/- What the statement MendParity reckons of the kinds of a hole's knots: plain. Conditions: bars within bounds, each once. -/
namespace Go.Proofs.YtpompeancmonbaaGreat

theorem leg_cases : ∀ a b c d, (a, b, c, d) ≠ noLegs → (cnt (a, b, c, d) = 1 ∧ kix (a, b, c, d) = 0) ∨ (cnt (a, b, c, d) = 2 ∧ (kix (a, b, c, d) = 3 ∨ kix (a, b, c, d) = 4 ∨ kix (a, b, c, d) = 5)) ∨ (cnt (a, b, c, d) = 3 ∧ kix (a, b, c, d) = 1) ∨ (cnt (a, b, c, d) = 4 ∧ kix (a, b, c, d) = 2) := by decide
theorem leg_cases' {l : Legs} (h : l ≠ noLegs) : (cnt l = 1 ∧ kix l = 0) ∨ (cnt l = 2 ∧ (kix l = 3 ∨ kix l = 4 ∨ kix l = 5)) ∨ (cnt l = 3 ∧ kix l = 1) ∨ (cnt l = 4 ∧ kix l = 2) := by
  obtain ⟨a, b, c, d⟩ := l
  exact leg_cases a b c d h
/-- how many of the first k are odd, and their sum -/
def ocL (l : List LegT) (k : Nat) : Nat := ((l.take k).filter fun x => x.2.1 % 2 == 1).length
def scL (l : List LegT) (k : Nat) : Nat := ((l.take k).map (·.2.1)).sum
theorem ocL_succ {l : List LegT} {k : Nat} (hk : k < l.length) : ocL l (k + 1) = ocL l k + if l[k].2.1 % 2 = 1 then 1 else 0 := by
  unfold ocL
  rw [List.take_succ_eq_append_getElem hk, List.filter_append, List.length_append]
  by_cases h : l[k].2.1 % 2 = 1 <;> simp [h]
theorem scL_succ {l : List LegT} {k : Nat} (hk : k < l.length) : scL l (k + 1) = scL l k + l[k].2.1 := by
  unfold scL
  rw [List.take_succ_eq_append_getElem hk, List.map_append, List.sum_append]
  simp
theorem filter_at {α : Type} (p : α → Bool) {l : List α} {k : Nat} (hk : k < l.length) (hp : p l[k] = true) : (l.filter p)[((l.take k).filter p).length]? = some l[k] := by
  have e : l = l.take k ++ l[k] :: l.drop (k + 1) := by rw [← List.drop_eq_getElem_cons hk, List.take_append_drop]
  conv => lhs; rw [e]
  rw [List.filter_append, List.filter_cons, if_pos hp]
  have h1 : ((l.take k).filter p).length = ((List.take k (l.take k ++ l[k] :: l.drop (k + 1))).filter p).length := by rw [← e]
  rw [← h1, List.getElem?_append_right (Nat.le_refl _), Nat.sub_self]
  rfl
structure ParL (l : List LegT) (O : List Knot) (n : Nat) : Prop where
  kind : ∀ k (h : k < l.length), (l[k].2.1 = 1 ∧ l[k].2.2 = 0) ∨ (l[k].2.1 = 2 ∧ (l[k].2.2 = 3 ∨ l[k].2.2 = 4 ∨ l[k].2.2 = 5)) ∨ (l[k].2.1 = 3 ∧ l[k].2.2 = 1) ∨ (l[k].2.1 = 4 ∧ l[k].2.2 = 2)
  asc : ∀ k (h : k + 1 < l.length), kltP l[k].1 l[k + 1].1
  odd : ∀ k (h : k < l.length), l[k].2.1 % 2 = 1 → O[ocL l k]? = some l[k].1
  odds : ocL l l.length = O.length
  sum : scL l l.length = 2 * n
theorem ParL.sc_le {l : List LegT} {O : List Knot} {n : Nat} (h : ParL l O n) : ∀ k, k ≤ l.length → scL l k ≤ 4 * k
  | 0, _ => by simp [scL]
  | k + 1, hk => by
    have ih := ParL.sc_le h k (by omega)
    rw [scL_succ (show k < l.length by omega)]
    have := h.kind k (by omega)
    omega
theorem ocL_le (l : List LegT) (k : Nat) : ocL l k ≤ k := by
  unfold ocL
  have h1 := List.length_filter_le (fun x : LegT => x.2.1 % 2 == 1) (l.take k)
  have h2 := List.length_take_le k l
  omega
theorem filter_map_len {α β : Type} (f : α → β) (p : β → Bool) : ∀ l : List α, ((l.map f).filter p).length = (l.filter fun a => p (f a)).length
  | [] => rfl
  | a :: l => by
    have := filter_map_len f p l
    rw [List.map_cons, List.filter_cons, List.filter_cons]
    split <;> simp [this]
theorem par_ok {D : List Bar} (hn : D.Nodup) (hs : ∀ b ∈ D, Sided b) : ParL ((holeK D).map (legOf D)) (oddK D) D.length := by
  have ho : oddK D = (holeK D).filter fun k => cnt (legsAt D k) % 2 == 1 := rfl
  refine ⟨fun k h => ?_, fun k h => ?_, fun k h hc => ?_, ?_, ?_⟩
  · rw [List.length_map] at h
    rw [List.getElem_map]
    exact leg_cases' ((holeK_mem hs _).1 (List.getElem_mem h))
  · rw [List.length_map] at h
    rw [List.getElem_map, List.getElem_map]
    exact List.pairwise_iff_getElem.1 (holeK_sorted D) k (k + 1) (by omega) h (by omega)
  · rw [List.length_map] at h
    rw [List.getElem_map] at hc ⊢
    have hc' : cnt (legsAt D (holeK D)[k]) % 2 = 1 := hc
    have := filter_at (fun k => cnt (legsAt D k) % 2 == 1) h (by simpa using hc')
    rw [ho]
    unfold ocL
    rw [← List.map_take, filter_map_len]
    exact this
  · unfold ocL
    rw [List.take_length, filter_map_len, ho]
    rfl
  · unfold scL
    rw [List.take_length, List.map_map]
    exact hole_sum hn hs
end Go.Proofs.YtpompeancmonbaaGreat

/- What the statements MendBackwards and MendRestores reckon of walks and runs: plain. Conditions: a torn net that is valid. -/
namespace Go.Proofs.YtpompeancmonbaaGreat

section
variable {N D : List Bar} {k : Knot} {L : Nat}
theorem knot_zero (hD : netE D = 0) (h : legsAt D k ≠ noLegs) : knotE k.1 k.2 = 0 := by
  obtain ⟨a, ha, hm⟩ := legs_arm.1 h
  obtain ⟨q1, q2⟩ := barE_ends (netE_all hD _ hm)
  rcases (dart_low (d := (k, a)) ha).1 with e | e
  · have e' : k = lowK (armB k a) := e
    rw [e']; exact q1
  · have e' : k = uppK (armB k a) := e
    rw [e']; exact q2
theorem two_zero (hE : tornE N D = 0) (h : legsAt D k ≠ noLegs) : twoE N D k = 0 := by
  unfold twoE
  rw [hE, knot_zero (torn_nets hE).2 h]; rfl
theorem cnt_ne {n : Nat} (h : cnt (legsAt D k) = n + 1) : legsAt D k ≠ noLegs := fun e => by rw [e] at h; cases h
theorem miss_eq (hE : tornE N D = 0) (h : legsAt D k ≠ noLegs) : missR N D k = (cnt (legsAt D k) : Int) := by
  unfold missR
  rw [if_pos (two_zero hE h)]; rfl
theorem walkE_eq (hE : tornE N D = 0) (h : legsAt D k ≠ noLegs) : walkE N D k = if cnt (legsAt D k) = 1 then 0 else 18 := by
  unfold walkE whenI missN
  rw [if_pos (two_zero hE h)]
  by_cases h1 : cnt (legsAt D k) = 1 <;> simp [h1]
theorem walkR_eq (hE : tornE N D = 0) (h : legsAt D k ≠ noLegs) : walkR N D k = if cnt (legsAt D k) = 1 then walkL D k else [] := by
  unfold walkR
  rw [walkE_eq hE h]
  by_cases h1 : cnt (legsAt D k) = 1 <;> simp [h1]
theorem path_made (hN : netE D = 0) {d : Dart} (hL : 0 < L) (hle : L ≤ D.length) (hok : ∀ t, t < L → (dart D d t).2 < 4 ∧ barD (dart D d t) ∈ D) (hnd : (pathB D d L).Nodup) :
    cwE (pathK D d (L + 1)) = 0 ∧ madeE (pathK D d (L + 1)) = 0 ∧ (∀ x, x ∈ madeL (pathK D d (L + 1)) ↔ x ∈ pathB D d L) ∧ (madeL (pathK D d (L + 1))).Pairwise bltP := by
  have hcw := path_cw hN hL hle hok
  have hp : passP (pathK D d (L + 1)) = pathB D d L := pass_path _ _ fun t ht => (hok t ht).1
  have hm : mkB [] (passP (pathK D d (L + 1))) = some (srtB (pathB D d L)) := by rw [hp, mkB_eq, if_pos hnd]
  have hl : madeL (pathK D d (L + 1)) = srtB (pathB D d L) := by rw [madeL_eq _ hcw, hm]; rfl
  refine ⟨hcw, by rw [madeE_eq, if_pos hcw, hm]; rfl, fun x => by rw [hl, srtB_mem], by rw [hl]; exact srtB_sorted hnd⟩
/-- a walk from a knot with one missing bar -/
structure BackAt (N D : List Bar) (k z : Knot) (W : List Knot) : Prop where
  lo : 2 ≤ W.length
  hi : W.length ≤ D.length + 1
  fst : W[0]? = some k
  lst : W[W.length - 1]? = some z
  cw : cwE W = 0
  made : madeE W = 0
  unk : unk (madeL W) D = false
  two : twoE N D z = 0
  cnt : cnt (legsAt D z) = 1 ∨ cnt (legsAt D z) = 3
  back : Go.Proofs.YtpompeancmonbaaGreat.cnt (legsAt D z) = 1 → walkL D z = W.reverse
theorem odd_one_three : ∀ a b c d, oddL (a, b, c, d) = true → cnt (a, b, c, d) = 1 ∨ cnt (a, b, c, d) = 3 := by decide
theorem pathK_get {d : Dart} {n t : Nat} (h : t < n) : (pathK D d n)[t]? = some (dart D d t).1 := by
  unfold pathK
  rw [List.getElem?_map, List.getElem?_range h]; rfl
theorem back_at (hE : tornE N D = 0) (h1 : cnt (legsAt D k) = 1) : ∃ z, BackAt N D k z (walkL D k) := by
  have hD := (torn_nets hE).2
  have ho := one_odd h1
  obtain ⟨ha, hb⟩ := arm0_ok (odd_ne ho)
  obtain ⟨L, hL, hle, hw⟩ := walkL_eq ho
  have hok := fun t (ht : t < L) => dart_ok (n := L - 1) ha hb (fun t h1 h2 => hL.even t h1 (by omega)) t (by omega)
  obtain ⟨q1, q2, q3, _⟩ := path_made hD hL.pos hle hok (pathB_nodup ha hb ho hL.even)
  have hpos := hL.pos
  have hoz : oddL (legsAt D (dart D (k, arm0 D k) L).1) = true := by
    have := hL.odd
    unfold evn at this
    simpa using this
  refine ⟨(dart D (k, arm0 D k) L).1, ?_⟩
  refine ⟨?_, ?_, ?_, ?_, ?_, ?_, ?_, two_zero hE (odd_ne hL.odd), ?_, fun hz => walk_back h1 hL hz⟩
  · rw [hw, pathK_len]; omega
  · rw [hw, pathK_len]; omega
  · rw [hw, pathK_get (by omega)]; rfl
  · rw [hw, pathK_len, pathK_get (by omega)]; rfl
  · rw [hw]; exact q1
  · rw [hw]; exact q2
  · rw [hw]; exact unk_sub fun x hx => pathB_sub ha hb hL.even x ((q3 x).1 hx)
  · generalize legsAt D (dart D (k, arm0 D k) L).1 = l at hoz
    obtain ⟨a, b, c, d⟩ := l
    exact odd_one_three a b c d hoz
/-- the kinds' names tell whether a knot lacks four bars -/
def openL (l : List LegT) (k : Nat) : Bool := (l.take k).any fun x => x.2.1 == 4
theorem openL_succ {l : List LegT} {k : Nat} (hk : k < l.length) : openL l (k + 1) = (openL l k || l[k].2.1 == 4) := by
  unfold openL
  rw [List.take_succ_eq_append_getElem hk, List.any_append]
  simp
theorem openL_new {D : List Bar} (hs : ∀ b ∈ D, Sided b) {l : List LegT} (hl : (holeK D).map (legOf D) = l) : openL l l.length = false ↔ ∀ k, cnt (legsAt D k) ≠ 4 := by
  unfold openL
  rw [List.take_length, ← hl, new_none hs, List.any_eq_false]
  constructor
  · intro h k hk h4
    exact h _ (List.mem_map.2 ⟨k, hk, rfl⟩) (by simpa [legOf] using h4)
  · intro h x hx
    obtain ⟨k, hk, rfl⟩ := List.mem_map.1 hx
    have := h k hk
    simpa [legOf] using this
/-- the run backwards, checked -/
theorem proved_back (hE : tornE N D = 0) {W : List Knot} (hW : runO D = some W) {l : List LegT} (hl : (holeK D).map (legOf D) = l) : provedE N D W.reverse = if openL l l.length then 21 else 0 := by
  have hok := torn_ok hE
  have hs : ∀ b ∈ D, Sided b := fun b hb => (hok.dam.ok b hb).2.2
  obtain ⟨k, L, rfl, R⟩ := run_at hW
  have hz := one_odd R.last
  have hbk := R.back_walk
  have hcw : cwE (walkL D (dart D (k, arm0 D k) L).1) = 0 := by
    obtain ⟨z, hb⟩ := back_at hE R.last
    exact hb.cw
  have hr : rdyB D = true := by unfold rdyB; rw [hW]; rfl
  rw [hbk] at hcw
  obtain ⟨z, hzz⟩ : ∃ z, (dart D (k, arm0 D k) L).1 = z := ⟨_, rfl⟩
  have hlast := R.last
  rw [hzz] at hbk hlast
  have hhead : (pathK D (k, arm0 D k) (L + 1)).reverse = z :: wk D D.length (z, arm0 D z) := by rw [← hbk]; rfl
  have h1 : oneB D (pathK D (k, arm0 D k) (L + 1)).reverse = true := by
    rw [hhead]
    show (cnt (legsAt D z) == 1) = true
    rw [hlast]; rfl
  have h2 : startsB D (pathK D (k, arm0 D k) (L + 1)).reverse = isRunP D (pathK D (k, arm0 D k) (L + 1)).reverse := by
    conv => lhs; rw [hhead]
    show (isRunP D (walkL D z) && decide (walkL D z = z :: _)) = _
    rw [hbk, hhead]; simp
  have hq := R.back
  rw [← openL_new hs hl] at hq
  unfold provedE
  rw [if_pos (by rw [hE, hcw]; rfl), if_pos hr, if_pos h1, h2]
  unfold whenI
  cases ho : openL l l.length
  · rw [hq.2 ho]; rfl
  · have : isRunP D (pathK D (k, arm0 D k) (L + 1)).reverse = false := by
      cases hh : isRunP D (pathK D (k, arm0 D k) (L + 1)).reverse
      · rfl
      · rw [hq.1 hh] at ho; cases ho
    rw [this]; rfl
end
end Go.Proofs.YtpompeancmonbaaGreat

/- The run of a torn net that is ready, plain: what the statement MendRestores says of it. Conditions: the torn net is valid. -/
namespace Go.Proofs.YtpompeancmonbaaGreat

/-- a run and how often it has passed a knot before a step -/
structure ResAt (N D : List Bar) (W : List Knot) (V : Knot → Nat → Nat) : Prop where
  odd2 : (oddK D).length = 2
  len : W.length = D.length + 1
  pos : 0 < D.length
  cw : cwE W = 0
  fst : ∃ a, W[0]? = some a ∧ a ∈ oddK D ∧ ∃ z, W[W.length - 1]? = some z ∧ z ∈ oddK D ∧ a ≠ z
  made : madeE W = 0 ∧ madeL W = D
  proved : provedE N D W = 0
  rest : restL N D W = N
  zero : ∀ k, V k 1 = 0
  step : ∀ (t : Nat) (_ : 0 < t) (h1 : t + 1 < W.length), legsAt D W[t] ≠ noLegs ∧ (cnt (legsAt D W[t]) = 2 ∨ cnt (legsAt D W[t]) = 4) ∧ V W[t] (t + 1) = V W[t] t + 1 ∧ 2 * V W[t] (t + 1) ≤ cnt (legsAt D W[t]) ∧
    (cnt (legsAt D W[t]) = 4 → V W[t] t = 0 → W[t].2 < W[t - 1].2 ∧ W[t].2 < W[t + 1].2) ∧ (cnt (legsAt D W[t]) = 4 → 0 < V W[t] t → W[t - 1].2 < W[t].2 ∧ W[t + 1].2 < W[t].2) ∧ ∀ k, k ≠ W[t] → V k (t + 1) = V k t
  fin : ∀ k, 0 < V k D.length → legsAt D k ≠ noLegs ∧ cnt (legsAt D k) = 2 * V k D.length
theorem run_walk {D : List Bar} {W : List Knot} (h : runO D = some W) : ∃ k, W = walkL D k ∧ isRunP D W = true ∧ cnt (legsAt D k) = 1 := by
  have key : ∀ k, tryRun D k = some W → ∃ k, W = walkL D k ∧ isRunP D W = true ∧ cnt (legsAt D k) = 1 := by
    intro k hk
    unfold tryRun at hk
    cases hc : (cnt (legsAt D k) == 1 && isRunP D (walkL D k)) with
    | false => rw [hc] at hk; cases hk
    | true =>
      rw [hc] at hk
      rw [Bool.and_eq_true, beq_iff_eq] at hc
      obtain rfl : walkL D k = W := by simpa using hk
      exact ⟨k, rfl, hc.2, hc.1⟩
  unfold runO at h
  split at h
  · split at h
    · rename_i w hw
      cases h
      exact key _ hw
    · exact key _ h
  · cases h
theorem cnt_four : ∀ a b c d, (a, b, c, d) ≠ noLegs → oddL (a, b, c, d) = false → cnt (a, b, c, d) = 2 ∨ cnt (a, b, c, d) = 4 := by decide
theorem res_at {N D : List Bar} (hE : tornE N D = 0) {W : List Knot} (h : runO D = some W) : ∃ V, ResAt N D W V := by
  have hok := torn_ok hE
  have hs : ∀ b ∈ D, Sided b := fun b hb => (hok.dam.ok b hb).2.2
  have hn := hok.dam.nodup
  have hr : rdyB D = true := by unfold rdyB; rw [h]; rfl
  obtain ⟨k', hw', hrun, hone⟩ := run_walk h
  obtain ⟨k, L, hw, R⟩ := run_at h
  obtain ⟨d, hd⟩ : ∃ d : Dart, (k, arm0 D k) = d := ⟨_, rfl⟩
  rw [hd] at hw R
  have hpos := R.wend.pos
  have hL := R.len
  obtain ⟨q1, q2, q3, q4⟩ := path_made (torn_nets hE).2 hpos (by omega) R.ok R.nodup
  rw [← hw] at q1 q2 q3 q4
  have hmade : madeL W = D := sortedB_eq q4 hok.dam.sorted fun x => by rw [q3]; exact ⟨R.sub x, R.all x⟩
  have hwlen : W.length = L + 1 := by rw [hw, pathK_len]
  have hget : ∀ (t : Nat) (ht : t < W.length), W[t] = (dart D d t).1 := fun t ht => by
    have h1 : W[t]? = some (dart D d t).1 := by rw [hw]; exact pathK_get (by omega)
    rw [List.getElem?_eq_getElem ht] at h1
    exact Option.some.inj h1
  have hpr : provedE N D W = 0 := by
    have hcons : W = k' :: wk D D.length (k', arm0 D k') := by rw [hw']; rfl
    have h1 : oneB D W = true := by
      rw [hcons]
      show (cnt (legsAt D k') == 1) = true
      rw [hone]; rfl
    have h2 : startsB D W = true := by
      conv => lhs; rw [hcons]
      show (isRunP D (walkL D k') && decide (walkL D k' = _)) = true
      rw [← hw', hrun, ← hcons]; simp
    unfold provedE
    rw [if_pos (by rw [hE, q1]; rfl), if_pos hr, if_pos h1, h2]
    rfl
  have hoz : ∀ t, t = 0 ∨ t = L → (dart D d t).1 ∈ oddK D := fun t ht => by
    rw [oddK_mem hs]
    have : cnt (legsAt D (dart D d t).1) = 1 := by
      rcases ht with rfl | rfl
      · exact R.first
      · exact R.last
    unfold oddL; rw [this]; rfl
  refine ⟨vs D d, ⟨rdy_odd hr, by omega, by omega, q1, ?_, ⟨q2, hmade⟩, hpr, ?_, fun k => by simp [vs], ?_, ?_⟩⟩
  · refine ⟨(dart D d 0).1, ?_, hoz 0 (.inl rfl), (dart D d L).1, ?_, hoz L (.inr rfl), ?_⟩
    · rw [hw]; exact pathK_get (by omega)
    · rw [hwlen, hw]; exact pathK_get (by omega)
    · have h1 : cnt (legsAt D k) = 1 := by rw [show k = d.1 by rw [← hd]]; exact R.first
      have := walk_end_ne h1 (L := L) (by rw [hd]; exact R.wend)
      rw [hd] at this
      show d.1 ≠ _
      rw [show d.1 = k by rw [← hd]]
      exact fun e => this e.symm
  · rw [rest_tog hpr, hmade]
    refine sortedB_eq (tog_sorted _ _ (wout_sorted hok.net.sorted)) hok.net.sorted fun x => ?_
    rw [tog_mem, wout_mem]
    constructor
    · rintro (h | h)
      · exact h.1
      · exact hok.sub x h
    · intro hx
      by_cases hm : x ∈ D
      · exact .inr hm
      · exact .inl ⟨hx, hm⟩
  · intro t h0 h1
    have ht : t < L := by omega
    rw [hget t (by omega), hget (t - 1) (by omega), hget (t + 1) h1]
    have hne : legsAt D (dart D d t).1 ≠ noLegs := legs_arm.2 ⟨(dart D d t).2, (R.ok t ht).1, (R.ok t ht).2⟩
    have hev : oddL (legsAt D (dart D d t).1) = false := by
      have := R.wend.even t h0 ht
      unfold evn at this
      simpa using this
    refine ⟨hne, ?_, vs_at h0, ?_, fun h4 hv => ?_, fun h4 hv => ?_, fun k hk => ?_⟩
    · generalize legsAt D (dart D d t).1 = l at hne hev
      obtain ⟨a, b, c, e⟩ := l
      exact cnt_four a b c e hne hev
    · rw [R.visits hn hs h0 ht]
      have := vs_mono (D := D) (d := d) (k := (dart D d t).1) (n := t + 1) L (by omega)
      omega
    · have := R.highY h0 ht h4 hv
      omega
    · have := R.lowY h0 ht h4 hv
      omega
    · show vs D d k t + (if 0 < t ∧ (dart D d t).1 = k then 1 else 0) = _
      rw [if_neg (fun e => hk e.2.symm)]
      rfl
  · intro k hk
    rw [← hL] at hk ⊢
    obtain ⟨t, h1, h2, rfl, _⟩ := vs_pos L hk
    exact ⟨legs_arm.2 ⟨(dart D d t).2, (R.ok t h2).1, (R.ok t h2).2⟩, R.visits hn hs h1 h2⟩
end Go.Proofs.YtpompeancmonbaaGreat

/- The least trimming and the one by rule, plain: what the statement MendLeast says of them. Conditions: the torn net is valid, its net has at most 64 bars. -/
import Derived.Test.YthcnngoaijgnoaaGreatK11
import Derived.Test.YthcnngoaijgnoaaGreatRlpJ
import Derived.Test.YthcnngoaijgnoaaGreatPpdJ
namespace Go.Proofs.YthcnngoaijgnoaaGreat

/-- the first list comes no later than the second, bar by bar -/
def lexB : List Bar → List Bar → Prop
  | [], _ => True
  | _ :: _, [] => False
  | a :: z, b :: t => bltP a b ∨ (a = b ∧ lexB z t)
theorem rls_first : ∀ (n : Nat) (D S z T : List Bar), S.Pairwise bltP → rls n D S = some z → T.Sublist S → T.length = n → rdyB (tog D T) = true → lexB z T
  | 0, D, S, z, T, _, hz, _, _, _ => by
    have := rls_len 0 D S z hz
    obtain rfl : z = [] := List.eq_nil_of_length_eq_zero this
    exact True.intro
  | n + 1, D, S, z, T, hS, hz, hT, hl, hr => by
    have ih := rls_first n
    have hhas := rls_has n
    unfold rls at hz
    induction S with
    | nil => unfold tryR at hz; cases hz
    | cons x r ihr =>
      obtain ⟨hx, hr'⟩ := List.pairwise_cons.1 hS
      unfold tryR at hz
      rcases List.sublist_cons_iff.1 hT with h | ⟨t, rfl, h⟩
      · split at hz
        · rename_i y hy
          obtain rfl : x :: y = z := by simpa using hz
          match T, hl, h with
          | b :: t, _, h => exact .inl (hx b (h.subset (List.mem_cons_self ..)))
        · exact ihr hr' h hz
      · split at hz
        · rename_i y hy
          obtain rfl : x :: y = z := by simpa using hz
          exact .inr ⟨rfl, ih _ _ _ _ hr' hy h (by simpa using hl) hr⟩
        · rename_i hn
          have := hhas (tog D [x]) r t h (by simpa using hl) hr
          rw [hn] at this; cases this
theorem rtr_some {D S z : List Bar} : ∀ (f n : Nat), rtrF D S f n = some z → ∃ k, n ≤ k ∧ k < n + f ∧ rls k D S = some z ∧ ∀ j, n ≤ j → j < k → rls j D S = none
  | 0, _, h => by cases h
  | f + 1, n, h => by
    unfold rtrF at h
    split at h
    · rename_i y hy
      obtain rfl : y = z := by simpa using h
      exact ⟨n, Nat.le_refl _, by omega, hy, fun j h1 h2 => by omega⟩
    · rename_i hn
      obtain ⟨k, h1, h2, h3, h4⟩ := rtr_some f (n + 1) h
      refine ⟨k, by omega, by omega, h3, fun j h5 h6 => ?_⟩
      by_cases e : j = n
      · rw [e]; exact hn
      · exact h4 j (by omega) h6
theorem rtr_none {D S : List Bar} : ∀ (f n : Nat), rtrF D S f n = none → ∀ j, n ≤ j → j < n + f → rls j D S = none
  | 0, _, _, _, h1, h2 => by omega
  | f + 1, n, h, j, h1, h2 => by
    unfold rtrF at h
    split at h
    · cases h
    · rename_i hn
      by_cases e : j = n
      · rw [e]; exact hn
      · exact rtr_none f (n + 1) h j (by omega) (by omega)
section
variable {N D : List Bar} (hE : tornE N D = 0) (hl : N.length ≤ 64)
include hE
theorem tz_of {T : List Bar} (hT : T.Sublist (wout N D)) (hr : rdyB (tog D T) = true) : trimE N D T = 0 := by
  rw [trimE_some, if_pos hE, if_pos (some_sub (netE_sub (torn_nets hE).1 (wout_sub N D)) hT), ← rdy_tog (torn_ok hE).dam.sorted, hr]
  rfl
theorem tz_to {T : List Bar} (h : trimE N D T = 0) : T.Sublist (wout N D) ∧ rdyB (tog D T) = true := by
  rw [trimE_some, if_pos hE] at h
  split at h
  · rename_i h1
    obtain ⟨h2, h3⟩ := someE_ok h1
    refine ⟨sub_sorted h2.sorted (wout_sorted (torn_ok hE).net.sorted) h3, ?_⟩
    rw [rdy_tog (torn_ok hE).dam.sorted]
    cases hr : rdyB (addAll D T) with
    | true => rfl
    | false => rw [hr] at h; cases h
  · rename_i h1; exact absurd h h1
include hl
theorem least_two : leastE N D 2 = whenI (rtrF D (wout N D) 3 0).isNone 23 ∧ leastL N D 2 = (rtrF D (wout N D) 3 0).getD [] := by
  have hok := torn_ok hE
  have p1 : leastP N D 2 = 0 := by
    unfold leastP
    rw [hE, show withinI 2 0 4 = 0 from rfl, show decide ((64 : Int) < N.length) = false by simp; omega]; rfl
  have hO : leastO N D 2 = rtrF D (wout N D) 3 0 := trimF_rtrF hok 3 0
  have h1 : leastE N D 2 = whenI (rtrF D (wout N D) 3 0).isNone 23 := by
    unfold leastE
    rw [if_pos p1, hO]
    cases rtrF D (wout N D) 3 0 <;> rfl
  refine ⟨h1, ?_⟩
  unfold leastL
  rw [h1, hO]
  cases rtrF D (wout N D) 3 0 <;> rfl
/-- either there is a least trimming, and it is the first one; or there is none with up to two bars -/
theorem least_facts : (leastE N D 2 = 0 ∧ (leastL N D 2).length ≤ 2 ∧ trimE N D (leastL N D 2) = 0 ∧ ((oddK D).length ≤ 2 * (leastL N D 2).length + 2) ∧ (∀ T, trimE N D T = 0 → (leastL N D 2).length ≤ T.length) ∧ (∀ T, trimE N D T = 0 → T.length = (leastL N D 2).length → lexB (leastL N D 2) T)) ∨
    (leastE N D 2 = 23 ∧ leastL N D 2 = [] ∧ ∀ T, trimE N D T = 0 → 2 < T.length) := by
  obtain ⟨h1, h2⟩ := least_two hE hl
  have hok := torn_ok hE
  rw [h1, h2]
  cases hr : rtrF D (wout N D) 3 0 with
  | none =>
    refine .inr ⟨rfl, rfl, fun T hT => ?_⟩
    obtain ⟨h3, h4⟩ := tz_to hE hT
    rcases Nat.lt_or_ge 2 T.length with h | h
    · exact h
    · have h5 := rls_has T.length D _ T h3 rfl h4
      rw [rtr_none 3 0 hr T.length (by omega) (by omega)] at h5
      cases h5
  | some z =>
    obtain ⟨k, _, h4, h5, h6⟩ := rtr_some 3 0 hr
    obtain ⟨g1, g2, g3⟩ := rls_some k D _ z h5
    refine .inl ⟨rfl, ?_, tz_of hE g1 g3, ?_, fun T hT => ?_, fun T hT hTl => ?_⟩
    · show z.length ≤ 2; omega
    · show _ ≤ 2 * z.length + 2
      rw [g2]
      exact rls_odd k D _ z hok.dam.sorted (fun b hb => (hok.dam.ok b hb).2.2) (fun b hb => (hok.net.ok b (wout_mem.1 hb).1).2.2) h5
    · show z.length ≤ T.length
      obtain ⟨i1, i2⟩ := tz_to hE hT
      rcases Nat.lt_or_ge T.length z.length with h | h
      · have h7 := rls_has T.length D _ T i1 rfl i2
        rw [h6 T.length (by omega) (by omega)] at h7
        cases h7
      · exact h
    · obtain ⟨i1, i2⟩ := tz_to hE hT
      exact rls_first k D _ z T (wout_sorted hok.net.sorted) h5 i1 (by rw [hTl]; exact g2) i2
theorem least_bound (hD : D ≠ []) (h0 : leastE N D 2 = 0) : boundR N D ≤ ((leastL N D 2).length : Int) := by
  have hb : boundR N D = boundN D := by
    unfold boundR
    rw [if_pos]
    unfold noneE
    rw [hE, show decide (D.length = 0) = false by simp; exact hD]
    rfl
  rw [hb]
  rcases least_facts hE hl with ⟨_, _, h3, h4, _, _⟩ | ⟨h, _⟩
  · unfold boundN
    split
    · rename_i h5
      rcases Nat.eq_zero_or_pos (leastL N D 2).length with h6 | h6
      · have h7 := (tz_to hE h3).2
        rw [List.eq_nil_of_length_eq_zero h6] at h7
        have := rdy_odd (D := D) h7
        omega
      · omega
    · rename_i h5
      by_cases h8 : (oddK D).length = 1
      · rw [h8, show (((1 : Nat) : Int) - 2).tdiv 2 = 0 by decide]; omega
      · rw [Int.tdiv_eq_ediv_of_nonneg (by omega)]; omega
  · rw [h] at h0; cases h0
omit hl
theorem rule_walk : ∀ (f : Nat) (D' out z : List Bar), D'.Pairwise bltP → (∀ x, x ∈ D' ↔ x ∈ D ∨ x ∈ out) → out.Pairwise bltP → (∀ x ∈ out, x ∈ wout N D) → ruleF N f D' out = some z → z.Pairwise bltP ∧ (∀ x ∈ z, x ∈ wout N D) ∧ rdyB (tog D z) = true ∧ z.length < out.length + f
  | 0, _, _, _, _, _, _, _, h => by cases h
  | f + 1, D', out, z, h1, h2, h3, h4, h => by
    unfold ruleF at h
    split at h
    · rename_i hr
      obtain rfl : out = z := by simpa using h
      refine ⟨h3, h4, ?_, by omega⟩
      have : tog D out = D' := sortedB_eq (tog_sorted _ _ (torn_ok hE).dam.sorted) h1 fun x => by rw [tog_mem, h2]
      rw [this]; exact hr
    · split at h
      · cases h
      · rename_i b hb
        have hbm := wout_mem.1 (chosen_mem hb)
        have hbD : b ∉ D := fun hm => hbm.2 ((h2 b).2 (.inl hm))
        have hbo : b ∉ out := fun hm => hbm.2 ((h2 b).2 (.inr hm))
        have := rule_walk f (tog D' [b]) (insB out b) z (tog_sorted _ _ h1) (fun x => by
          rw [tog_one, h2, insB_mem]
          constructor
          · rintro ((h | h) | h)
            · exact .inl h
            · exact .inr (.inr h)
            · exact .inr (.inl h)
          · rintro (h | h | h)
            · exact .inl (.inl h)
            · exact .inr h
            · exact .inl (.inr h)) (insB_sorted h3 hbo) (fun x hx => by
          rcases (insB_mem b x out).1 hx with rfl | hx
          · exact wout_mem.2 ⟨hbm.1, hbD⟩
          · exact h4 x hx) h
        refine ⟨this.1, this.2.1, this.2.2.1, ?_⟩
        have h9 := this.2.2.2
        rw [insB_len] at h9
        omega
theorem rule_facts : (ruleE N D = 0 ∧ trimE N D (ruleL N D) = 0 ∧ (ruleL N D).length ≤ 32) ∨ (ruleE N D = 23 ∧ ruleL N D = []) := by
  have hok := torn_ok hE
  unfold ruleL ruleE
  rw [if_pos hE]
  cases hr : ruleO N D with
  | none => exact .inr ⟨rfl, rfl⟩
  | some z =>
    obtain ⟨h1, h2, h3, h4⟩ := rule_walk hE 33 D [] z hok.dam.sorted (fun x => by simp) List.Pairwise.nil (by simp) hr
    refine .inl ⟨rfl, ?_, ?_⟩
    · show trimE N D z = 0
      exact tz_of hE (sub_sorted h1 (wout_sorted hok.net.sorted) h2) h3
    · show z.length ≤ 32
      simp at h4
      omega
end
/-- no other list of as many bars that comes before the least trimming in its last bar is a trimming -/
theorem least_before {L : List Bar} {x y0 yl : Bar} (hlen : L.length ≤ 2) (h0 : L.head? = some y0) (hl : L.getLast? = some yl) (hx : bltP x yl) (hne : x ≠ y0) : ¬ lexB L (insB L.dropLast x) := by
  match L, hlen with
  | [], _ => cases h0
  | [a], _ =>
    obtain rfl : a = yl := by simpa using hl
    show ¬ (bltP a x ∨ (a = x ∧ True))
    rintro (h | ⟨rfl, _⟩)
    · exact bltP_irrefl _ (bltP_trans h hx)
    · exact bltP_irrefl _ hx
  | [a, b], _ =>
    obtain rfl : a = y0 := by simpa using h0
    obtain rfl : b = yl := by simpa using hl
    show ¬ lexB [a, b] (insB [a] x)
    unfold insB
    split
    · unfold insB
      show ¬ (bltP a a ∨ (a = a ∧ (bltP b x ∨ (b = x ∧ True))))
      rintro (h | ⟨_, h | ⟨rfl, _⟩⟩)
      · exact bltP_irrefl _ h
      · exact bltP_irrefl _ (bltP_trans h hx)
      · exact bltP_irrefl _ hx
    · rename_i hn
      show ¬ (bltP a x ∨ (a = x ∧ _))
      rintro (h | ⟨rfl, _⟩)
      · exact hn h
      · exact hne rfl
end Go.Proofs.YthcnngoaijgnoaaGreat

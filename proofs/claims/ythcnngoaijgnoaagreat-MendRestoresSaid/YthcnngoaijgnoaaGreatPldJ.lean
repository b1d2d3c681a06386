/- Sums over a hole's knots, parts of a net, and one bar less: plain. Conditions: bars within bounds, each once. -/
import Derived.Test.YthcnngoaijgnoaaGreatK11
import Derived.Test.YthcnngoaijgnoaaGreatPlcJ
namespace Go.Proofs.YthcnngoaijgnoaaGreat

/-! ## the numbers of missing bars add up -/
theorem sum_add {α : Type} (f g : α → Nat) : ∀ l : List α, (l.map fun a => f a + g a).sum = (l.map f).sum + (l.map g).sum
  | [] => rfl
  | a :: l => by simp only [List.map_cons, List.sum_cons, sum_add f g l]; omega
theorem sum_zero {α : Type} : ∀ l : List α, (l.map fun _ => 0).sum = 0
  | [] => rfl
  | a :: l => by simp only [List.map_cons, List.sum_cons, sum_zero l]
theorem sum_notin {α : Type} [DecidableEq α] {x : α} : ∀ {l : List α}, x ∉ l → (l.map fun y => if y = x then 1 else 0).sum = 0
  | [], _ => rfl
  | a :: l, h => by
    simp only [List.mem_cons, not_or] at h
    simp only [List.map_cons, List.sum_cons, sum_notin h.2, if_neg (fun e => h.1 (Eq.symm e))]
theorem sum_one {α : Type} [DecidableEq α] {x : α} : ∀ {l : List α}, l.Nodup → x ∈ l → (l.map fun y => if y = x then 1 else 0).sum = 1
  | a :: l, hn, h => by
    rw [List.nodup_cons] at hn
    simp only [List.map_cons, List.sum_cons]
    by_cases e : a = x
    · subst e; rw [if_pos rfl, sum_notin hn.1]
    · rw [if_neg e, sum_one hn.2 ((List.mem_cons.1 h).resolve_left fun h' => e h'.symm)]
/-- a bar's share in the number of a knot -/
def shr (b : Bar) (k : Knot) : Nat := (if k = lowK b then 1 else 0) + (if k = uppK b then 1 else 0)
theorem cnt_decide (D : List Bar) (k : Knot) : cnt (legsAt D k) = (if armB k 0 ∈ D then 1 else 0) + (if armB k 1 ∈ D then 1 else 0) + (if armB k 2 ∈ D then 1 else 0) + (if armB k 3 ∈ D then 1 else 0) := by
  unfold cnt legsAt
  by_cases h0 : armB k 0 ∈ D <;> by_cases h1 : armB k 1 ∈ D <;> by_cases h2 : armB k 2 ∈ D <;> by_cases h3 : armB k 3 ∈ D <;> simp [h0, h1, h2, h3]
theorem mem_one {b x : Bar} {D : List Bar} (hb : b ∉ D) : (if x ∈ b :: D then 1 else 0) = (if x ∈ D then 1 else 0) + (if x = b then 1 else (0 : Nat)) := by
  by_cases e : x = b
  · subst e; simp [hb]
  · simp [e]
theorem shr_arms {b : Bar} (hb : Sided b) (k : Knot) : (if armB k 0 = b then 1 else 0) + (if armB k 1 = b then 1 else 0) + (if armB k 2 = b then 1 else 0) + (if armB k 3 = b then 1 else (0 : Nat)) = shr b k := by
  obtain ⟨x, y, s⟩ := b
  obtain ⟨p, q⟩ := k
  unfold shr armB lowK uppK
  unfold Sided at hb
  simp only [Prod.mk.injEq] at *
  rcases hb with rfl | rfl
  · have e0 : ¬ (p = x ∧ q = y ∧ (-1 : Int) = 1) := by omega
    have e3 : ¬ (p + 1 = x ∧ q - 1 = y ∧ (-1 : Int) = 1) := by omega
    rw [if_neg e0, if_neg e3]
    by_cases h1 : p = x ∧ q = y
    · rw [if_pos (by omega), if_neg (by omega), if_pos h1, if_neg (by omega)]
    · by_cases h2 : p = x + 1 ∧ q = y + 1
      · rw [if_neg (by omega), if_pos (by omega), if_neg h1, if_pos h2]
      · rw [if_neg (by omega), if_neg (by omega), if_neg h1, if_neg h2]
  · have e1 : ¬ (p = x ∧ q = y ∧ (1 : Int) = -1) := by omega
    have e2 : ¬ (p - 1 = x ∧ q - 1 = y ∧ (1 : Int) = -1) := by omega
    rw [if_neg e1, if_neg e2]
    by_cases h1 : p = x ∧ q = y
    · rw [if_pos (by omega), if_neg (by omega), if_pos h1, if_neg (by omega)]
    · by_cases h2 : p = x + -1 ∧ q = y + 1
      · rw [if_neg (by omega), if_pos (by omega), if_neg h1, if_pos h2]
      · rw [if_neg (by omega), if_neg (by omega), if_neg h1, if_neg h2]
theorem cnt_cons {b : Bar} {D : List Bar} (hs : Sided b) (hb : b ∉ D) (k : Knot) : cnt (legsAt (b :: D) k) = cnt (legsAt D k) + shr b k := by
  rw [cnt_decide, cnt_decide, ← shr_arms hs, mem_one hb, mem_one hb, mem_one hb, mem_one hb]
  omega
theorem sum_cnt {H : List Knot} (hH : H.Nodup) : ∀ {D : List Bar}, D.Nodup → (∀ b ∈ D, Sided b) → (∀ b ∈ D, lowK b ∈ H ∧ uppK b ∈ H) → (H.map fun k => cnt (legsAt D k)).sum = 2 * D.length
  | [], _, _, _ => by
    rw [show (fun k => cnt (legsAt [] k)) = fun _ => 0 from funext fun k => by rw [cnt_decide]; simp]
    exact sum_zero H
  | b :: D, hn, hs, hm => by
    rw [List.nodup_cons] at hn
    have hb := hm b (List.mem_cons_self ..)
    rw [show (fun k => cnt (legsAt (b :: D) k)) = fun k => cnt (legsAt D k) + ((if k = lowK b then 1 else 0) + (if k = uppK b then 1 else 0)) from funext fun k => cnt_cons (hs b (List.mem_cons_self ..)) hn.1 k]
    rw [sum_add, sum_add (fun k => if k = lowK b then 1 else 0), sum_one hH hb.1, sum_one hH hb.2, sum_cnt hH hn.2 (fun x hx => hs x (List.mem_cons_of_mem _ hx)) (fun x hx => hm x (List.mem_cons_of_mem _ hx))]
    simp only [List.length_cons]
    omega
theorem holeK_nodup (D : List Bar) : (holeK D).Nodup := (holeK_sorted D).imp fun hab e => by subst e; exact kltP_irr _ hab
theorem hole_sum {D : List Bar} (hn : D.Nodup) (hs : ∀ b ∈ D, Sided b) : ((holeK D).map fun k => cnt (legsAt D k)).sum = 2 * D.length :=
  sum_cnt (holeK_nodup D) hn hs fun b hb => ⟨(holeIn_mem _ D []).2 (Or.inr ⟨b, hb, Or.inl rfl⟩), (holeIn_mem _ D []).2 (Or.inr ⟨b, hb, Or.inr rfl⟩)⟩
theorem filter_parity {α : Type} (f : α → Nat) : ∀ l : List α, (l.filter fun a => f a % 2 == 1).length % 2 = (l.map f).sum % 2
  | [] => rfl
  | a :: l => by
    have := filter_parity f l
    rw [List.filter_cons, List.map_cons, List.sum_cons]
    by_cases h : f a % 2 = 1
    · rw [if_pos (by simpa using h), List.length_cons]; omega
    · rw [if_neg (by simpa using h)]; omega
theorem odd_even {D : List Bar} (hn : D.Nodup) (hs : ∀ b ∈ D, Sided b) : (oddK D).length % 2 = 0 := by
  have := filter_parity (fun k => cnt (legsAt D k)) (holeK D)
  rw [hole_sum hn hs] at this
  have e : oddK D = (holeK D).filter fun k => cnt (legsAt D k) % 2 == 1 := rfl
  rw [e, this]
  omega

/-! ## parts of a net -/
theorem netGo_all : ∀ (l : List Bar) (p : Option Bar), netGo p l = 0 → ∀ b ∈ l, barE b.1 b.2.1 b.2.2 = 0
  | [], _, _ => fun _ h => by cases h
  | b :: r, p, h => by
    unfold netGo at h
    split at h
    · rename_i h1; exact absurd h h1
    · rename_i h1
      split at h
      · cases h
      · intro c hc
        rcases List.mem_cons.1 hc with rfl | hc
        · simpa using h1
        · exact netGo_all r _ h c hc
theorem netGo_of : ∀ (l : List Bar) (p : Option Bar), (∀ b ∈ l, barE b.1 b.2.1 b.2.2 = 0) → l.Pairwise bltP → (∀ q, p = some q → ∀ b ∈ l, bltP q b) → netGo p l = 0
  | [], _, _, _, _ => by unfold netGo; rfl
  | b :: r, p, h1, h2, h3 => by
    rw [List.pairwise_cons] at h2
    unfold netGo
    rw [if_neg (by rw [h1 b (List.mem_cons_self ..)]; simp), if_neg ?_]
    · exact netGo_of r _ (fun c hc => h1 c (List.mem_cons_of_mem _ hc)) h2.2 fun q hq c hc => by cases hq; exact h2.1 c hc
    · cases p with
      | none => simp
      | some q =>
        have := h3 q rfl b (List.mem_cons_self ..)
        unfold bltP at this
        simp [this]
theorem netE_sub {D l : List Bar} (h : netE D = 0) (hs : l.Sublist D) : netE l = 0 := by
  have hok := netE_ok h
  have hl := hs.length_le
  unfold netE at h ⊢
  rw [if_neg (by have := hok.len; omega)] at h
  rw [if_neg (by have := hok.len; omega)]
  exact netGo_of l none (fun b hb => netGo_all D none h b (hs.subset hb)) (hok.sorted.sublist hs) fun q hq => by cases hq
theorem unk_sub {l D : List Bar} (h : ∀ b ∈ l, b ∈ D) : unk l D = false := by
  unfold unk
  rw [List.any_eq_false]
  intro b hb
  simp [hasb, h b hb]
theorem torn_nets {N D : List Bar} (h : tornE N D = 0) : netE N = 0 ∧ netE D = 0 := by
  have := firstI_zero3 h
  exact ⟨this.1, this.2.1⟩
theorem patch_sub {N D P : List Bar} (h : tornE N D = 0) (hs : P.Sublist D) : patchE N D P = 0 := by
  have h1 := netE_sub (torn_nets h).2 hs
  have h2 : netsE N D P = 0 := by
    show firstI [tornE N D, netE P] = 0
    rw [firstI_two, if_pos h, h1]
  unfold patchE
  rw [if_pos h2, unk_sub fun b hb => hs.subset hb]
  rfl
theorem some_sub {D P : List Bar} (h : netE D = 0) (hs : P.Sublist D) : someE P D = 0 := by
  unfold someE
  rw [if_pos (netE_sub h hs), unk_sub fun b hb => hs.subset hb]
  rfl
theorem wout_nil (D : List Bar) : wout D [] = D := by
  unfold wout
  rw [List.filter_eq_self]
  intro b _
  simp [hasb]
theorem wout_self (D : List Bar) : wout D D = [] := by
  unfold wout
  rw [List.filter_eq_nil_iff]
  intro b hb
  simp [hasb, hb]
theorem filter_two {α : Type} (p : α → Bool) : ∀ l : List α, (l.filter p).length + (l.filter fun a => !p a).length = l.length
  | [] => rfl
  | a :: l => by
    have := filter_two p l
    rw [List.filter_cons, List.filter_cons]
    cases p a <;> simp <;> omega
theorem wout_length {D P : List Bar} (hD : D.Nodup) (hP : P.Nodup) (hs : ∀ b ∈ P, b ∈ D) : (wout D P).length + P.length = D.length := by
  have h1 := filter_two (hasb P) D
  have h2 : P.length = (D.filter (hasb P)).length := same_len hP (hD.filter _) fun b => by
    rw [List.mem_filter]
    simp only [hasb, decide_eq_true_eq]
    exact ⟨fun h => ⟨hs b h, h⟩, fun h => h.2⟩
  have h3 : wout D P = D.filter fun a => !hasb P a := rfl
  rw [h3]
  omega
theorem rdy_none : rdyB [] = false := by
  cases h : rdyB []
  · rfl
  · have := rdy_odd h
    cases this

/-! ## one bar less -/
theorem odd_less {D D' : List Bar} {b : Bar} (hs : ∀ x ∈ D, Sided x) (hn : D.Nodup) (h : ∀ x, x ∈ D' ↔ x ∈ D ∧ x ≠ b) : (oddK D).length ≤ (oddK D').length + 2 ∧ (oddK D').length ≤ (oddK D).length + 2 := by
  have hs' : ∀ x ∈ D', Sided x := fun x hx => hs x ((h x).1 hx).1
  have e : legsAt D' = legsAt (dset D b false) := legsAt_congr fun x => by
    rw [h, dset_mem hn]
    by_cases e : x = b <;> simp [e]
  have key : ∀ k, k ≠ lowK b → k ≠ uppK b → legsAt D' k = legsAt D k := fun k h1 h2 => by rw [e]; exact legsAt_other hn h1 h2 false
  have c1 := length_le_of_sub (l := oddK D) (D := oddK D' ++ [lowK b, uppK b]) (oddK_nodup D) (fun k hk => by
    by_cases h1 : k = lowK b
    · simp [h1]
    · by_cases h2 : k = uppK b
      · simp [h2]
      · exact List.mem_append_left _ ((oddK_mem hs').2 (by rw [key k h1 h2]; exact (oddK_mem hs).1 hk)))
  have c2 := length_le_of_sub (l := oddK D') (D := oddK D ++ [lowK b, uppK b]) (oddK_nodup D') (fun k hk => by
    by_cases h1 : k = lowK b
    · simp [h1]
    · by_cases h2 : k = uppK b
      · simp [h2]
      · exact List.mem_append_left _ ((oddK_mem hs).2 (by rw [← key k h1 h2]; exact (oddK_mem hs').1 hk)))
  simp only [List.length_append, List.length_cons, List.length_nil] at c1 c2
  omega
end Go.Proofs.YthcnngoaijgnoaaGreat

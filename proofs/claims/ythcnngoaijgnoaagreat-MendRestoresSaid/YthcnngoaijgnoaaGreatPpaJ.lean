/- What the statement MendParity reckons of the kinds of a hole's knots: plain. Conditions: bars within bounds, each once. -/
import Derived.Test.YthcnngoaijgnoaaGreatK11
import Derived.Test.YthcnngoaijgnoaaGreatPldJ
namespace Go.Proofs.YthcnngoaijgnoaaGreat

theorem leg_cases : ∀ a b c d, (a, b, c, d) ≠ noLegs → (cnt (a, b, c, d) = 1 ∧ kix (a, b, c, d) = 0) ∨ (cnt (a, b, c, d) = 2 ∧ (kix (a, b, c, d) = 3 ∨ kix (a, b, c, d) = 4 ∨ kix (a, b, c, d) = 5)) ∨ (cnt (a, b, c, d) = 3 ∧ kix (a, b, c, d) = 1) ∨ (cnt (a, b, c, d) = 4 ∧ kix (a, b, c, d) = 2) := by decide
theorem leg_cases' {l : Legs} (h : l ≠ noLegs) : (cnt l = 1 ∧ kix l = 0) ∨ (cnt l = 2 ∧ (kix l = 3 ∨ kix l = 4 ∨ kix l = 5)) ∨ (cnt l = 3 ∧ kix l = 1) ∨ (cnt l = 4 ∧ kix l = 2) := by
  obtain ⟨a, b, c, d⟩ := l
  exact leg_cases a b c d h
/-- how many of the first k are odd, and their sum -/
def ocL (l : List LegT) (k : Nat) : Nat := ((l.take k).filter fun x => x.2.1 % 2 == 1).length
def scL (l : List LegT) (k : Nat) : Nat := ((l.take k).map (·.2.1)).sum
theorem ocL_succ {l : List LegT} {k : Nat} (hk : k < l.length) : ocL l (k + 1) = ocL l k + if l[k].2.1 % 2 = 1 then 1 else 0 := by
  unfold ocL
  rw [List.take_succ_eq_append_getElem hk, List.filter_append, List.length_append]
  by_cases h : l[k].2.1 % 2 = 1 <;> simp [h]
theorem scL_succ {l : List LegT} {k : Nat} (hk : k < l.length) : scL l (k + 1) = scL l k + l[k].2.1 := by
  unfold scL
  rw [List.take_succ_eq_append_getElem hk, List.map_append, List.sum_append]
  simp
theorem filter_at {α : Type} (p : α → Bool) {l : List α} {k : Nat} (hk : k < l.length) (hp : p l[k] = true) : (l.filter p)[((l.take k).filter p).length]? = some l[k] := by
  have e : l = l.take k ++ l[k] :: l.drop (k + 1) := by rw [← List.drop_eq_getElem_cons hk, List.take_append_drop]
  conv => lhs; rw [e]
  rw [List.filter_append, List.filter_cons, if_pos hp]
  have h1 : ((l.take k).filter p).length = ((List.take k (l.take k ++ l[k] :: l.drop (k + 1))).filter p).length := by rw [← e]
  rw [← h1, List.getElem?_append_right (Nat.le_refl _), Nat.sub_self]
  rfl
structure ParL (l : List LegT) (O : List Knot) (n : Nat) : Prop where
  kind : ∀ k (h : k < l.length), (l[k].2.1 = 1 ∧ l[k].2.2 = 0) ∨ (l[k].2.1 = 2 ∧ (l[k].2.2 = 3 ∨ l[k].2.2 = 4 ∨ l[k].2.2 = 5)) ∨ (l[k].2.1 = 3 ∧ l[k].2.2 = 1) ∨ (l[k].2.1 = 4 ∧ l[k].2.2 = 2)
  asc : ∀ k (h : k + 1 < l.length), kltP l[k].1 l[k + 1].1
  odd : ∀ k (h : k < l.length), l[k].2.1 % 2 = 1 → O[ocL l k]? = some l[k].1
  odds : ocL l l.length = O.length
  sum : scL l l.length = 2 * n
theorem ParL.sc_le {l : List LegT} {O : List Knot} {n : Nat} (h : ParL l O n) : ∀ k, k ≤ l.length → scL l k ≤ 4 * k
  | 0, _ => by simp [scL]
  | k + 1, hk => by
    have ih := ParL.sc_le h k (by omega)
    rw [scL_succ (show k < l.length by omega)]
    have := h.kind k (by omega)
    omega
theorem ocL_le (l : List LegT) (k : Nat) : ocL l k ≤ k := by
  unfold ocL
  have h1 := List.length_filter_le (fun x : LegT => x.2.1 % 2 == 1) (l.take k)
  have h2 := List.length_take_le k l
  omega
theorem filter_map_len {α β : Type} (f : α → β) (p : β → Bool) : ∀ l : List α, ((l.map f).filter p).length = (l.filter fun a => p (f a)).length
  | [] => rfl
  | a :: l => by
    have := filter_map_len f p l
    rw [List.map_cons, List.filter_cons, List.filter_cons]
    split <;> simp [this]
theorem par_ok {D : List Bar} (hn : D.Nodup) (hs : ∀ b ∈ D, Sided b) : ParL ((holeK D).map (legOf D)) (oddK D) D.length := by
  have ho : oddK D = (holeK D).filter fun k => cnt (legsAt D k) % 2 == 1 := rfl
  refine ⟨fun k h => ?_, fun k h => ?_, fun k h hc => ?_, ?_, ?_⟩
  · rw [List.length_map] at h
    rw [List.getElem_map]
    exact leg_cases' ((holeK_mem hs _).1 (List.getElem_mem h))
  · rw [List.length_map] at h
    rw [List.getElem_map, List.getElem_map]
    exact List.pairwise_iff_getElem.1 (holeK_sorted D) k (k + 1) (by omega) h (by omega)
  · rw [List.length_map] at h
    rw [List.getElem_map] at hc ⊢
    have hc' : cnt (legsAt D (holeK D)[k]) % 2 = 1 := hc
    have := filter_at (fun k => cnt (legsAt D k) % 2 == 1) h (by simpa using hc')
    rw [ho]
    unfold ocL
    rw [← List.map_take, filter_map_len]
    exact this
  · unfold ocL
    rw [List.take_length, filter_map_len, ho]
    rfl
  · unfold scL
    rw [List.take_length, List.map_map]
    exact hole_sum hn hs
end Go.Proofs.YthcnngoaijgnoaaGreat

/- Bars taken away in a drawn order, plain. Conditions: the net is in its order. -/
import Derived.Test.YtpoaomdpcoaolaaC19
import Derived.Test.YtpoaomdpcoaolaaC18
import Derived.Test.YtpoaomdpcoaolaaC14
namespace Go.Proofs.Ytpoaomdpcoaolaa
open Go.RowKit Go.ChangeMaps
set_option maxHeartbeats 4000000
set_option maxRecDepth 100000

/-! ## lists of numbers mixed -/
theorem swpL_perm {l : List Int} {i k : Nat} (hi : i < l.length) (hk : k < l.length) : (swpL l i k).Perm l := by
  unfold swpL
  have e1 : l.getD k 0 = l[k] := by simp [List.getD, hk]
  have e2 : l.getD i 0 = l[i] := by simp [List.getD, hi]
  rw [e1, e2]
  exact List.set_set_perm hi hk
theorem drawF_perm : ∀ (t : Nat) (X : Int) (l : List Int), t + 1 ≤ l.length ∨ t = 0 → (drawF t X l).Perm l
  | 0, X, l, _ => by rw [drawF]
  | t + 1, X, l, h => by
    have hl : t + 2 ≤ l.length := by omega
    have hm := Int.emod_nonneg (drawX X) (show ((t : Int) + 2) ≠ 0 by omega)
    have hm2 := Int.emod_lt_of_pos (drawX X) (show (0 : Int) < (t : Int) + 2 by omega)
    rw [drawF]
    exact (drawF_perm t _ _ (.inl (by rw [swpL_len]; omega))).trans (swpL_perm (by omega) (by omega))
theorem iotaL_mem (x : Int) : ∀ n, x ∈ iotaL n ↔ 0 ≤ x ∧ x < n
  | 0 => by simp only [iotaL, List.not_mem_nil, false_iff]; omega
  | n + 1 => by
    rw [iotaL, List.mem_append, iotaL_mem x n, List.mem_singleton]
    omega
theorem iotaL_nodup : ∀ n, (iotaL n).Nodup
  | 0 => by simp [iotaL]
  | n + 1 => by
    rw [iotaL, List.nodup_append]
    refine ⟨iotaL_nodup n, by simp, fun x hx y hy e => ?_⟩
    have := (iotaL_mem x n).1 hx
    simp at hy
    omega
theorem drawL_perm (key : Int) (n : Nat) : (drawL key n).Perm (iotaL n) := drawF_perm _ _ _ (by rw [iotaL_len]; omega)
theorem drawL_nodup (key : Int) (n : Nat) : (drawL key n).Nodup := (drawL_perm key n).nodup_iff.2 (iotaL_nodup n)
theorem drawL_in {key : Int} {n : Nat} {x : Int} (h : x ∈ drawL key n) : 0 ≤ x ∧ x < n := (iotaL_mem x n).1 ((drawL_perm key n).mem_iff.1 h)
theorem drawL_length (key : Int) (n : Nat) : (drawL key n).length = n := by rw [(drawL_perm key n).length_eq, iotaL_len]
theorem nodup_inj {α : Type} {l : List α} (h : l.Nodup) {i j : Nat} (hi : i < l.length) (hj : j < l.length) (e : l[i] = l[j]) : i = j := by
  rcases Nat.lt_trichotomy i j with q | q | q
  · exact absurd e (List.pairwise_iff_getElem.1 h i j hi hj q)
  · exact q
  · exact absurd e.symm (List.pairwise_iff_getElem.1 h j i hj hi q)
/-! ## bars taken away one by one -/
/-- what is left when the bars with the first numbers are taken away -/
def wornL (l : List Bar) (o : List Int) : List Bar := l.filter fun b => !decide (∃ i ∈ o, l[i.toNat]? = some b)
theorem wornL_mem (l : List Bar) (o : List Int) (b : Bar) : b ∈ wornL l o ↔ b ∈ l ∧ ∀ i ∈ o, l[i.toNat]? ≠ some b := by
  unfold wornL
  rw [List.mem_filter]
  simp
theorem wornL_nil (l : List Bar) : wornL l [] = l := by unfold wornL; simp
theorem wornL_sorted {l : List Bar} (hs : l.Pairwise bltP) (o : List Int) : (wornL l o).Pairwise bltP := hs.filter _
structure OrderOk (l : List Bar) (o : List Int) : Prop where
  nodup : o.Nodup
  inn : ∀ i ∈ o, 0 ≤ i ∧ i < l.length
  len : o.length = l.length
theorem order_draw (l : List Bar) (key : Int) : OrderOk l (drawL key l.length) := ⟨drawL_nodup _ _, fun _ h => drawL_in h, drawL_length _ _⟩
theorem worn_next {l : List Bar} {o : List Int} (hs : l.Pairwise bltP) (ho : OrderOk l o) {k : Nat} (hk : k < o.length) : ∃ hi : (o[k]).toNat < l.length,
    l[(o[k]).toNat] ∈ wornL l (o.take k) ∧ wornL l (o.take (k + 1)) = wout (wornL l (o.take k)) [l[(o[k]).toNat]] ∧ setB (wornL l (o.take (k + 1)) ++ [l[(o[k]).toNat]]) = wornL l (o.take k) := by
  have hm := ho.inn _ (List.getElem_mem hk)
  have hi : (o[k]).toNat < l.length := by omega
  have hin : l[(o[k]).toNat] ∈ wornL l (o.take k) := (wornL_mem _ _ _).2 ⟨List.getElem_mem hi, fun i hiT e => by
    obtain ⟨j, hj, rfl⟩ := List.mem_take_iff_getElem.1 hiT
    have hjl : j < o.length := by omega
    have hmj := ho.inn _ (List.getElem_mem hjl)
    have hlt : (o[j]).toNat < l.length := by omega
    rw [List.getElem?_eq_getElem hlt] at e
    have e2 := nodup_inj (sortedB_nodup hs) hlt hi (Option.some.inj e)
    have e3 : o[j] = o[k] := by omega
    have := nodup_inj ho.nodup hjl hk e3
    omega⟩
  have hnext : wornL l (o.take (k + 1)) = wout (wornL l (o.take k)) [l[(o[k]).toNat]] := by
    refine sortedB_eq (wornL_sorted hs _) ((wornL_sorted hs _).filter _) fun b => ?_
    rw [wout_mem, wornL_mem, wornL_mem, List.take_succ_eq_append_getElem hk]
    simp only [List.mem_append, List.mem_singleton]
    constructor
    · rintro ⟨h1, h2⟩
      exact ⟨⟨h1, fun i hi => h2 i (.inl hi)⟩, fun e => h2 _ (.inr rfl) (by rw [List.getElem?_eq_getElem hi, e])⟩
    · rintro ⟨⟨h1, h2⟩, h3⟩
      refine ⟨h1, fun i hi' => hi'.elim (h2 i) ?_⟩
      rintro rfl
      rw [List.getElem?_eq_getElem hi]
      exact fun e => h3 (Option.some.inj e).symm
  refine ⟨hi, hin, hnext, ?_⟩
  refine sortedB_eq (setB_sorted _) (wornL_sorted hs _) fun b => ?_
  rw [setB_mem, List.mem_append, hnext, wout_mem, List.mem_singleton]
  constructor
  · rintro (h | rfl)
    · exact h.1
    · exact hin
  · intro h
    by_cases e : b = l[(o[k]).toNat]
    · exact .inr e
    · exact .inl ⟨h, by simpa using e⟩
theorem worn_len {l : List Bar} {o : List Int} (hs : l.Pairwise bltP) (ho : OrderOk l o) : ∀ k, k ≤ o.length → (wornL l (o.take k)).length + k = l.length
  | 0, _ => by rw [List.take_zero, wornL_nil]; rfl
  | k + 1, h => by
    have ih := worn_len hs ho k (by omega)
    obtain ⟨hi, h1, h2, _⟩ := worn_next hs ho (k := k) (by omega)
    have := (less_one (wornL_sorted hs _) h1).1
    rw [h2]
    omega
theorem worn_all {l : List Bar} {o : List Int} (hs : l.Pairwise bltP) (ho : OrderOk l o) : wornL l (o.take o.length) = [] := by
  have := worn_len hs ho o.length (Nat.le_refl _)
  have := ho.len
  exact List.eq_nil_of_length_eq_zero (by omega)
end Go.Proofs.Ytpoaomdpcoaolaa

/- Sets of bars, plain. Conditions: the nets are in their order. -/
import Derived.Test.YtkmjcoofkgpanaaGreatDoorB21
import Derived.Test.YtkmjcoofkgpanaaGreatDoorPmaJ
import Derived.Test.YtkmjcoofkgpanaaGreatDoorB11
import Derived.Test.YtkmjcoofkgpanaaGreatDoorPmbJ
import Derived.Test.YtkmjcoofkgpanaaGreatDoorB09
namespace Go.Proofs.YtkmjcoofkgpanaaGreatDoor
open Go.RowKit Go.ChangeMaps
set_option maxHeartbeats 4000000
set_option maxRecDepth 100000

theorem netGo_zero : ∀ (l : List Bar) (p : Option Bar), (∀ b ∈ l, barE b.1 b.2.1 b.2.2 = 0) → l.Pairwise bltP → (∀ q, p = some q → ∀ b ∈ l, bltP q b) → netGo p l = 0
  | [], p, _, _, _ => by cases p <;> rfl
  | b :: r, p, h1, h2, h3 => by
    rw [netGo, if_neg (by have := h1 b (by simp); omega)]
    have hr : netGo (some b) r = 0 := netGo_zero r (some b) (fun c hc => h1 c (by simp [hc])) (List.pairwise_cons.1 h2).2 (fun q hq c hc => by
      obtain rfl : b = q := by simpa using hq
      exact (List.pairwise_cons.1 h2).1 c hc)
    rw [hr]
    cases p with
    | none => rfl
    | some q =>
      have : barLt q.1 q.2.1 q.2.2 b.1 b.2.1 b.2.2 = true := h3 q rfl b (by simp)
      simp [this]
theorem netE_zero {l : List Bar} (h1 : ∀ b ∈ l, barE b.1 b.2.1 b.2.2 = 0) (h2 : l.Pairwise bltP) (h3 : l.length ≤ 4096) : netE l = 0 := by
  unfold netE
  rw [if_neg (by omega)]
  exact netGo_zero l none h1 h2 (fun q h => by cases h)
theorem netGo_bars : ∀ (l : List Bar) (p : Option Bar), netGo p l = 0 → ∀ b ∈ l, barE b.1 b.2.1 b.2.2 = 0
  | [], _, _, b, hb => by simp at hb
  | c :: r, p, h, b, hb => by
    rw [netGo] at h
    split at h
    · rename_i hc; exact absurd h hc
    · rename_i hc
      split at h
      · cases h
      · rcases List.mem_cons.1 hb with rfl | hb
        · exact Decidable.not_not.1 hc
        · exact netGo_bars r _ h b hb
theorem netE_bars {l : List Bar} (h : netE l = 0) : ∀ b ∈ l, barE b.1 b.2.1 b.2.2 = 0 := by
  unfold netE at h
  split at h
  · cases h
  · exact netGo_bars l none h
/-- a list of some of a net's bars, in their order, is a net -/
theorem netE_sub {l r : List Bar} (h : netE l = 0) (hs : r.Pairwise bltP) (hm : ∀ b ∈ r, b ∈ l) : netE r = 0 :=
  netE_zero (fun b hb => netE_bars h b (hm b hb)) hs (Nat.le_trans (length_le_of_sub (sortedB_nodup hs) hm) (netE_ok h).len)
/-! ## sets of bars -/
theorem union_len {a b : List Bar} (ha : a.Nodup) (hb : b.Nodup) : (setB (a ++ b)).length + (meetL a b).length = a.length + b.length := by
  have h1 : (setB (a ++ b)).length = (a ++ wout b a).length := by
    refine Nat.le_antisymm (length_le_of_sub (sortedB_nodup (setB_sorted _)) fun x hx => ?_) (length_le_of_sub ?_ fun x hx => ?_)
    · rw [setB_mem, List.mem_append] at hx
      rw [List.mem_append]
      by_cases h : x ∈ a
      · exact .inl h
      · exact .inr (List.mem_filter.2 ⟨hx.resolve_left h, by simp [hasb, h]⟩)
    · rw [List.nodup_append]
      refine ⟨ha, hb.filter _, fun x hx y hy e => ?_⟩
      subst e
      have := (List.mem_filter.1 hy).2
      simp [hasb, hx] at this
    · rw [setB_mem, List.mem_append]
      exact (List.mem_append.1 hx).imp id fun h => (List.mem_filter.1 h).1
  have h2 : (meetL a b).length = (meetL b a).length := by
    refine Nat.le_antisymm (length_le_of_sub (ha.filter _) fun x hx => ?_) (length_le_of_sub (hb.filter _) fun x hx => ?_) <;>
    · unfold meetL hasb at *
      simp only [List.mem_filter, decide_eq_true_eq] at *
      exact ⟨hx.2, hx.1⟩
  have h3 := split_len (fun x => hasb a x) b
  rw [h1, h2, List.length_append]
  unfold wout meetL
  omega
theorem union_comm (a b : List Bar) : setB (a ++ b) = setB (b ++ a) := sortedB_eq (setB_sorted _) (setB_sorted _) fun x => by
  rw [setB_mem, setB_mem, List.mem_append, List.mem_append, or_comm]
theorem meet_comm {a b : List Bar} (ha : a.Pairwise bltP) (hb : b.Pairwise bltP) : meetL a b = meetL b a := sortedB_eq (ha.filter _) (hb.filter _) fun x => by
  unfold meetL hasb
  simp only [List.mem_filter, decide_eq_true_eq]
  exact and_comm
theorem meet_mem (a b : List Bar) (x : Bar) : x ∈ meetL a b ↔ x ∈ a ∧ x ∈ b := by unfold meetL hasb; simp [List.mem_filter]
theorem wout_mem (a b : List Bar) (x : Bar) : x ∈ wout a b ↔ x ∈ a ∧ x ∉ b := by unfold wout hasb; simp [List.mem_filter]
theorem union_back {a : List Bar} (b : List Bar) (ha : a.Pairwise bltP) : setB (wout a b ++ meetL a b) = a := sortedB_eq (setB_sorted _) ha fun x => by
  rw [setB_mem, List.mem_append, meet_mem, wout_mem]
  by_cases h : x ∈ b <;> simp [h]
theorem meet_none (a b : List Bar) : meetL (wout a b) b = [] := by
  refine List.eq_nil_iff_forall_not_mem.2 fun x hx => ?_
  rw [meet_mem, wout_mem] at hx
  exact hx.1.2 hx.2
theorem deg_union {a b : List Bar} (ha : a.Nodup) (hb : b.Nodup) (k : Knot) : degN (setB (a ++ b)) k + degN (meetL a b) k = degN a k + degN b k := by
  simp only [degN_eq, List.countP_eq_length_filter]
  have h := union_len (ha.filter (atB k)) (hb.filter (atB k))
  have h1 : ((setB (a ++ b)).filter (atB k)).length = (setB (a.filter (atB k) ++ b.filter (atB k))).length := by
    congr 1
    refine sortedB_eq ((setB_sorted _).filter _) (setB_sorted _) fun x => ?_
    rw [List.mem_filter, setB_mem, setB_mem, List.mem_append, List.mem_append, List.mem_filter, List.mem_filter]
    constructor
    · rintro ⟨h | h, h'⟩
      · exact .inl ⟨h, h'⟩
      · exact .inr ⟨h, h'⟩
    · rintro (⟨h, h'⟩ | ⟨h, h'⟩)
      · exact ⟨.inl h, h'⟩
      · exact ⟨.inr h, h'⟩
  have h2 : ((meetL a b).filter (atB k)).length = (meetL (a.filter (atB k)) (b.filter (atB k))).length := by
    refine Nat.le_antisymm (length_le_of_sub ((ha.filter _).filter _) fun x hx => ?_) (length_le_of_sub ((ha.filter _).filter _) fun x hx => ?_)
    · rw [List.mem_filter, meet_mem] at hx
      rw [meet_mem, List.mem_filter, List.mem_filter]
      exact ⟨⟨hx.1.1, hx.2⟩, hx.1.2, hx.2⟩
    · rw [meet_mem, List.mem_filter, List.mem_filter] at hx
      rw [List.mem_filter, meet_mem]
      exact ⟨⟨hx.1.1, hx.2.1⟩, hx.1.2⟩
  rw [h1, h2]
  exact h
end Go.Proofs.YtkmjcoofkgpanaaGreatDoor

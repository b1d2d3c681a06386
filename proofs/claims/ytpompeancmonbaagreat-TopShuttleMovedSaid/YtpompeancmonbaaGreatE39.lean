/- Sets of bars, plain. Conditions: the nets are in their order. -/
import Derived.Test.YtpompeancmonbaaGreatE08
import Derived.Test.YtpompeancmonbaaGreatE17
import Derived.Test.YtpompeancmonbaaGreatE23
import Derived.Test.YtpompeancmonbaaGreatE22
import Derived.Test.YtpompeancmonbaaGreatE24
import Derived.Test.YtpompeancmonbaaGreatE26
import Derived.Test.YtpompeancmonbaaGreatE14
import Derived.Test.YtpompeancmonbaaGreatE37
import Derived.Test.YtpompeancmonbaaGreatE35
import Derived.Test.YtpompeancmonbaaGreatE30
import Derived.Test.YtpompeancmonbaaGreatE36
namespace Go.Proofs.YtpompeancmonbaaGreat
open Go.RowKit Go.ChangeMaps
set_option maxHeartbeats 4000000
set_option maxRecDepth 100000

theorem netGo_zero : ∀ (l : List Bar) (p : Option Bar), (∀ b ∈ l, barE b.1 b.2.1 b.2.2 = 0) → l.Pairwise bltP → (∀ q, p = some q → ∀ b ∈ l, bltP q b) → netGo p l = 0
  | [], p, _, _, _ => by cases p <;> rfl
  | b :: r, p, h1, h2, h3 => by
    rw [netGo, if_neg (by have := h1 b (by simp); omega)]
    have hr : netGo (some b) r = 0 := netGo_zero r (some b) (fun c hc => h1 c (by simp [hc])) (List.pairwise_cons.1 h2).2 (fun q hq c hc => by
      obtain rfl : b = q := by simpa using hq
      exact (List.pairwise_cons.1 h2).1 c hc)
    rw [hr]
    cases p with
    | none => rfl
    | some q =>
      have : barLt q.1 q.2.1 q.2.2 b.1 b.2.1 b.2.2 = true := h3 q rfl b (by simp)
      simp [this]
theorem netE_zero {l : List Bar} (h1 : ∀ b ∈ l, barE b.1 b.2.1 b.2.2 = 0) (h2 : l.Pairwise bltP) (h3 : l.length ≤ 4096) : netE l = 0 := by
  unfold netE
  rw [if_neg (by omega)]
  exact netGo_zero l none h1 h2 (fun q h => by cases h)
theorem netGo_bars : ∀ (l : List Bar) (p : Option Bar), netGo p l = 0 → ∀ b ∈ l, barE b.1 b.2.1 b.2.2 = 0
  | [], _, _, b, hb => by simp at hb
  | c :: r, p, h, b, hb => by
    rw [netGo] at h
    split at h
    · rename_i hc; exact absurd h hc
    · rename_i hc
      split at h
      · cases h
      · rcases List.mem_cons.1 hb with rfl | hb
        · exact Decidable.not_not.1 hc
        · exact netGo_bars r _ h b hb
theorem netE_bars {l : List Bar} (h : netE l = 0) : ∀ b ∈ l, barE b.1 b.2.1 b.2.2 = 0 := by
  unfold netE at h
  split at h
  · cases h
  · exact netGo_bars l none h
/-- a list of some of a net's bars, in their order, is a net -/
theorem netE_subN {l r : List Bar} (h : netE l = 0) (hs : r.Pairwise bltP) (hm : ∀ b ∈ r, b ∈ l) : netE r = 0 :=
  netE_zero (fun b hb => netE_bars h b (hm b hb)) hs (Nat.le_trans (length_le_of_sub (sortedB_nodup hs) hm) (netE_ok h).len)
/-! ## sets of bars -/
theorem union_len {a b : List Bar} (ha : a.Nodup) (hb : b.Nodup) : (setB (a ++ b)).length + (meetL a b).length = a.length + b.length := by
  have h1 : (setB (a ++ b)).length = (a ++ wout b a).length := by
    refine Nat.le_antisymm (length_le_of_sub (sortedB_nodup (setB_sorted _)) fun x hx => ?_) (length_le_of_sub ?_ fun x hx => ?_)
    · rw [setB_mem, List.mem_append] at hx
      rw [List.mem_append]
      by_cases h : x ∈ a
      · exact .inl h
      · exact .inr (List.mem_filter.2 ⟨hx.resolve_left h, by simp [hasb, h]⟩)
    · rw [List.nodup_append]
      refine ⟨ha, hb.filter _, fun x hx y hy e => ?_⟩
      subst e
      have := (List.mem_filter.1 hy).2
      simp [hasb, hx] at this
    · rw [setB_mem, List.mem_append]
      exact (List.mem_append.1 hx).imp id fun h => (List.mem_filter.1 h).1
  have h2 : (meetL a b).length = (meetL b a).length := by
    refine Nat.le_antisymm (length_le_of_sub (ha.filter _) fun x hx => ?_) (length_le_of_sub (hb.filter _) fun x hx => ?_) <;>
    · unfold meetL hasb at *
      simp only [List.mem_filter, decide_eq_true_eq] at *
      exact ⟨hx.2, hx.1⟩
  have h3 := split_len (fun x => hasb a x) b
  rw [h1, h2, List.length_append]
  unfold wout meetL
  omega
theorem union_comm (a b : List Bar) : setB (a ++ b) = setB (b ++ a) := sortedB_eq (setB_sorted _) (setB_sorted _) fun x => by
  rw [setB_mem, setB_mem, List.mem_append, List.mem_append, or_comm]
theorem meet_comm {a b : List Bar} (ha : a.Pairwise bltP) (hb : b.Pairwise bltP) : meetL a b = meetL b a := sortedB_eq (ha.filter _) (hb.filter _) fun x => by
  unfold meetL hasb
  simp only [List.mem_filter, decide_eq_true_eq]
  exact and_comm
theorem meet_mem (a b : List Bar) (x : Bar) : x ∈ meetL a b ↔ x ∈ a ∧ x ∈ b := by unfold meetL hasb; simp [List.mem_filter]
theorem wout_memN (a b : List Bar) (x : Bar) : x ∈ wout a b ↔ x ∈ a ∧ x ∉ b := by unfold wout hasb; simp [List.mem_filter]
theorem union_back {a : List Bar} (b : List Bar) (ha : a.Pairwise bltP) : setB (wout a b ++ meetL a b) = a := sortedB_eq (setB_sorted _) ha fun x => by
  rw [setB_mem, List.mem_append, meet_mem, wout_memN]
  by_cases h : x ∈ b <;> simp [h]
theorem meet_none (a b : List Bar) : meetL (wout a b) b = [] := by
  refine List.eq_nil_iff_forall_not_mem.2 fun x hx => ?_
  rw [meet_mem, wout_memN] at hx
  exact hx.1.2 hx.2
theorem deg_union {a b : List Bar} (ha : a.Nodup) (hb : b.Nodup) (k : Knot) : degN (setB (a ++ b)) k + degN (meetL a b) k = degN a k + degN b k := by
  simp only [degN_eq, List.countP_eq_length_filter]
  have h := union_len (ha.filter (atB k)) (hb.filter (atB k))
  have h1 : ((setB (a ++ b)).filter (atB k)).length = (setB (a.filter (atB k) ++ b.filter (atB k))).length := by
    congr 1
    refine sortedB_eq ((setB_sorted _).filter _) (setB_sorted _) fun x => ?_
    rw [List.mem_filter, setB_mem, setB_mem, List.mem_append, List.mem_append, List.mem_filter, List.mem_filter]
    constructor
    · rintro ⟨h | h, h'⟩
      · exact .inl ⟨h, h'⟩
      · exact .inr ⟨h, h'⟩
    · rintro (⟨h, h'⟩ | ⟨h, h'⟩)
      · exact ⟨.inl h, h'⟩
      · exact ⟨.inr h, h'⟩
  have h2 : ((meetL a b).filter (atB k)).length = (meetL (a.filter (atB k)) (b.filter (atB k))).length := by
    refine Nat.le_antisymm (length_le_of_sub ((ha.filter _).filter _) fun x hx => ?_) (length_le_of_sub ((ha.filter _).filter _) fun x hx => ?_)
    · rw [List.mem_filter, meet_mem] at hx
      rw [meet_mem, List.mem_filter, List.mem_filter]
      exact ⟨⟨hx.1.1, hx.2⟩, hx.1.2, hx.2⟩
    · rw [meet_mem, List.mem_filter, List.mem_filter] at hx
      rw [List.mem_filter, meet_mem]
      exact ⟨⟨hx.1.1, hx.2.1⟩, hx.1.2⟩
  rw [h1, h2]
  exact h
end Go.Proofs.YtpompeancmonbaaGreat

/- Legs, parts and one bar less, plain. Conditions: the net is in its order. -/
namespace Go.Proofs.YtpompeancmonbaaGreat
open Go.RowKit Go.ChangeMaps
set_option maxHeartbeats 4000000
set_option maxRecDepth 100000

/-! ## the numbers of the legs -/
theorem legC_cons (l : List Bar) (k : Knot) (K : List Knot) (d : Nat) : legC l (k :: K) d = legC l K d + if degN l k = d then 1 else 0 := by
  unfold legC
  rw [List.filter_cons]
  by_cases h : degN l k = d <;> simp [h]
theorem legs_sum (l : List Bar) : ∀ K : List Knot, (∀ k ∈ K, degN l k ≤ 4) → legC l K 0 + legC l K 1 + legC l K 2 + legC l K 3 + legC l K 4 = K.length
  | [], _ => rfl
  | k :: K, h => by
    have ih := legs_sum l K fun x hx => h x (List.mem_cons_of_mem _ hx)
    have h4 := h k List.mem_cons_self
    simp only [legC_cons, List.length_cons]
    obtain e | e | e | e | e : degN l k = 0 ∨ degN l k = 1 ∨ degN l k = 2 ∨ degN l k = 3 ∨ degN l k = 4 := by omega
    all_goals simp [e]; omega
theorem legs_deg (l : List Bar) : ∀ K : List Knot, (∀ k ∈ K, degN l k ≤ 4) → legC l K 1 + 2 * legC l K 2 + 3 * legC l K 3 + 4 * legC l K 4 = (K.map (degN l)).sum
  | [], _ => rfl
  | k :: K, h => by
    have ih := legs_deg l K fun x hx => h x (List.mem_cons_of_mem _ hx)
    have h4 := h k List.mem_cons_self
    simp only [legC_cons, List.map_cons, List.sum_cons]
    obtain e | e | e | e | e : degN l k = 0 ∨ degN l k = 1 ∨ degN l k = 2 ∨ degN l k = 3 ∨ degN l k = 4 := by omega
    all_goals simp [e]; omega
theorem sum_oneN {K : List Knot} (hn : K.Nodup) {a : Knot} (ha : a ∈ K) : (K.map fun k => if a = k then 1 else 0).sum = 1 := by
  induction K with
  | nil => cases ha
  | cons k r ih =>
    obtain ⟨h1, h2⟩ := List.nodup_cons.1 hn
    rw [List.map_cons, List.sum_cons]
    by_cases e : a = k
    · subst e
      have : ∀ {r : List Knot}, a ∉ r → (r.map fun k => if a = k then 1 else 0).sum = 0 := fun {r} => by
        induction r with
        | nil => intro _; rfl
        | cons x q ih => intro h; rw [List.map_cons, List.sum_cons, if_neg (fun e => h (by rw [e]; exact List.mem_cons_self)), ih fun e => h (List.mem_cons_of_mem _ e)]
      rw [if_pos rfl, this h1]
    · rw [if_neg e, ih h2 ((List.mem_cons.1 ha).resolve_left e)]
theorem sum_addN {α : Type} (f g : α → Nat) : ∀ K : List α, (K.map fun k => f k + g k).sum = (K.map f).sum + (K.map g).sum
  | [] => rfl
  | k :: K => by simp only [List.map_cons, List.sum_cons, sum_addN f g K]; omega
theorem deg_sum {K : List Knot} (hn : K.Nodup) : ∀ l : List Bar, (∀ b ∈ l, lowK b ∈ K ∧ uppK b ∈ K) → (K.map (degN l)).sum = 2 * l.length
  | [], _ => by
    have : ∀ K : List Knot, (K.map (degN [])).sum = 0 := fun K => by
      induction K with
      | nil => rfl
      | cons k r ih => rw [List.map_cons, List.sum_cons, ih, degN_eq]; rfl
    rw [this]; rfl
  | b :: l, h => by
    have ih := deg_sum hn l fun x hx => h x (List.mem_cons_of_mem _ hx)
    obtain ⟨h1, h2⟩ := h b List.mem_cons_self
    have e : (fun k => degN (b :: l) k) = fun k => degN l k + ((if lowK b = k then 1 else 0) + if uppK b = k then 1 else 0) := funext fun k => by
      rw [degN_eq, degN_eq, List.countP_cons]
      congr 1
      unfold atB
      by_cases h3 : lowK b = k
      · have h4 : uppK b ≠ k := fun h4 => up_ne_low (h3.trans h4.symm)
        simp [h3, h4]
      · by_cases h4 : uppK b = k <;> simp [h3, h4]
    rw [show K.map (degN (b :: l)) = K.map (fun k => degN (b :: l) k) from rfl, e, sum_addN, sum_addN, sum_oneN hn h1, sum_oneN hn h2, List.length_cons]
    have : (K.map fun k => degN l k).sum = 2 * l.length := ih
    omega
theorem leg_zero (l : List Bar) : legC l (holeK l) 0 = 0 := by
  unfold legC
  rw [List.length_eq_zero_iff, List.filter_eq_nil_iff]
  intro k hk h
  obtain ⟨b, hb, he⟩ := (holeK_ends l k).1 hk
  have h0 : degN l k = 0 := by simpa using h
  rw [degN_eq, List.countP_eq_zero] at h0
  refine h0 b hb ?_
  unfold atB
  rcases he with rfl | rfl <;> simp
theorem leg_le (l : List Bar) (K : List Knot) (d : Nat) : legC l K d ≤ K.length := List.length_filter_le _ _
theorem holeK_lenN (l : List Bar) : (holeK l).length ≤ 2 * l.length := by rw [← kIn_all (l := l) (Nat.le_refl _)]; exact kIn_len l (2 * l.length)
/-! ## the parts of a net: each bar, each knot once -/
theorem prt_inv (l : List Bar) : ∀ k, k ≤ l.length → (∀ P ∈ prtC l k, ∃ j, ∃ hj : j < l.length, j < k ∧ P = compL l l[j] ∧ P.head? = some l[j]) ∧
    (prtC l k).Pairwise fun P Q => (∃ i j, ∃ hi : i < l.length, ∃ hj : j < l.length, i < j ∧ P.head? = some l[i] ∧ Q.head? = some l[j]) ∧ ∀ x ∈ P, ∀ y ∈ Q, ¬ Conn l x y
  | 0, _ => ⟨fun P h => by simp [prtC] at h, by simp [prtC]⟩
  | k + 1, hk => by
    obtain ⟨h1, h2⟩ := prt_inv l k (by omega)
    have hlt : k < l.length := by omega
    have hlm := List.getElem_mem hlt
    rw [prtC_succ hlt]
    split
    · exact ⟨fun P hP => by obtain ⟨j, hj, a, b⟩ := h1 P hP; exact ⟨j, hj, by omega, b⟩, h2⟩
    · rename_i hm
      have hno : ∀ j (hj : j < l.length), j < k → ¬ Conn l l[j] l[k] := fun j hj hjk hc => hm ((prtC_flat l k (by omega) _).2 ⟨j, hj, hjk, hc⟩)
      have hh : (compL l l[k]).head? = some l[k] := by
        unfold compL
        rw [List.head?_filter, List.find?_eq_some_iff_append]
        refine ⟨by simpa using Conn.refl, l.take k, l.drop (k + 1), by rw [← List.drop_eq_getElem_cons hlt, List.take_append_drop], fun a ha => ?_⟩
        obtain ⟨i, hi, rfl⟩ := List.getElem_of_mem ha
        rw [List.length_take] at hi
        rw [List.getElem_take]
        have h3 : ¬ Conn l l[k] l[i] := fun hc => hno i (by omega) (by omega) (hc.symm hlm)
        simpa using h3
      refine ⟨fun P hP => ?_, List.pairwise_append.2 ⟨h2, by simp, fun P hP Q hQ => ?_⟩⟩
      · rcases List.mem_append.1 hP with hP | hP
        · obtain ⟨j, hj, a, b⟩ := h1 P hP
          exact ⟨j, hj, by omega, b⟩
        · obtain rfl : P = compL l l[k] := by simpa using hP
          exact ⟨k, hlt, by omega, rfl, hh⟩
      · obtain rfl : Q = compL l l[k] := by simpa using hQ
        obtain ⟨j, hj, hjk, rfl, hjh⟩ := h1 P hP
        refine ⟨⟨j, k, hj, hlt, hjk, hjh, hh⟩, fun x hx y hy hc => ?_⟩
        rw [compL_mem (List.getElem_mem hj)] at hx
        rw [compL_mem hlm] at hy
        exact hno j hj hjk ((hx.trans hc).trans (hy.symm hlm))
theorem prt_mem {l : List Bar} {x : Bar} : x ∈ (prtC l l.length).flatten ↔ x ∈ l := by
  rw [prtC_flat l _ (Nat.le_refl _)]
  constructor
  · rintro ⟨j, hj, _, h⟩; exact h.mem (List.getElem_mem hj)
  · intro h
    obtain ⟨j, hj, rfl⟩ := List.getElem_of_mem h
    exact ⟨j, hj, hj, .refl⟩
theorem part_facts {l : List Bar} (hs : l.Pairwise bltP) {P : List Bar} (hP : P ∈ prtC l l.length) : P ≠ [] ∧ P.Pairwise bltP ∧ ∀ x ∈ P, x ∈ l := by
  obtain ⟨j, hj, _, e, hh⟩ := (prt_inv l _ (Nat.le_refl _)).1 P hP
  refine ⟨fun h => (by rw [h] at hh; cases hh), (by rw [e]; exact compL_sorted hs _), fun x hx => ?_⟩
  rw [e] at hx
  unfold compL at hx
  exact (List.mem_filter.1 hx).1
theorem heads_up {l : List Bar} (hs : l.Pairwise bltP) : (prtC l l.length).Pairwise fun P Q => ∃ a b, P.head? = some a ∧ Q.head? = some b ∧ bltP a b :=
  (prt_inv l _ (Nat.le_refl _)).2.imp fun ⟨⟨i, j, hi, hj, hij, h1, h2⟩, _⟩ => ⟨_, _, h1, h2, List.pairwise_iff_getElem.1 hs i j hi hj hij⟩
theorem prt_nodup {l : List Bar} (hs : l.Pairwise bltP) : (prtC l l.length).flatten.Nodup := by
  unfold List.Nodup
  rw [List.pairwise_flatten]
  refine ⟨fun P hP => sortedB_nodup (part_facts hs hP).2.1, (prt_inv l _ (Nat.le_refl _)).2.imp fun ⟨_, h⟩ x hx y hy e => h x hx y hy (by rw [e]; exact .refl)⟩
theorem prt_len {l : List Bar} (hs : l.Pairwise bltP) : (prtC l l.length).flatten.length = l.length :=
  Nat.le_antisymm (length_le_of_sub (prt_nodup hs) fun _ hx => prt_mem.1 hx) (length_le_of_sub (sortedB_nodup hs) fun _ hx => prt_mem.2 hx)
theorem prt_set {l : List Bar} (hs : l.Pairwise bltP) : setB (prtC l l.length).flatten = l := sortedB_eq (setB_sorted _) hs fun x => by rw [setB_mem, prt_mem]
theorem prt_knots {l : List Bar} (hs : l.Pairwise bltP) : ((prtC l l.length).map fun P => (holeK P).length).sum = (holeK l).length := by
  have e : ((prtC l l.length).map fun P => (holeK P).length).sum = ((prtC l l.length).map holeK).flatten.length := by
    rw [List.length_flatten, List.map_map]; rfl
  have hmem : ∀ k, k ∈ ((prtC l l.length).map holeK).flatten ↔ k ∈ holeK l := fun k => by
    rw [List.mem_flatten]
    constructor
    · rintro ⟨K, hK, hk⟩
      obtain ⟨P, hP, rfl⟩ := List.mem_map.1 hK
      obtain ⟨b, hb, h⟩ := (holeK_ends P k).1 hk
      exact (holeK_ends l k).2 ⟨b, (part_facts hs hP).2.2 b hb, h⟩
    · intro hk
      obtain ⟨b, hb, h⟩ := (holeK_ends l k).1 hk
      obtain ⟨P, hP, hbP⟩ := List.mem_flatten.1 (prt_mem.2 hb)
      exact ⟨_, List.mem_map.2 ⟨P, hP, rfl⟩, (holeK_ends P k).2 ⟨b, hbP, h⟩⟩
  have hn : ((prtC l l.length).map holeK).flatten.Nodup := by
    unfold List.Nodup
    rw [List.pairwise_flatten, List.pairwise_map]
    refine ⟨fun K hK => ?_, ?_⟩
    · obtain ⟨P, _, rfl⟩ := List.mem_map.1 hK
      exact sortedK_nodup (holeK_sorted P)
    · refine List.Pairwise.imp_of_mem (fun {P Q} hP hQ h => ?_) (prt_inv l _ (Nat.le_refl _)).2
      intro u hu v hv e
      subst e
      obtain ⟨x, hx, h1⟩ := (holeK_ends P u).1 hu
      obtain ⟨y, hy, h2⟩ := (holeK_ends Q u).1 hv
      refine h.2 x hx y hy (Conn.refl.step ((part_facts hs hQ).2.2 y hy) ?_)
      unfold Tch
      rcases h1 with h1 | h1 <;> rcases h2 with h2 | h2
      · exact .inl (h1.symm.trans h2)
      · exact .inr (.inl (h1.symm.trans h2))
      · exact .inr (.inr (.inl (h1.symm.trans h2)))
      · exact .inr (.inr (.inr (h1.symm.trans h2)))
  rw [e]
  exact Nat.le_antisymm (length_le_of_sub hn fun x hx => (hmem x).1 hx) (length_le_of_sub (sortedK_nodup (holeK_sorted l)) fun x hx => (hmem x).2 hx)
theorem prt_pos {l : List Bar} (h : l ≠ []) : 1 ≤ (prtC l l.length).length := by
  cases hp : prtC l l.length with
  | nil =>
    cases l with
    | nil => exact absurd rfl h
    | cons b r =>
      have := (prt_mem (l := b :: r) (x := b)).2 List.mem_cons_self
      rw [hp] at this
      cases this
  | cons P Q => simp
/-! ## one bar less -/
theorem less_one {l : List Bar} (hs : l.Pairwise bltP) {b : Bar} (hb : b ∈ l) : l.length = (wout l [b]).length + 1 ∧ (∀ x, x ∈ l ↔ x = b ∨ x ∈ wout l [b]) ∧ (wout l [b]).Pairwise bltP := by
  have hn := sortedB_nodup hs
  have hm : ∀ x, x ∈ wout l [b] ↔ x ∈ l ∧ x ≠ b := fun x => by rw [wout_memN]; simp
  have h2 : ∀ x, x ∈ l ↔ x = b ∨ x ∈ wout l [b] := fun x => by
    rw [hm]
    by_cases e : x = b
    · subst e; simp [hb]
    · simp [e]
  have h3 : (wout l [b]).Pairwise bltP := hs.filter _
  have h4 : (b :: wout l [b]).Nodup := List.nodup_cons.2 ⟨fun h => ((hm b).1 h).2 rfl, sortedB_nodup h3⟩
  refine ⟨Nat.le_antisymm ?_ ?_, h2, h3⟩
  · have := length_le_of_sub (D := b :: wout l [b]) hn fun x hx => List.mem_cons.2 ((h2 x).1 hx)
    simpa using this
  · have := length_le_of_sub (D := l) h4 fun x hx => (h2 x).2 (List.mem_cons.1 hx)
    simpa using this
end Go.Proofs.YtpompeancmonbaaGreat

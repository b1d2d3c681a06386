/- The run of a torn net that is ready, plain: what the statement MendRestores says of it. Conditions: the torn net is valid. -/
import Derived.Test.YthcnngoaijgnoaaGreatK11
import Derived.Test.YthcnngoaijgnoaaGreatPpeJ
namespace Go.Proofs.YthcnngoaijgnoaaGreat

/-- a run and how often it has passed a knot before a step -/
structure ResAt (N D : List Bar) (W : List Knot) (V : Knot → Nat → Nat) : Prop where
  odd2 : (oddK D).length = 2
  len : W.length = D.length + 1
  pos : 0 < D.length
  cw : cwE W = 0
  fst : ∃ a, W[0]? = some a ∧ a ∈ oddK D ∧ ∃ z, W[W.length - 1]? = some z ∧ z ∈ oddK D ∧ a ≠ z
  made : madeE W = 0 ∧ madeL W = D
  proved : provedE N D W = 0
  rest : restL N D W = N
  zero : ∀ k, V k 1 = 0
  step : ∀ (t : Nat) (_ : 0 < t) (h1 : t + 1 < W.length), legsAt D W[t] ≠ noLegs ∧ (cnt (legsAt D W[t]) = 2 ∨ cnt (legsAt D W[t]) = 4) ∧ V W[t] (t + 1) = V W[t] t + 1 ∧ 2 * V W[t] (t + 1) ≤ cnt (legsAt D W[t]) ∧
    (cnt (legsAt D W[t]) = 4 → V W[t] t = 0 → W[t].2 < W[t - 1].2 ∧ W[t].2 < W[t + 1].2) ∧ (cnt (legsAt D W[t]) = 4 → 0 < V W[t] t → W[t - 1].2 < W[t].2 ∧ W[t + 1].2 < W[t].2) ∧ ∀ k, k ≠ W[t] → V k (t + 1) = V k t
  fin : ∀ k, 0 < V k D.length → legsAt D k ≠ noLegs ∧ cnt (legsAt D k) = 2 * V k D.length
theorem run_walk {D : List Bar} {W : List Knot} (h : runO D = some W) : ∃ k, W = walkL D k ∧ isRunP D W = true ∧ cnt (legsAt D k) = 1 := by
  have key : ∀ k, tryRun D k = some W → ∃ k, W = walkL D k ∧ isRunP D W = true ∧ cnt (legsAt D k) = 1 := by
    intro k hk
    unfold tryRun at hk
    cases hc : (cnt (legsAt D k) == 1 && isRunP D (walkL D k)) with
    | false => rw [hc] at hk; cases hk
    | true =>
      rw [hc] at hk
      rw [Bool.and_eq_true, beq_iff_eq] at hc
      obtain rfl : walkL D k = W := by simpa using hk
      exact ⟨k, rfl, hc.2, hc.1⟩
  unfold runO at h
  split at h
  · split at h
    · rename_i w hw
      cases h
      exact key _ hw
    · exact key _ h
  · cases h
theorem cnt_four : ∀ a b c d, (a, b, c, d) ≠ noLegs → oddL (a, b, c, d) = false → cnt (a, b, c, d) = 2 ∨ cnt (a, b, c, d) = 4 := by decide
theorem res_at {N D : List Bar} (hE : tornE N D = 0) {W : List Knot} (h : runO D = some W) : ∃ V, ResAt N D W V := by
  have hok := torn_ok hE
  have hs : ∀ b ∈ D, Sided b := fun b hb => (hok.dam.ok b hb).2.2
  have hn := hok.dam.nodup
  have hr : rdyB D = true := by unfold rdyB; rw [h]; rfl
  obtain ⟨k', hw', hrun, hone⟩ := run_walk h
  obtain ⟨k, L, hw, R⟩ := run_at h
  obtain ⟨d, hd⟩ : ∃ d : Dart, (k, arm0 D k) = d := ⟨_, rfl⟩
  rw [hd] at hw R
  have hpos := R.wend.pos
  have hL := R.len
  obtain ⟨q1, q2, q3, q4⟩ := path_made (torn_nets hE).2 hpos (by omega) R.ok R.nodup
  rw [← hw] at q1 q2 q3 q4
  have hmade : madeL W = D := sortedB_eq q4 hok.dam.sorted fun x => by rw [q3]; exact ⟨R.sub x, R.all x⟩
  have hwlen : W.length = L + 1 := by rw [hw, pathK_len]
  have hget : ∀ (t : Nat) (ht : t < W.length), W[t] = (dart D d t).1 := fun t ht => by
    have h1 : W[t]? = some (dart D d t).1 := by rw [hw]; exact pathK_get (by omega)
    rw [List.getElem?_eq_getElem ht] at h1
    exact Option.some.inj h1
  have hpr : provedE N D W = 0 := by
    have hcons : W = k' :: wk D D.length (k', arm0 D k') := by rw [hw']; rfl
    have h1 : oneB D W = true := by
      rw [hcons]
      show (cnt (legsAt D k') == 1) = true
      rw [hone]; rfl
    have h2 : startsB D W = true := by
      conv => lhs; rw [hcons]
      show (isRunP D (walkL D k') && decide (walkL D k' = _)) = true
      rw [← hw', hrun, ← hcons]; simp
    unfold provedE
    rw [if_pos (by rw [hE, q1]; rfl), if_pos hr, if_pos h1, h2]
    rfl
  have hoz : ∀ t, t = 0 ∨ t = L → (dart D d t).1 ∈ oddK D := fun t ht => by
    rw [oddK_mem hs]
    have : cnt (legsAt D (dart D d t).1) = 1 := by
      rcases ht with rfl | rfl
      · exact R.first
      · exact R.last
    unfold oddL; rw [this]; rfl
  refine ⟨vs D d, ⟨rdy_odd hr, by omega, by omega, q1, ?_, ⟨q2, hmade⟩, hpr, ?_, fun k => by simp [vs], ?_, ?_⟩⟩
  · refine ⟨(dart D d 0).1, ?_, hoz 0 (.inl rfl), (dart D d L).1, ?_, hoz L (.inr rfl), ?_⟩
    · rw [hw]; exact pathK_get (by omega)
    · rw [hwlen, hw]; exact pathK_get (by omega)
    · have h1 : cnt (legsAt D k) = 1 := by rw [show k = d.1 by rw [← hd]]; exact R.first
      have := walk_end_ne h1 (L := L) (by rw [hd]; exact R.wend)
      rw [hd] at this
      show d.1 ≠ _
      rw [show d.1 = k by rw [← hd]]
      exact fun e => this e.symm
  · rw [rest_tog hpr, hmade]
    refine sortedB_eq (tog_sorted _ _ (wout_sorted hok.net.sorted)) hok.net.sorted fun x => ?_
    rw [tog_mem, wout_mem]
    constructor
    · rintro (h | h)
      · exact h.1
      · exact hok.sub x h
    · intro hx
      by_cases hm : x ∈ D
      · exact .inr hm
      · exact .inl ⟨hx, hm⟩
  · intro t h0 h1
    have ht : t < L := by omega
    rw [hget t (by omega), hget (t - 1) (by omega), hget (t + 1) h1]
    have hne : legsAt D (dart D d t).1 ≠ noLegs := legs_arm.2 ⟨(dart D d t).2, (R.ok t ht).1, (R.ok t ht).2⟩
    have hev : oddL (legsAt D (dart D d t).1) = false := by
      have := R.wend.even t h0 ht
      unfold evn at this
      simpa using this
    refine ⟨hne, ?_, vs_at h0, ?_, fun h4 hv => ?_, fun h4 hv => ?_, fun k hk => ?_⟩
    · generalize legsAt D (dart D d t).1 = l at hne hev
      obtain ⟨a, b, c, e⟩ := l
      exact cnt_four a b c e hne hev
    · rw [R.visits hn hs h0 ht]
      have := vs_mono (D := D) (d := d) (k := (dart D d t).1) (n := t + 1) L (by omega)
      omega
    · have := R.highY h0 ht h4 hv
      omega
    · have := R.lowY h0 ht h4 hv
      omega
    · show vs D d k t + (if 0 < t ∧ (dart D d t).1 = k then 1 else 0) = _
      rw [if_neg (fun e => hk e.2.symm)]
      rfl
  · intro k hk
    rw [← hL] at hk ⊢
    obtain ⟨t, h1, h2, rfl, _⟩ := vs_pos L hk
    exact ⟨legs_arm.2 ⟨(dart D d t).2, (R.ok t h2).1, (R.ok t h2).2⟩, R.visits hn hs h1 h2⟩
end Go.Proofs.YthcnngoaijgnoaaGreat

/- Two nets far from one another, plain. Conditions: within bounds. -/
import Derived.Test.YtpoaomdpcoaolaaC19
import Derived.Test.YtpoaomdpcoaolaaC18
namespace Go.Proofs.Ytpoaomdpcoaolaa
open Go.RowKit Go.ChangeMaps
set_option maxHeartbeats 4000000
set_option maxRecDepth 100000

/-! ## two nets far from one another -/
/-- one net lies left of 500, the other one right of it -/
structure FarN (a r : List Bar) : Prop where
  lo : ∀ b ∈ a, Sided b ∧ b.1 ≤ 400
  hi : ∀ b ∈ r, Sided b ∧ 600 ≤ b.1
theorem low_left {b : Bar} (h : Sided b ∧ b.1 ≤ 400) {k : Knot} (hk : k = lowK b ∨ k = uppK b) : k.1 ≤ 401 := by
  obtain ⟨x, y, s⟩ := b
  unfold Sided at h
  simp only at h
  rcases hk with rfl | rfl <;> simp only [lowK, uppK] <;> omega
theorem high_right {b : Bar} (h : Sided b ∧ 600 ≤ b.1) {k : Knot} (hk : k = lowK b ∨ k = uppK b) : 599 ≤ k.1 := by
  obtain ⟨x, y, s⟩ := b
  unfold Sided at h
  simp only at h
  rcases hk with rfl | rfl <;> simp only [lowK, uppK] <;> omega
variable {a r : List Bar}
theorem FarN.not (h : FarN a r) {b : Bar} (h1 : b ∈ a) (h2 : b ∈ r) : False := by
  have := (h.lo b h1).2
  have := (h.hi b h2).2
  omega
theorem FarN.mem {b : Bar} : b ∈ setB (a ++ r) ↔ b ∈ a ∨ b ∈ r := by rw [setB_mem, List.mem_append]
theorem FarN.sided (h : FarN a r) : ∀ b ∈ setB (a ++ r), Sided b := fun b hb => (FarN.mem.1 hb).elim (fun q => (h.lo b q).1) fun q => (h.hi b q).1
theorem FarN.len (h : FarN a r) (ha : a.Nodup) (hr : r.Nodup) : (setB (a ++ r)).length = a.length + r.length := by
  have h1 := union_len ha hr
  have h2 : meetL a r = [] := List.eq_nil_iff_forall_not_mem.2 fun x hx => by
    rw [meet_mem] at hx
    exact h.not hx.1 hx.2
  rw [h2] at h1
  simpa using h1
theorem same_set_len {α : Type} [DecidableEq α] {A B : List α} (hA : A.Nodup) (hB : B.Nodup) (h : ∀ x, x ∈ A ↔ x ∈ B) : A.length = B.length :=
  Nat.le_antisymm (length_le_of_sub hA fun x hx => (h x).1 hx) (length_le_of_sub hB fun x hx => (h x).2 hx)
theorem FarN.kmem {k : Knot} : k ∈ holeK (setB (a ++ r)) ↔ k ∈ holeK a ∨ k ∈ holeK r := by
  simp only [holeK_ends, FarN.mem]
  constructor
  · rintro ⟨b, hb | hb, e⟩
    · exact .inl ⟨b, hb, e⟩
    · exact .inr ⟨b, hb, e⟩
  · rintro (⟨b, hb, e⟩ | ⟨b, hb, e⟩)
    · exact ⟨b, .inl hb, e⟩
    · exact ⟨b, .inr hb, e⟩
theorem FarN.klo (h : FarN a r) {k : Knot} (hk : k ∈ holeK a) : k.1 ≤ 401 := by
  obtain ⟨b, hb, e⟩ := (holeK_ends a k).1 hk
  exact low_left (h.lo b hb) e
theorem FarN.khi (h : FarN a r) {k : Knot} (hk : k ∈ holeK r) : 599 ≤ k.1 := by
  obtain ⟨b, hb, e⟩ := (holeK_ends r k).1 hk
  exact high_right (h.hi b hb) e
theorem FarN.knots (h : FarN a r) : (holeK (setB (a ++ r))).length = (holeK a).length + (holeK r).length := by
  rw [← List.length_append]
  refine same_set_len (sortedK_nodup (holeK_sorted _)) ?_ fun k => by rw [FarN.kmem, List.mem_append]
  rw [List.nodup_append]
  refine ⟨sortedK_nodup (holeK_sorted _), sortedK_nodup (holeK_sorted _), fun x hx y hy e => ?_⟩
  subst e
  have := h.klo hx
  have := h.khi hy
  omega
theorem FarN.mesh (h : FarN a r) (c : Knot) : MeshAt (setB (a ++ r)) c ↔ MeshAt a c ∨ MeshAt r c := by
  constructor
  · intro hm
    have h0 := FarN.mem.1 (hm 0 (by omega))
    have h1 := FarN.mem.1 (hm 1 (by omega))
    have h2 := FarN.mem.1 (hm 2 (by omega))
    have h3 := FarN.mem.1 (hm 3 (by omega))
    have lo : ∀ {i : Nat}, mshB c i ∈ a → c.1 ≤ 401 := fun {i} hi => by
      have := (h.lo _ hi).2
      unfold mshB at this
      split at this <;> simp only at this <;> omega
    have hi : ∀ {i : Nat}, mshB c i ∈ r → 599 ≤ c.1 := fun {i} hi => by
      have := (h.hi _ hi).2
      unfold mshB at this
      split at this <;> simp only at this <;> omega
    by_cases hc : c.1 ≤ 500
    · refine .inl fun i hi' => ?_
      obtain rfl | rfl | rfl | rfl : i = 0 ∨ i = 1 ∨ i = 2 ∨ i = 3 := by omega
      · exact h0.resolve_right fun q => by have := hi q; omega
      · exact h1.resolve_right fun q => by have := hi q; omega
      · exact h2.resolve_right fun q => by have := hi q; omega
      · exact h3.resolve_right fun q => by have := hi q; omega
    · refine .inr fun i hi' => ?_
      obtain rfl | rfl | rfl | rfl : i = 0 ∨ i = 1 ∨ i = 2 ∨ i = 3 := by omega
      · exact h0.resolve_left fun q => by have := lo q; omega
      · exact h1.resolve_left fun q => by have := lo q; omega
      · exact h2.resolve_left fun q => by have := lo q; omega
      · exact h3.resolve_left fun q => by have := lo q; omega
  · rintro (hm | hm)
    · exact fun i hi => FarN.mem.2 (.inl (hm i hi))
    · exact fun i hi => FarN.mem.2 (.inr (hm i hi))
theorem FarN.meshes (h : FarN a r) (ha : a.Nodup) (hr : r.Nodup) : (meshL (setB (a ++ r)) (setB (a ++ r))).length = (meshL a a).length + (meshL r r).length := by
  rw [← List.length_append]
  refine same_set_len (meshL_nodup (sortedB_nodup (setB_sorted _))) ?_ fun k => by rw [meshL_mem, List.mem_append, meshL_mem, meshL_mem, h.mesh]
  rw [List.nodup_append]
  refine ⟨meshL_nodup ha, meshL_nodup hr, fun x hx y hy e => ?_⟩
  subst e
  rw [meshL_mem] at hx hy
  exact h.not (hx 0 (by omega)) (hy 0 (by omega))
theorem FarN.step (h : FarN a r) {u v : Knot} {b : Bar} (hb : b ∈ setB (a ++ r)) (hl : Leads b u v) : (u.1 ≤ 500 → b ∈ a ∧ v.1 ≤ 500) ∧ (500 < u.1 → b ∈ r ∧ 500 < v.1) := by
  have hu : u = lowK b ∨ u = uppK b := hl.imp (fun q => q.1) fun q => q.1
  have hv : v = lowK b ∨ v = uppK b := (hl.imp (fun q => q.2) fun q => q.2).symm
  rcases FarN.mem.1 hb with q | q
  · have h1 := low_left (h.lo b q) hu
    have h2 := low_left (h.lo b q) hv
    exact ⟨fun _ => ⟨q, by omega⟩, fun _ => by omega⟩
  · have h1 := high_right (h.hi b q) hu
    have h2 := high_right (h.hi b q) hv
    exact ⟨fun _ => by omega, fun _ => ⟨q, by omega⟩⟩
theorem FarN.kc (h : FarN a r) {u v : Knot} (hc : KC (setB (a ++ r)) u v) : (u.1 ≤ 500 → v.1 ≤ 500 ∧ KC a u v) ∧ (500 < u.1 → 500 < v.1 ∧ KC r u v) := by
  induction hc with
  | refl => exact ⟨fun q => ⟨q, .refl⟩, fun q => ⟨q, .refl⟩⟩
  | step _ hm ht ih =>
    obtain ⟨s1, s2⟩ := h.step hm ht
    refine ⟨fun q => ?_, fun q => ?_⟩
    · obtain ⟨i1, i2⟩ := ih.1 q
      obtain ⟨j1, j2⟩ := s1 i1
      exact ⟨j2, i2.step j1 ht⟩
    · obtain ⟨i1, i2⟩ := ih.2 q
      obtain ⟨j1, j2⟩ := s2 i1
      exact ⟨j2, i2.step j1 ht⟩
theorem nL_apart {f : Knot → Knot} {W V : List Knot} (h : ∀ u ∈ W, ∀ v ∈ V, f u ≠ f v) : nL f (W ++ V) = nL f W + nL f V := by
  rw [nL_ded f W, nL_ded f V, ← List.length_append]
  refine (nL_len ?_ fun x => ?_).symm
  · rw [List.nodup_append]
    refine ⟨dedK_nodup _, dedK_nodup _, fun x hx y hy e => ?_⟩
    subst e
    rw [dedK_mem, List.mem_map] at hx hy
    obtain ⟨u, hu, e1⟩ := hx
    obtain ⟨v, hv, e2⟩ := hy
    exact h u hu v hv (e1.trans e2.symm)
  · rw [List.mem_append, dedK_mem, dedK_mem, List.map_append, List.mem_append]
theorem FarN.parts (h : FarN a r) : (prtC (setB (a ++ r)) (setB (a ++ r)).length).length = (prtC a a.length).length + (prtC r r.length).length := by
  obtain ⟨f, hf⟩ := lab_ex (setB (a ++ r))
  obtain ⟨g, hg⟩ := lab_ex a
  obtain ⟨g', hg'⟩ := lab_ex r
  rw [parts_len hf, parts_len hg, parts_len hg']
  have e1 : nL f (holeK (setB (a ++ r))) = nL f (holeK a ++ holeK r) := nL_set fun x => by
    simp only [List.mem_map, List.mem_append, FarN.kmem]
  have e2 : nL f (holeK a) = nL g (holeK a) := nL_congr fun u hu v hv => by
    rw [hf, hg]
    exact ⟨fun q => ((h.kc q).1 (by have := h.klo hu; omega)).2, fun q => q.mono fun b hb => FarN.mem.2 (.inl hb)⟩
  have e3 : nL f (holeK r) = nL g' (holeK r) := nL_congr fun u hu v hv => by
    rw [hf, hg']
    exact ⟨fun q => ((h.kc q).2 (by have := h.khi hu; omega)).2, fun q => q.mono fun b hb => FarN.mem.2 (.inr hb)⟩
  rw [e1, nL_apart, e2, e3]
  intro u hu v hv e
  have h1 := h.klo hu
  have h2 := h.khi hv
  have := ((h.kc ((hf u v).1 e)).1 (by omega)).1
  omega
/-- the numbers of two nets far from one another add up -/
theorem FarN.cnt (h : FarN a r) (ha : netE a = 0) (hr : netE r = 0) (hu : netE (setB (a ++ r)) = 0) {ka ba ma pa kr br mr pr : Nat} {na nr : Int} (h1 : Nums a ka ba ma pa na) (h2 : Nums r kr br mr pr nr) :
    cntA (setB (a ++ r)) = #[.int .i64 ((ka : Int) + kr), .int .i64 ((ba : Int) + br), .int .i64 ((ma : Int) + mr), .int .i64 ((pa : Int) + pr), .int .i64 (na + nr)] := by
  have oa := netE_ok ha
  have or_ := netE_ok hr
  have q1 := h.knots
  have q2 := h.len oa.nodup or_.nodup
  have q3 := h.meshes oa.nodup or_.nodup
  have q4 := h.parts
  rw [← partsL_eq (setB_sorted _) h.sided, ← partsL_eq oa.sorted fun b hb => (h.lo b hb).1, ← partsL_eq or_.sorted fun b hb => (h.hi b hb).1, h1.parts, h2.parts] at q4
  rw [h1.knots, h2.knots] at q1
  rw [h1.bars, h2.bars] at q2
  rw [h1.meshes, h2.meshes] at q3
  have e1 := h1.holes
  have e2 := h2.holes
  unfold cntA
  rw [if_pos hu, q1, q2, q3, q4]
  simp only [Int.natCast_add]
  rw [show (ba : Int) + br - (ka + kr) + (pa + pr) - (ma + mr) = na + nr by omega]
/-- knots of both -/
def comK (K L : List Knot) : Nat := (K.filter fun k => decide (k ∈ L)).length
theorem knots_both {b : List Bar} : (holeK (setB (a ++ b))).length + comK (holeK a) (holeK b) = (holeK a).length + (holeK b).length := by
  have h1 : (holeK (setB (a ++ b))).length = (holeK a ++ (holeK b).filter fun k => decide (k ∉ holeK a)).length := by
    refine same_set_len (sortedK_nodup (holeK_sorted _)) ?_ fun k => ?_
    · rw [List.nodup_append]
      refine ⟨sortedK_nodup (holeK_sorted _), (sortedK_nodup (holeK_sorted _)).filter _, fun x hx y hy e => ?_⟩
      subst e
      have := (List.mem_filter.1 hy).2
      simp [hx] at this
    · rw [FarN.kmem, List.mem_append, List.mem_filter]
      by_cases h : k ∈ holeK a <;> simp [h]
  have h2 : comK (holeK a) (holeK b) = ((holeK b).filter fun k => decide (k ∈ holeK a)).length := by
    unfold comK
    refine same_set_len ((sortedK_nodup (holeK_sorted _)).filter _) ((sortedK_nodup (holeK_sorted _)).filter _) fun k => ?_
    simp only [List.mem_filter, decide_eq_true_eq]
    exact and_comm
  have h3 := split_len (fun k => decide (k ∈ holeK a)) (holeK b)
  rw [h1, h2, List.length_append]
  have h4 : ((holeK b).filter fun k => decide (k ∉ holeK a)).length = ((holeK b).filter fun k => !decide (k ∈ holeK a)).length := by congr 2; funext k; simp
  omega
theorem comK_take {K L : List Knot} {k : Nat} (h : k < K.length) : comK (K.take (k + 1)) L = comK (K.take k) L + if K[k] ∈ L then 1 else 0 := by
  unfold comK
  rw [List.take_succ_eq_append_getElem h, List.filter_append, List.length_append]
  by_cases q : K[k] ∈ L <;> simp [q]
theorem comK_le (K L : List Knot) : comK K L ≤ K.length := List.length_filter_le _ _
theorem near_apart {b : List Bar} (ha : NearL 200 a) (hb : NearL 200 b) : FarN a (b.map (shB (1000, 1000))) where
  lo := fun x hx => by
    obtain ⟨h1, _, h3, _⟩ := ha x hx
    exact ⟨h3, by omega⟩
  hi := fun x hx => by
    obtain ⟨c, hc, rfl⟩ := List.mem_map.1 hx
    obtain ⟨h1, _, h3, _⟩ := hb c hc
    unfold shB Sided
    simp only
    exact ⟨h3, by omega⟩
end Go.Proofs.Ytpoaomdpcoaolaa

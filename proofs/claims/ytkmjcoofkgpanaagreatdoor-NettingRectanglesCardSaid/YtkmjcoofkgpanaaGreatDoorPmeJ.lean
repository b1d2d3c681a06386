/- The cycles of a net, plain. Conditions: the net is in its order. -/
import Derived.Test.YtkmjcoofkgpanaaGreatDoorB21
import Derived.Test.YtkmjcoofkgpanaaGreatDoorPmdJ
import Derived.Test.YtkmjcoofkgpanaaGreatDoorPmbJ
namespace Go.Proofs.YtkmjcoofkgpanaaGreatDoor
open Go.RowKit Go.ChangeMaps
set_option maxHeartbeats 4000000
set_option maxRecDepth 100000

/-- the cycles of a net: bars less knots, and parts -/
noncomputable def cyc (l : List Bar) : Int := (l.length : Int) - (holeK l).length + (prtC l l.length).length
theorem cyc_eq {l : List Bar} {f : Knot → Knot} (hf : Lab l f) {W : List Knot} (hW : W.Nodup) (hs : ∀ k ∈ holeK l, k ∈ W) : cyc l = (l.length : Int) - W.length + nL f W := by
  have h1 := nL_more hf hW hs
  unfold cyc
  rw [parts_len hf]
  omega
theorem up_ne_low {b : Bar} : lowK b ≠ uppK b := fun e => by
  have : b.2.1 = b.2.1 + 1 := congrArg Prod.snd e
  omega
/-- one bar more: one cycle more, or none; where one, as many knots and parts -/
theorem cyc_more {l r : List Bar} {b : Bar} (hl : l.length = r.length + 1) (hm : ∀ x, x ∈ l ↔ x = b ∨ x ∈ r) : cyc l = cyc r ∨ cyc l = cyc r + 1 ∧ (holeK l).length = (holeK r).length ∧ (prtC l l.length).length = (prtC r r.length).length := by
  obtain ⟨f, hf⟩ := lab_ex r
  have hf' : Lab l (mrgF f b) := (hf.cons_ b).congr fun x => by rw [hm, List.mem_cons]
  have hW := sortedK_nodup (holeK_sorted l)
  have hb : b ∈ l := (hm b).2 (.inl rfl)
  have hu : lowK b ∈ holeK l := (holeK_ends l _).2 ⟨b, hb, .inl rfl⟩
  have hv : uppK b ∈ holeK l := (holeK_ends l _).2 ⟨b, hb, .inr rfl⟩
  have hsub : ∀ k ∈ holeK r, k ∈ holeK l := fun k hk => by
    rw [holeK_ends] at hk ⊢
    obtain ⟨c, hc, h⟩ := hk
    exact ⟨c, (hm c).2 (.inr hc), h⟩
  have e1 := cyc_eq hf hW hsub
  have e2 := cyc_eq hf' hW fun k hk => hk
  have e3 := nL_mrg (f := f) hu hv
  by_cases h : f (lowK b) = f (uppK b)
  · rw [if_pos h] at e3
    refine .inr ⟨by omega, ?_⟩
    have hk : KC r (lowK b) (uppK b) := (hf _ _).1 h
    have hu' : uppK b ∈ holeK r := hk.ends up_ne_low
    have hl' : lowK b ∈ holeK r := hk.symm.ends up_ne_low.symm
    have hK : holeK l = holeK r := sortedK_eq (holeK_sorted l) (holeK_sorted r) fun k => by
      refine ⟨fun hk => ?_, hsub k⟩
      obtain ⟨c, hc, hce⟩ := (holeK_ends l k).1 hk
      rcases (hm c).1 hc with hcb | hc
      · subst hcb
        rcases hce with hce | hce
        · rw [hce]; exact hl'
        · rw [hce]; exact hu'
      · exact (holeK_ends r k).2 ⟨c, hc, hce⟩
    refine ⟨by rw [hK], ?_⟩
    rw [parts_len hf, parts_len hf', ← hK]
    omega
  · rw [if_neg h] at e3
    exact .inl (by omega)
/-- the last bar of a mesh, if the mesh is there -/
def topM (l : List Bar) (b : Bar) : Bool := decide (b.2.2 = -1) && hasb l (b.1 - 1, b.2.1 - 1, -1) && hasb l (b.1 - 1, b.2.1 - 1, 1) && hasb l (b.1 - 2, b.2.1, 1)
theorem topM_iff (l : List Bar) (b : Bar) : topM l b = true ↔ b.2.2 = -1 ∧ (b.1 - 1, b.2.1 - 1, (-1 : Int)) ∈ l ∧ (b.1 - 1, b.2.1 - 1, (1 : Int)) ∈ l ∧ (b.1 - 2, b.2.1, (1 : Int)) ∈ l := by
  unfold topM hasb
  simp only [Bool.and_eq_true, decide_eq_true_eq, and_assoc]
theorem isMesh_iff (l : List Bar) (b : Bar) : isMesh l b = true ↔ b.2.2 = -1 ∧ (b.1, b.2.1, (1 : Int)) ∈ l ∧ (b.1 - 1, b.2.1 + 1, (1 : Int)) ∈ l ∧ (b.1 + 1, b.2.1 + 1, (-1 : Int)) ∈ l := by
  unfold isMesh hasb
  simp only [Bool.and_eq_true, decide_eq_true_eq, and_assoc]
theorem mesh_top {l : List Bar} (hn : l.Nodup) : (l.filter (isMesh l)).length = (l.filter (topM l)).length := by
  have up : ((l.filter (isMesh l)).map fun b => ((b.1 + 1, b.2.1 + 1, -1) : Bar)).length ≤ (l.filter (topM l)).length := by
    refine length_le_of_sub (nodup_map (hn.filter _) fun a ha b hb e => ?_) fun x hx => ?_
    · have h1 := ((isMesh_iff l a).1 (List.mem_filter.1 ha).2).1
      have h2 := ((isMesh_iff l b).1 (List.mem_filter.1 hb).2).1
      obtain ⟨x, y, s⟩ := a
      obtain ⟨x', y', s'⟩ := b
      simp only [Prod.mk.injEq] at *
      omega
    · obtain ⟨a, ha, rfl⟩ := List.mem_map.1 hx
      obtain ⟨ha, hm⟩ := List.mem_filter.1 ha
      obtain ⟨h1, h2, h3, h4⟩ := (isMesh_iff l a).1 hm
      obtain ⟨x, y, s⟩ := a
      simp only at h1 h2 h3 h4
      subst h1
      refine List.mem_filter.2 ⟨h4, (topM_iff l _).2 ⟨rfl, ?_, ?_, ?_⟩⟩
      · simpa [Int.add_sub_cancel] using ha
      · simpa [Int.add_sub_cancel] using h2
      · rw [show x + 1 - 2 = x - 1 by omega]; exact h3
  have down : ((l.filter (topM l)).map fun b => ((b.1 - 1, b.2.1 - 1, -1) : Bar)).length ≤ (l.filter (isMesh l)).length := by
    refine length_le_of_sub (nodup_map (hn.filter _) fun a ha b hb e => ?_) fun x hx => ?_
    · have h1 := ((topM_iff l a).1 (List.mem_filter.1 ha).2).1
      have h2 := ((topM_iff l b).1 (List.mem_filter.1 hb).2).1
      obtain ⟨x, y, s⟩ := a
      obtain ⟨x', y', s'⟩ := b
      simp only [Prod.mk.injEq] at *
      omega
    · obtain ⟨a, ha, rfl⟩ := List.mem_map.1 hx
      obtain ⟨ha, hm⟩ := List.mem_filter.1 ha
      obtain ⟨h1, h2, h3, h4⟩ := (topM_iff l a).1 hm
      obtain ⟨x, y, s⟩ := a
      simp only at h1 h2 h3 h4
      subst h1
      refine List.mem_filter.2 ⟨h2, (isMesh_iff l _).2 ⟨rfl, h3, ?_, ?_⟩⟩
      · rw [show x - 1 - 1 = x - 2 by omega, show y - 1 + 1 = y by omega]; exact h4
      · rw [show x - 1 + 1 = x by omega, show y - 1 + 1 = y by omega]; exact ha
  rw [List.length_map] at up down
  omega
/-- each mesh closes a cycle: no net has fewer cycles than meshes -/
theorem mesh_le {l : List Bar} (hs : l.Pairwise bltP) : ((l.filter (isMesh l)).length : Int) ≤ cyc l := by
  have hn := sortedB_nodup hs
  rw [mesh_top hn]
  have hW := sortedK_nodup (holeK_sorted l)
  have key : ∀ k, k ≤ l.length → ∃ f, Lab (l.take k) f ∧ (((l.take k).filter (topM l)).length : Int) ≤ (k : Int) - (holeK l).length + nL f (holeK l) := fun k => by
    induction k with
    | zero =>
      intro _
      refine ⟨id, Lab.nil_, ?_⟩
      have : nL id (holeK l) = (holeK l).length := (nL_len hW fun x => by simp).symm
      rw [this]
      simp
      omega
    | succ k ih =>
      intro hk
      have hlt : k < l.length := by omega
      obtain ⟨f, hf, hle⟩ := ih (by omega)
      have hb : l[k] ∈ l := List.getElem_mem hlt
      have hu : lowK l[k] ∈ holeK l := (holeK_ends l _).2 ⟨_, hb, .inl rfl⟩
      have hv : uppK l[k] ∈ holeK l := (holeK_ends l _).2 ⟨_, hb, .inr rfl⟩
      have e3 := nL_mrg (f := f) hu hv
      refine ⟨mrgF f l[k], (hf.cons_ l[k]).congr fun x => ?_, ?_⟩
      · rw [← List.take_append_getElem hlt, List.mem_append, List.mem_cons, List.mem_singleton]; exact or_comm
      · rw [← List.take_append_getElem hlt, List.filter_append, List.length_append]
        by_cases ht : topM l l[k] = true
        · have hc : f (lowK l[k]) = f (uppK l[k]) := by
            obtain ⟨h1, h2, h3, h4⟩ := (topM_iff l l[k]).1 ht
            have before : ∀ c ∈ l, bltP c l[k] → c ∈ l.take k := fun c hc hlt' => by
              obtain ⟨j, hj, rfl⟩ := List.getElem_of_mem hc
              refine List.mem_take_iff_getElem.2 ⟨j, ?_, rfl⟩
              have : j < k := by
                rcases Nat.lt_trichotomy j k with h | h | h
                · exact h
                · subst h; exact absurd hlt' (bltP_irrefl _)
                · have := List.pairwise_iff_getElem.1 hs k j hlt hj h
                  exact absurd (bltP_trans this hlt') (bltP_irrefl _)
              omega
            obtain ⟨⟨x, y, s⟩, hx⟩ : ∃ z, l[k] = z := ⟨_, rfl⟩
            rw [hx] at h1 h2 h3 h4 before ⊢
            simp only at h1 h2 h3 h4
            subst h1
            have m2 := before _ h2 ((bltP_iff _ _).2 (by simp only; omega))
            have m3 := before _ h3 ((bltP_iff _ _).2 (by simp only; omega))
            have m4 := before _ h4 ((bltP_iff _ _).2 (.inr ⟨rfl, .inl (show x - 2 < x by omega)⟩))
            have c2 := KC.bar m2
            have c3 := KC.bar m3
            have c4 := KC.bar m4
            unfold lowK uppK at c2 c3 c4
            simp only at c2 c3 c4
            rw [show x - 1 + -1 = x - 2 by omega, show y - 1 + 1 = y by omega] at c2
            rw [show x - 1 + 1 = x by omega, show y - 1 + 1 = y by omega] at c3
            rw [show x - 2 + 1 = x - 1 by omega] at c4
            refine (hf _ _).2 ?_
            unfold lowK uppK
            simp only
            rw [show x + -1 = x - 1 by omega]
            exact (c3.symm.trans c2).trans c4
          rw [if_pos hc] at e3
          rw [List.filter_cons_of_pos (by simpa using ht)]
          simp only [List.filter_nil, List.length_singleton]
          omega
        · rw [List.filter_cons_of_neg (by simpa using ht)]
          simp only [List.filter_nil, List.length_nil]
          split at e3 <;> omega
  obtain ⟨f, hf, hle⟩ := key l.length (Nat.le_refl _)
  rw [List.take_length] at hf hle
  rw [cyc_eq hf hW fun k hk => hk]
  exact hle
end Go.Proofs.YtkmjcoofkgpanaaGreatDoor

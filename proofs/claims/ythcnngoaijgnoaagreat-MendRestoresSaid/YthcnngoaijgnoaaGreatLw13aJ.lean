/- The statement MendRestores where the torn net is not ready, walked. Conditions: slices that read as lists. -/
import Derived.Test.YthcnngoaijgnoaaGreatK11
import Derived.Test.YthcnngoaijgnoaaGreatPlrJ
import Derived.Test.YthcnngoaijgnoaaGreatValJ
import Derived.Deep.CutRange
namespace Go.Proofs.YthcnngoaijgnoaaGreat
open Go.RowKit Go.ChangeMaps
set_option maxHeartbeats 16000000
set_option maxRecDepth 100000

theorem run_cases {N D : List Bar} (hE : tornE N D = 0) (hr : rdyB D = false) : runL N D = [] ∧ (runE N D = 18 ∨ (runE N D = 7 ∧ D = [])) := by
  have h0 : runO D = none := by
    unfold rdyB at hr
    cases h : runO D with
    | none => rfl
    | some x => rw [h] at hr; cases hr
  unfold runL runE noneE
  rw [hE]
  cases D with
  | nil => exact ⟨rfl, .inr ⟨rfl, rfl⟩⟩
  | cons b r => refine ⟨?_, .inl ?_⟩
                · show (runO (b :: r)).getD [] = []
                  rw [h0]; rfl
                · show whenI (!rdyB (b :: r)) 18 = 18
                  rw [hr]; rfl
theorem mendRestores_no {v u : Value} (N D : List Bar) (w : World) (hN : SlB w v N) (hD : SlB w u D) (hno : vldB N D 40 = false ∨ rdyB D = false) : Calls Tryz.prog 12 #[.agg #[v, u]] w (RV w (.bool true)) := by
  have hN' := hN
  obtain ⟨A1, c1, rfl, _, _, hr1⟩ := hN'
  have hD' := hD
  obtain ⟨A2, c2, rfl, hlc2, hcm2, hr2⟩ := hD'
  clear hr1 hr2
  have hl2 : D.length ≤ maxLen := Nat.le_trans hlc2 hcm2
  unfold maxLen at hl2
  have hB := Blk.new w 24 #[.slice A1 N.length c1, .slice A2 D.length c2]
  have fhB := hB.facts
  have hvl := fun W (hN : SlB W (.slice A1 N.length c1) N) (hD : SlB W (.slice A2 D.length c2) D) => valid_any N D 40 W hN hD
  obtain ⟨qv, hqv⟩ : ∃ q, vldB N D 40 = q := ⟨_, rfl⟩
  rw [hqv] at hno
  simp only [hqv] at hvl
  cases qv
  · clear hqv hno
    go_enter Tryz.func12, Tryz.ntmps12
    go_wp2_with fail
    refine (hvl _ (hN.below (by (repeat (first | exact bl_refl | assumption | (apply bl_then; assumption) | refine bl_alloc ?_ _ | refine bl_drew ?_ | refine bl_drewN ?_ _)))) (hD.below (by (repeat (first | exact bl_refl | assumption | (apply bl_then; assumption) | refine bl_alloc ?_ _ | refine bl_drew ?_ | refine bl_drewN ?_ _))))).mono ?_
    rintro e w1 ⟨rfl, hb1⟩
    replace hB := hB.below (show Below _ _ w1 by (repeat (first | exact bl_refl | assumption | (apply bl_then; assumption) | refine bl_alloc ?_ _ | refine bl_drew ?_ | refine bl_drewN ?_ _)))
    replace fhB := hB.facts
    go_wp2_with fail
    refine (awake_any _).mono ?_
    rintro e w2 ⟨rfl, hb2⟩
    go_wp2
    go_ret
    exact ⟨rfl, by (repeat (first | exact bl_refl | assumption | (apply bl_then; assumption) | refine bl_alloc ?_ _ | refine bl_drew ?_ | refine bl_drewN ?_ _))⟩
  obtain ⟨hs, hE⟩ := vld_ok hqv
  have hrd : rdyB D = false := by
    rcases hno with h | h
    · cases h
    · exact h
  clear hqv hno
  obtain ⟨hL0, hE1⟩ := run_cases hE hrd
  have hru : ∀ {v u : Value} (w : World), SlB w v N → SlB w u D → Calls Tryz.prog 20 #[.agg #[v, u]] w (RKE w [] (runE N D)) := fun w h1 h2 => by
    have := prun_any N D w h1 h2
    rwa [hL0] at this
  have hre : ∀ {v u : Value} (w : World), SlB w v N → SlB w u D → Calls Tryz.prog 17 #[.agg #[v, u]] w (RV w (.tuple #[.bool false, .int .i64 0])) := fun w h1 h2 => by
    have := pready_any N D w h1 h2
    rwa [show readyR N D = false by unfold readyR; rw [if_pos hE, hrd], hE] at this
  have hod : ∀ {v u : Value} (w : World), SlB w v N → SlB w u D → Calls Tryz.prog 42 #[.agg #[v, u]] w (RKE w (oddK D) 0) := fun w h1 h2 => by
    have := podd_any N D w h1 h2
    rwa [show oddR N D = oddK D by unfold oddR; rw [if_pos hE], hE] at this
  obtain ⟨E1, hE1'⟩ : ∃ x, runE N D = x := ⟨_, rfl⟩
  obtain ⟨O, hO⟩ : ∃ x, oddK D = x := ⟨_, rfl⟩
  simp only [hE1', hO] at hru hod hE1
  have hc : (E1 = 18) ∨ (E1 = 7 ∧ ((D.length : Int) == 0) = true) := hE1.imp id (fun h => ⟨h.1, by rw [h.2]; rfl⟩)
  clear hE1 hE1' hO hL0 hrd hE
  go_enter Tryz.func12, Tryz.ntmps12
  go_wp2_with fail
  refine (hvl _ (hN.below (by (repeat (first | exact bl_refl | assumption | (apply bl_then; assumption) | refine bl_alloc ?_ _ | refine bl_drew ?_ | refine bl_drewN ?_ _)))) (hD.below (by (repeat (first | exact bl_refl | assumption | (apply bl_then; assumption) | refine bl_alloc ?_ _ | refine bl_drew ?_ | refine bl_drewN ?_ _))))).mono ?_
  rintro e w1 ⟨rfl, hb1⟩
  replace hB := hB.below (show Below _ _ w1 by (repeat (first | exact bl_refl | assumption | (apply bl_then; assumption) | refine bl_alloc ?_ _ | refine bl_drew ?_ | refine bl_drewN ?_ _)))
  replace fhB := hB.facts
  go_wp2_with fail
  refine (torn_any N D _ (hN.below (by (repeat (first | exact bl_refl | assumption | (apply bl_then; assumption) | refine bl_alloc ?_ _ | refine bl_drew ?_ | refine bl_drewN ?_ _)))) (hD.below (by (repeat (first | exact bl_refl | assumption | (apply bl_then; assumption) | refine bl_alloc ?_ _ | refine bl_drew ?_ | refine bl_drewN ?_ _)))) (by omega) (by omega)).mono ?_
  rintro e w2 ⟨v2, u2, rfl, hN2, hD2, hb2⟩
  replace hB := hB.below (show Below _ _ w2 by (repeat (first | exact bl_refl | assumption | (apply bl_then; assumption) | refine bl_alloc ?_ _ | refine bl_drew ?_ | refine bl_drewN ?_ _)))
  replace fhB := hB.facts
  go_wp2_with fail
  refine (hru _ (hN2.rd bc_len) (hD2.rd bc_len)).mono ?_
  rintro e w3 ⟨v3, rfl, hL3, hb3⟩
  replace hB := hB.below (show Below _ _ w3 by (repeat (first | exact bl_refl | assumption | (apply bl_then; assumption) | refine bl_alloc ?_ _ | refine bl_drew ?_ | refine bl_drewN ?_ _)))
  replace fhB := hB.facts
  go_wp2_with fail
  refine (torn_any N D _ (hN.below (by (repeat (first | exact bl_refl | assumption | (apply bl_then; assumption) | refine bl_alloc ?_ _ | refine bl_drew ?_ | refine bl_drewN ?_ _)))) (hD.below (by (repeat (first | exact bl_refl | assumption | (apply bl_then; assumption) | refine bl_alloc ?_ _ | refine bl_drew ?_ | refine bl_drewN ?_ _)))) (by omega) (by omega)).mono ?_
  rintro e w4 ⟨v4, u4, rfl, hN4, hD4, hb4⟩
  replace hB := hB.below (show Below _ _ w4 by (repeat (first | exact bl_refl | assumption | (apply bl_then; assumption) | refine bl_alloc ?_ _ | refine bl_drew ?_ | refine bl_drewN ?_ _)))
  replace fhB := hB.facts
  go_wp2_with fail
  refine (hre _ (hN4.rd bc_len) (hD4.rd bc_len)).mono ?_
  rintro e w5 ⟨rfl, hb5⟩
  replace hB := hB.below (show Below _ _ w5 by (repeat (first | exact bl_refl | assumption | (apply bl_then; assumption) | refine bl_alloc ?_ _ | refine bl_drew ?_ | refine bl_drewN ?_ _)))
  replace fhB := hB.facts
  go_wp2_with fail
  refine (torn_any N D _ (hN.below (by (repeat (first | exact bl_refl | assumption | (apply bl_then; assumption) | refine bl_alloc ?_ _ | refine bl_drew ?_ | refine bl_drewN ?_ _)))) (hD.below (by (repeat (first | exact bl_refl | assumption | (apply bl_then; assumption) | refine bl_alloc ?_ _ | refine bl_drew ?_ | refine bl_drewN ?_ _)))) (by omega) (by omega)).mono ?_
  rintro e w6 ⟨v6, u6, rfl, hN6, hD6, hb6⟩
  replace hB := hB.below (show Below _ _ w6 by (repeat (first | exact bl_refl | assumption | (apply bl_then; assumption) | refine bl_alloc ?_ _ | refine bl_drew ?_ | refine bl_drewN ?_ _)))
  replace fhB := hB.facts
  go_wp2_with fail
  refine (hod _ (hN6.rd bc_len) (hD6.rd bc_len)).mono ?_
  rintro e w7 ⟨v7, rfl, hO7, hb7⟩
  replace hB := hB.below (show Below _ _ w7 by (repeat (first | exact bl_refl | assumption | (apply bl_then; assumption) | refine bl_alloc ?_ _ | refine bl_drew ?_ | refine bl_drewN ?_ _)))
  replace fhB := hB.facts
  have hbw7 : Below w.heap.size w w7 := by (repeat (first | exact bl_refl | assumption | (apply bl_then; assumption) | refine bl_alloc ?_ _ | refine bl_drew ?_ | refine bl_drewN ?_ _))
  clear hN2 hD2 hN4 hD4 hN6 hD6 hb1 hb2 hb3 hb4 hb5 hb6 hb7 hvl hru hre hod hL3 hO7
  rcases hc with rfl | ⟨rfl, hd⟩
  · go_wp2_with fail
    refine (awake_any _).mono ?_
    rintro e wz ⟨rfl, hbz⟩
    go_wp2
    go_ret
    exact ⟨rfl, by (repeat (first | exact bl_refl | assumption | (apply bl_then; assumption) | refine bl_alloc ?_ _ | refine bl_drew ?_ | refine bl_drewN ?_ _))⟩
  · go_wp2_with fail
    refine (awake_any _).mono ?_
    rintro e wz ⟨rfl, hbz⟩
    go_wp2
    go_ret
    exact ⟨rfl, by (repeat (first | exact bl_refl | assumption | (apply bl_then; assumption) | refine bl_alloc ?_ _ | refine bl_drew ?_ | refine bl_drewN ?_ _))⟩
end Go.Proofs.YthcnngoaijgnoaaGreat

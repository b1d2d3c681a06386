/- The statement MendRules, walked. Conditions: slices that read as lists. -/
import Derived.Test.YthcnngoaijgnoaaGreatK11
import Derived.Test.YthcnngoaijgnoaaGreatRlpJ
import Derived.Test.YthcnngoaijgnoaaGreatRruJ
namespace Go.Proofs.YthcnngoaijgnoaaGreat
open Go.RowKit Go.ChangeMaps
set_option maxHeartbeats 16000000
set_option maxRecDepth 100000

theorem mendRules_any {v u : Value} (N D : List Bar) (w : World) (hN : SlB w v N) (hD : SlB w u D) : Calls Tryz.prog 13 #[.agg #[v, u]] w (RV w (.bool true)) := by
  have hN' := hN
  obtain ⟨A1, c1, rfl, hlc1, hcm1, hr1⟩ := hN'
  have hD' := hD
  obtain ⟨A2, c2, rfl, hlc2, hcm2, hr2⟩ := hD'
  clear hr1 hr2
  have hl1 : N.length ≤ maxLen := Nat.le_trans hlc1 hcm1
  have hl2 : D.length ≤ maxLen := Nat.le_trans hlc2 hcm2
  unfold maxLen at hl1 hl2
  have hB := Blk.new w 24 #[.slice A1 N.length c1, .slice A2 D.length c2]
  have fhB := hB.facts
  have hshort := fun W (hN : SlB W (.slice A1 N.length c1) N) (hD : SlB W (.slice A2 D.length c2) D) => short_any N D 40 W hN hD
  obtain ⟨qs, hqs⟩ : ∃ q, (decide ((N.length : Int) ≤ 40) && decide ((D.length : Int) ≤ 40)) = q := ⟨_, rfl⟩
  simp only [hqs] at hshort
  cases qs
  · clear hqs
    go_enter Tryz.func13, Tryz.ntmps13
    go_wp2_with fail
    refine (hshort _ (hN.below (by (repeat (first | exact bl_refl | assumption | (apply bl_then; assumption) | refine bl_alloc ?_ _ | refine bl_drew ?_ | refine bl_drewN ?_ _)))) (hD.below (by (repeat (first | exact bl_refl | assumption | (apply bl_then; assumption) | refine bl_alloc ?_ _ | refine bl_drew ?_ | refine bl_drewN ?_ _))))).mono ?_
    rintro e w1 ⟨rfl, hb1⟩
    replace hB := hB.below (show Below _ _ w1 by (repeat (first | exact bl_refl | assumption | (apply bl_then; assumption) | refine bl_alloc ?_ _ | refine bl_drew ?_ | refine bl_drewN ?_ _)))
    replace fhB := hB.facts
    go_wp2_with fail
    refine (awake_any _).mono ?_
    rintro e w2 ⟨rfl, hb2⟩
    go_wp2
    go_ret
    exact ⟨rfl, by (repeat (first | exact bl_refl | assumption | (apply bl_then; assumption) | refine bl_alloc ?_ _ | refine bl_drew ?_ | refine bl_drewN ?_ _))⟩
  · have hsz : N.length ≤ 40 ∧ D.length ≤ 40 := by simp at hqs; omega
    clear hqs
    go_enter Tryz.func13, Tryz.ntmps13
    go_wp2_with fail
    refine (hshort _ (hN.below (by (repeat (first | exact bl_refl | assumption | (apply bl_then; assumption) | refine bl_alloc ?_ _ | refine bl_drew ?_ | refine bl_drewN ?_ _)))) (hD.below (by (repeat (first | exact bl_refl | assumption | (apply bl_then; assumption) | refine bl_alloc ?_ _ | refine bl_drew ?_ | refine bl_drewN ?_ _))))).mono ?_
    rintro e w1 ⟨rfl, hb1⟩
    replace hB := hB.below (show Below _ _ w1 by (repeat (first | exact bl_refl | assumption | (apply bl_then; assumption) | refine bl_alloc ?_ _ | refine bl_drew ?_ | refine bl_drewN ?_ _)))
    replace fhB := hB.facts
    go_wp2_with fail
    refine (torn_any N D _ (hN.below (by (repeat (first | exact bl_refl | assumption | (apply bl_then; assumption) | refine bl_alloc ?_ _ | refine bl_drew ?_ | refine bl_drewN ?_ _)))) (hD.below (by (repeat (first | exact bl_refl | assumption | (apply bl_then; assumption) | refine bl_alloc ?_ _ | refine bl_drew ?_ | refine bl_drewN ?_ _)))) (by omega) (by omega)).mono ?_
    rintro e w2 ⟨v2, u2, rfl, hN2, hD2, hb2⟩
    replace hB := hB.below (show Below _ _ w2 by (repeat (first | exact bl_refl | assumption | (apply bl_then; assumption) | refine bl_alloc ?_ _ | refine bl_drew ?_ | refine bl_drewN ?_ _)))
    replace fhB := hB.facts
    go_wp2_with fail
    refine (rule_any N D _ (hN2.rd bc_len) (hD2.rd bc_len)).mono ?_
    rintro e w3 ⟨v3, rfl, hX3, hb3⟩
    replace hB := hB.below (show Below _ _ w3 by (repeat (first | exact bl_refl | assumption | (apply bl_then; assumption) | refine bl_alloc ?_ _ | refine bl_drew ?_ | refine bl_drewN ?_ _)))
    replace fhB := hB.facts
    obtain ⟨A3, c3, rfl⟩ := hX3.shape
    have hX3' : SlB w3 _ _ := hX3.rd bc_len
    go_wp2_with fail
    refine (rtorn_any N D _ (hN.below (by (repeat (first | exact bl_refl | assumption | (apply bl_then; assumption) | refine bl_alloc ?_ _ | refine bl_drew ?_ | refine bl_drewN ?_ _)))) (hD.below (by (repeat (first | exact bl_refl | assumption | (apply bl_then; assumption) | refine bl_alloc ?_ _ | refine bl_drew ?_ | refine bl_drewN ?_ _))))).mono ?_
    rintro e w4 ⟨rfl, hb4⟩
    replace hB := hB.below (show Below _ _ w4 by (repeat (first | exact bl_refl | assumption | (apply bl_then; assumption) | refine bl_alloc ?_ _ | refine bl_drew ?_ | refine bl_drewN ?_ _)))
    replace fhB := hB.facts
    have hX4 := hX3'.below (show Below _ _ w4 by (repeat (first | exact bl_refl | assumption | (apply bl_then; assumption) | refine bl_alloc ?_ _ | refine bl_drew ?_ | refine bl_drewN ?_ _)))
    have hbw4 : Below w.heap.size w w4 := by (repeat (first | exact bl_refl | assumption | (apply bl_then; assumption) | refine bl_alloc ?_ _ | refine bl_drew ?_ | refine bl_drewN ?_ _))
    clear hX3 hX3' hN2 hD2 hb1 hb2 hb3 hb4
    go_upto_if 22 with fail
    go_cut [5, 6] from 7 (fun s5 s6 wx => s5 = .int .i64 (ruleE N D) ∧ SlB wx s6 (ruleL N D) ∧ Below w4.heap.size w4 wx)
    case first =>
      by_cases hE : tornE N D = 0
      · have hE' : (tornE N D == 0) = true := by rw [hE]; rfl
        have hok := torn_ok hE
        have HL : Hid (ruleE N D = whenI (ruleO N D).isNone 23 ∧ ruleL N D = (ruleO N D).getD []) := by
          have h1 : ruleE N D = whenI (ruleO N D).isNone 23 := by
            unfold ruleE
            rw [if_pos hE]
            cases ruleO N D <;> rfl
          refine ⟨h1, ?_⟩
          unfold ruleL
          rw [h1]
          cases ruleO N D <;> rfl
        clear hE
        go_wp2_with fail
        refine (rrule_any N D _ (hN.below (by (repeat (first | exact bl_refl | assumption | (apply bl_then; assumption) | refine bl_alloc ?_ _ | refine bl_drew ?_ | refine bl_drewN ?_ _)))) (hD.below (by (repeat (first | exact bl_refl | assumption | (apply bl_then; assumption) | refine bl_alloc ?_ _ | refine bl_drew ?_ | refine bl_drewN ?_ _)))) hok.net.ok hok.dam.ok (by omega) (by omega)).mono ?_
        rintro e w5 ⟨v5, rfl, hX5, hb5⟩
        obtain ⟨A5, c5, rfl⟩ := hX5.shape
        go_wp2_with fail
        refine (lwhen_any (ruleO N D).isNone 23 _).mono ?_
        rintro e w6 ⟨rfl, hb6⟩
        go_wp2_with fail
        go_meet
        case rel => exact ⟨by rw [HL.out.1], by rw [HL.out.2]; exact (hX5.rd bc_len).below (by (repeat (first | exact bl_refl | assumption | (apply bl_then; assumption) | refine bl_alloc ?_ _ | refine bl_drew ?_ | refine bl_drewN ?_ _))), by (repeat (first | exact bl_refl | assumption | (apply bl_then; assumption) | refine bl_alloc ?_ _ | refine bl_drew ?_ | refine bl_drewN ?_ _))⟩
      · have hE' : (tornE N D == 0) = false := by simpa using hE
        have HL : Hid (ruleE N D = tornE N D ∧ ruleL N D = []) := by
          have h1 : ruleE N D = tornE N D := by unfold ruleE; rw [if_neg hE]
          refine ⟨h1, ?_⟩
          unfold ruleL
          rw [h1, if_neg hE]
        clear hE
        go_wp2_with fail
        go_meet
        case rel => exact ⟨by rw [HL.out.1], by rw [HL.out.2]; exact Sl.nil_, by (repeat (first | exact bl_refl | assumption | (apply bl_then; assumption) | refine bl_alloc ?_ _ | refine bl_drew ?_ | refine bl_drewN ?_ _))⟩
    case rest =>
      obtain ⟨rfl, hX, hbd⟩ := hcut
      have hX5 := hX4.below hbd
      have hbwc : Below w.heap.size w wc := bl_then hbd hbw4
      clear hbd hbw4 hX4
      go_wp2_with fail
      refine (sameBars_any _ _ _ (hX5.below (by (repeat (first | exact bl_refl | assumption | (apply bl_then; assumption) | refine bl_alloc ?_ _ | refine bl_drew ?_ | refine bl_drewN ?_ _)))) (hX.below (by (repeat (first | exact bl_refl | assumption | (apply bl_then; assumption) | refine bl_alloc ?_ _ | refine bl_drew ?_ | refine bl_drewN ?_ _))))).mono ?_
      rintro e w16 ⟨rfl, hb16⟩
      go_wp2_with fail
      refine (awake_any _).mono ?_
      rintro e w18 ⟨rfl, hb18⟩
      go_wp2
      go_ret
      exact ⟨rfl, by (repeat (first | exact bl_refl | assumption | (apply bl_then; assumption) | refine bl_alloc ?_ _ | refine bl_drew ?_ | refine bl_drewN ?_ _))⟩
end Go.Proofs.YthcnngoaijgnoaaGreat

/- PanelNets, walked. Conditions: the variables are laid. -/
import Derived.Test.YthkjgcldolnjaaaGreatDoorH37
import Derived.Test.YthkjgcldolnjaaaGreatDoorH40
import Derived.Test.YthkjgcldolnjaaaGreatDoorVrcJ
namespace Go.Proofs.YthkjgcldolnjaaaGreatDoor
open Go.RowKit Go.ChangeMaps
set_option maxHeartbeats 4000000
set_option maxRecDepth 100000

attribute [local go_sem] Oper.semAt_some
/-! # PanelNets -/
theorem panelNets_any {vL vR : Value} (p : Pan) (W : World) (hnm : p.1.length ≤ maxLen) (hL : SlE W vL p.2.2.1) (hR : SlE W vR p.2.2.2) (hLay : Lay W) :
    Calls Tryz.prog 4 #[.agg #[sV p.1, .int .i64 p.2.1, vL, vR]] W (RV W (.bool true)) := by
  have cAw := fun W' (hb : Below W.heap.size W W') => awakeP_any W' (hLay.below hb)
  have cSh := fun W' (hb : Below W.heap.size W W') => shortP_any p 16 W' hnm (hL.below hb) (hR.below hb)
  obtain ⟨q, hq⟩ : ∃ q, shortP p 16 = q := ⟨_, rfl⟩
  rw [hq] at cSh
  obtain ⟨AL, cL, hvL, hLc, hLm, rL⟩ := id hL
  obtain ⟨AR, cR, hvR, hRc, hRm, rR⟩ := id hR
  subst hvL hvR
  have hB1 := Blk.new W 24 #[.string ⟨p.1.toArray⟩, .int .i64 p.2.1, .slice AL p.2.2.1.length cL, .slice AR p.2.2.2.length cR]
  have fB1 := hB1.facts
  clear rL rR hLc hLm hRc hRm
  cases q
  · unfold sV at cSh ⊢
    clear hq hL hR
    go_enter Tryz.func4, Tryz.ntmps4
    go_wp2_with fail
    refine (cAw _ (by (repeat (first | exact bl_refl | assumption | (apply bl_then; assumption) | refine bl_alloc ?_ _ | refine bl_drew ?_ | refine bl_drewN ?_ _)))).mono ?_
    rintro e w1 ⟨rfl, hb1⟩
    replace hB1 := hB1.below (show Below _ _ w1 by (repeat (first | exact bl_refl | assumption | (apply bl_then; assumption) | refine bl_alloc ?_ _ | refine bl_drew ?_ | refine bl_drewN ?_ _)))
    replace fhB1 := hB1.facts
    go_wp2_with fail
    refine (cSh _ (by (repeat (first | exact bl_refl | assumption | (apply bl_then; assumption) | refine bl_alloc ?_ _ | refine bl_drew ?_ | refine bl_drewN ?_ _)))).mono ?_
    rintro e w2 ⟨rfl, hb2⟩
    go_wp2_with fail
    refine (cAw _ (by (repeat (first | exact bl_refl | assumption | (apply bl_then; assumption) | refine bl_alloc ?_ _ | refine bl_drew ?_ | refine bl_drewN ?_ _)))).mono ?_
    rintro e w3 ⟨rfl, hb3⟩
    go_wp2
    go_ret
    exact ⟨rfl, by (repeat (first | exact bl_refl | assumption | (apply bl_then; assumption) | refine bl_alloc ?_ _ | refine bl_drew ?_ | refine bl_drewN ?_ _))⟩
  · obtain ⟨hn60, ⟨hlL, hwL⟩, hlR, hwR⟩ := shortP_words hq
    have cG := fun W' (hb : Below W.heap.size W W') => given_any p W' (hL.below hb) (hR.below hb) (by omega) (by omega)
    have cRP := fun W' (hb : Below W.heap.size W W') => rcheckPanel_any p W' (by omega) (hL.below hb) (hR.below hb) (fun e he => by have := hwL e he; omega) (fun e he => by have := hwR e he; omega)
    unfold GIW at cG
    have cN := fun (vL vR : Value) W' hL hR => apiNet_any (vL := vL) (vR := vR) p W' (by omega) hL hR
    have cR := fun (vL vR : Value) W' hL hR => apiRows_any (vL := vL) (vR := vR) p W' (by omega) hL hR
    by_cases hz : panE p = 0
    · obtain ⟨hNe, _, _⟩ := small_all hq hz
      have hok := panE_zero hz
      have hfew := (shortP_small (n := 16) hq hok).few
      have cRN := fun W' (hb : Below W.heap.size W W') => rnetP_any p W' (hL.below hb) (hR.below hb) hok
      have cRR := fun W' (hb : Below W.heap.size W W') => rrowsP_any p W' (hL.below hb) (hR.below hb) hok hfew
      rw [hz] at cRP
      rw [hNe] at cN cR
      rw [show onlyOk 0 (netL p) = netL p from rfl] at cN
      rw [show onlyOk 0 (rowsL p) = rowsL p from rfl] at cR
      simp only [sV] at cSh cG cRP cN cR cRN cRR ⊢
      obtain ⟨N, hN⟩ : ∃ z, netL p = z := ⟨_, rfl⟩
      rw [hN] at cN cRN
      obtain ⟨R, hRR⟩ : ∃ z, rowsL p = z := ⟨_, rfl⟩
      rw [hRR] at cR cRR
      have cNet := fun (v u : Value) W' h h' => lnetP_any (v := v) (u := u) N N 0 0 W' h h'
      rw [show netBP N 0 0 N = true by unfold netBP; simp] at cNet
      have cSR := fun (v u : Value) W' h h' => sameRows_any (v := v) (u := u) R R W' h h'
      rw [show decide (R = R) = true from decide_eq_true rfl] at cSR
      clear hz hok hN hRR hNe hfew hq hwL hwR hL hR
      go_enter Tryz.func4, Tryz.ntmps4
      go_wp2_with fail
      refine (cAw _ (by (repeat (first | exact bl_refl | assumption | (apply bl_then; assumption) | refine bl_alloc ?_ _ | refine bl_drew ?_ | refine bl_drewN ?_ _)))).mono ?_
      rintro e w1 ⟨rfl, hb1⟩
      replace hB1 := hB1.below (show Below _ _ w1 by (repeat (first | exact bl_refl | assumption | (apply bl_then; assumption) | refine bl_alloc ?_ _ | refine bl_drew ?_ | refine bl_drewN ?_ _)))
      replace fhB1 := hB1.facts
      go_wp2_with fail
      refine (cSh _ (by (repeat (first | exact bl_refl | assumption | (apply bl_then; assumption) | refine bl_alloc ?_ _ | refine bl_drew ?_ | refine bl_drewN ?_ _)))).mono ?_
      rintro e w2 ⟨rfl, hb2⟩
      replace hB1 := hB1.below (show Below _ _ w2 by (repeat (first | exact bl_refl | assumption | (apply bl_then; assumption) | refine bl_alloc ?_ _ | refine bl_drew ?_ | refine bl_drewN ?_ _)))
      replace fhB1 := hB1.facts
      go_wp2_with fail
      refine (cG _ (by (repeat (first | exact bl_refl | assumption | (apply bl_then; assumption) | refine bl_alloc ?_ _ | refine bl_drew ?_ | refine bl_drewN ?_ _)))).mono ?_
      rintro e w3 ⟨uL3, uR3, rfl, oL3, oR3, hb3⟩
      replace hB1 := hB1.below (show Below _ _ w3 by (repeat (first | exact bl_refl | assumption | (apply bl_then; assumption) | refine bl_alloc ?_ _ | refine bl_drew ?_ | refine bl_drewN ?_ _)))
      replace fhB1 := hB1.facts
      go_wp2_with fail
      refine (cN _ _ _ (oL3.rd ec_len) (oR3.rd ec_len)).mono ?_
      rintro e w4 ⟨v4, rfl, hO4, hb4⟩
      replace hB1 := hB1.below (show Below _ _ w4 by (repeat (first | exact bl_refl | assumption | (apply bl_then; assumption) | refine bl_alloc ?_ _ | refine bl_drew ?_ | refine bl_drewN ?_ _)))
      replace fhB1 := hB1.facts
      obtain ⟨A4, c4, rfl⟩ := hO4.shape
      go_wp2_with fail
      refine (cG _ (by (repeat (first | exact bl_refl | assumption | (apply bl_then; assumption) | refine bl_alloc ?_ _ | refine bl_drew ?_ | refine bl_drewN ?_ _)))).mono ?_
      rintro e w5 ⟨uL5, uR5, rfl, oL5, oR5, hb5⟩
      replace hB1 := hB1.below (show Below _ _ w5 by (repeat (first | exact bl_refl | assumption | (apply bl_then; assumption) | refine bl_alloc ?_ _ | refine bl_drew ?_ | refine bl_drewN ?_ _)))
      replace fhB1 := hB1.facts
      go_wp2_with fail
      refine (cR _ _ _ (oL5.rd ec_len) (oR5.rd ec_len)).mono ?_
      rintro e w6 ⟨v6, rfl, hO6, hb6⟩
      replace hB1 := hB1.below (show Below _ _ w6 by (repeat (first | exact bl_refl | assumption | (apply bl_then; assumption) | refine bl_alloc ?_ _ | refine bl_drew ?_ | refine bl_drewN ?_ _)))
      replace fhB1 := hB1.facts
      obtain ⟨A6, c6, rfl⟩ := hO6.shape
      go_wp2_with fail
      refine (cRP _ (by (repeat (first | exact bl_refl | assumption | (apply bl_then; assumption) | refine bl_alloc ?_ _ | refine bl_drew ?_ | refine bl_drewN ?_ _)))).mono ?_
      rintro e w7 ⟨rfl, hb7⟩
      replace hB1 := hB1.below (show Below _ _ w7 by (repeat (first | exact bl_refl | assumption | (apply bl_then; assumption) | refine bl_alloc ?_ _ | refine bl_drew ?_ | refine bl_drewN ?_ _)))
      replace fhB1 := hB1.facts
      go_wp2_with fail
      refine (cRN _ (by (repeat (first | exact bl_refl | assumption | (apply bl_then; assumption) | refine bl_alloc ?_ _ | refine bl_drew ?_ | refine bl_drewN ?_ _)))).mono ?_
      rintro e w8 ⟨v8, rfl, hO8, hb8⟩
      replace hB1 := hB1.below (show Below _ _ w8 by (repeat (first | exact bl_refl | assumption | (apply bl_then; assumption) | refine bl_alloc ?_ _ | refine bl_drew ?_ | refine bl_drewN ?_ _)))
      replace fhB1 := hB1.facts
      go_wp2_with fail
      refine (cNet _ _ _ ((hO4.rd bc_len).below (by (repeat (first | exact bl_refl | assumption | (apply bl_then; assumption) | refine bl_alloc ?_ _ | refine bl_drew ?_ | refine bl_drewN ?_ _)))) (hO8.rd bc_len)).mono ?_
      rintro e w9 ⟨rfl, hb9⟩
      replace hB1 := hB1.below (show Below _ _ w9 by (repeat (first | exact bl_refl | assumption | (apply bl_then; assumption) | refine bl_alloc ?_ _ | refine bl_drew ?_ | refine bl_drewN ?_ _)))
      replace fhB1 := hB1.facts
      go_wp2_with fail
      refine (cRR _ (by (repeat (first | exact bl_refl | assumption | (apply bl_then; assumption) | refine bl_alloc ?_ _ | refine bl_drew ?_ | refine bl_drewN ?_ _)))).mono ?_
      rintro e w10 ⟨v10, rfl, hO10, hb10⟩
      replace hB1 := hB1.below (show Below _ _ w10 by (repeat (first | exact bl_refl | assumption | (apply bl_then; assumption) | refine bl_alloc ?_ _ | refine bl_drew ?_ | refine bl_drewN ?_ _)))
      replace fhB1 := hB1.facts
      go_wp2_with fail
      refine (cSR _ _ _ ((hO6.rd kc_len).below (by (repeat (first | exact bl_refl | assumption | (apply bl_then; assumption) | refine bl_alloc ?_ _ | refine bl_drew ?_ | refine bl_drewN ?_ _)))) (hO10.rd kc_len)).mono ?_
      rintro e w11 ⟨rfl, hb11⟩
      go_wp2
      go_ret
      exact ⟨rfl, by (repeat (first | exact bl_refl | assumption | (apply bl_then; assumption) | refine bl_alloc ?_ _ | refine bl_drew ?_ | refine bl_drewN ?_ _))⟩
    · rw [net_err hz] at cN cR
      obtain ⟨E, hE⟩ : ∃ z, panE p = z := ⟨_, rfl⟩
      rw [hE] at cRP cN cR hz
      rw [show onlyOk E (netL p) = [] from if_neg hz] at cN
      rw [show onlyOk E (rowsL p) = [] from if_neg hz] at cR
      have cNet := fun (v u : Value) W' h h' => lnetP_any (v := v) (u := u) [] [] E E W' h h'
      rw [show netBP [] E E [] = true by unfold netBP; rw [if_pos hz]; simp] at cNet
      simp only [sV] at cSh cG cRP cN cR ⊢
      have tz : (E != 0) = true := by simpa using hz
      clear hE hz hq hwL hwR hL hR
      go_enter Tryz.func4, Tryz.ntmps4
      go_wp2_with fail
      refine (cAw _ (by (repeat (first | exact bl_refl | assumption | (apply bl_then; assumption) | refine bl_alloc ?_ _ | refine bl_drew ?_ | refine bl_drewN ?_ _)))).mono ?_
      rintro e w1 ⟨rfl, hb1⟩
      replace hB1 := hB1.below (show Below _ _ w1 by (repeat (first | exact bl_refl | assumption | (apply bl_then; assumption) | refine bl_alloc ?_ _ | refine bl_drew ?_ | refine bl_drewN ?_ _)))
      replace fhB1 := hB1.facts
      go_wp2_with fail
      refine (cSh _ (by (repeat (first | exact bl_refl | assumption | (apply bl_then; assumption) | refine bl_alloc ?_ _ | refine bl_drew ?_ | refine bl_drewN ?_ _)))).mono ?_
      rintro e w2 ⟨rfl, hb2⟩
      replace hB1 := hB1.below (show Below _ _ w2 by (repeat (first | exact bl_refl | assumption | (apply bl_then; assumption) | refine bl_alloc ?_ _ | refine bl_drew ?_ | refine bl_drewN ?_ _)))
      replace fhB1 := hB1.facts
      go_wp2_with fail
      refine (cG _ (by (repeat (first | exact bl_refl | assumption | (apply bl_then; assumption) | refine bl_alloc ?_ _ | refine bl_drew ?_ | refine bl_drewN ?_ _)))).mono ?_
      rintro e w3 ⟨uL3, uR3, rfl, oL3, oR3, hb3⟩
      replace hB1 := hB1.below (show Below _ _ w3 by (repeat (first | exact bl_refl | assumption | (apply bl_then; assumption) | refine bl_alloc ?_ _ | refine bl_drew ?_ | refine bl_drewN ?_ _)))
      replace fhB1 := hB1.facts
      go_wp2_with fail
      refine (cN _ _ _ (oL3.rd ec_len) (oR3.rd ec_len)).mono ?_
      rintro e w4 ⟨v4, rfl, hO4, hb4⟩
      replace hB1 := hB1.below (show Below _ _ w4 by (repeat (first | exact bl_refl | assumption | (apply bl_then; assumption) | refine bl_alloc ?_ _ | refine bl_drew ?_ | refine bl_drewN ?_ _)))
      replace fhB1 := hB1.facts
      obtain ⟨A4, c4, hv4⟩ : ∃ A c, v4 = .slice A 0 c := by obtain ⟨A, c, rfl⟩ := hO4.shape; exact ⟨A, c, rfl⟩
      subst hv4
      go_wp2_with fail
      refine (cG _ (by (repeat (first | exact bl_refl | assumption | (apply bl_then; assumption) | refine bl_alloc ?_ _ | refine bl_drew ?_ | refine bl_drewN ?_ _)))).mono ?_
      rintro e w5 ⟨uL5, uR5, rfl, oL5, oR5, hb5⟩
      replace hB1 := hB1.below (show Below _ _ w5 by (repeat (first | exact bl_refl | assumption | (apply bl_then; assumption) | refine bl_alloc ?_ _ | refine bl_drew ?_ | refine bl_drewN ?_ _)))
      replace fhB1 := hB1.facts
      go_wp2_with fail
      refine (cR _ _ _ (oL5.rd ec_len) (oR5.rd ec_len)).mono ?_
      rintro e w6 ⟨v6, rfl, hO6, hb6⟩
      replace hB1 := hB1.below (show Below _ _ w6 by (repeat (first | exact bl_refl | assumption | (apply bl_then; assumption) | refine bl_alloc ?_ _ | refine bl_drew ?_ | refine bl_drewN ?_ _)))
      replace fhB1 := hB1.facts
      obtain ⟨A6, c6, hv6⟩ : ∃ A c, v6 = .slice A 0 c := by obtain ⟨A, c, rfl⟩ := hO6.shape; exact ⟨A, c, rfl⟩
      subst hv6
      go_wp2_with fail
      refine (cRP _ (by (repeat (first | exact bl_refl | assumption | (apply bl_then; assumption) | refine bl_alloc ?_ _ | refine bl_drew ?_ | refine bl_drewN ?_ _)))).mono ?_
      rintro e w7 ⟨rfl, hb7⟩
      replace hB1 := hB1.below (show Below _ _ w7 by (repeat (first | exact bl_refl | assumption | (apply bl_then; assumption) | refine bl_alloc ?_ _ | refine bl_drew ?_ | refine bl_drewN ?_ _)))
      replace fhB1 := hB1.facts
      go_wp2_with fail
      refine (cNet _ _ _ ((hO4.rd bc_len).below (by (repeat (first | exact bl_refl | assumption | (apply bl_then; assumption) | refine bl_alloc ?_ _ | refine bl_drew ?_ | refine bl_drewN ?_ _)))) Sl.nil_).mono ?_
      rintro e w8 ⟨rfl, hb8⟩
      go_wp2
      go_ret
      exact ⟨rfl, by (repeat (first | exact bl_refl | assumption | (apply bl_then; assumption) | refine bl_alloc ?_ _ | refine bl_drew ?_ | refine bl_drewN ?_ _))⟩
end Go.Proofs.YthkjgcldolnjaaaGreatDoor

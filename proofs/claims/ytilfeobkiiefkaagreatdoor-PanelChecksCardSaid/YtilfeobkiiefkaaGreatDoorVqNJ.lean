/- PanelChecks, walked. Conditions: the variables are laid. -/
import Derived.Test.YtilfeobkiiefkaaGreatDoorG40
import Derived.Test.YtilfeobkiiefkaaGreatDoorG43
import Derived.Test.YtilfeobkiiefkaaGreatDoorG44
namespace Go.Proofs.YtilfeobkiiefkaaGreatDoor
open Go.RowKit Go.ChangeMaps
set_option maxHeartbeats 4000000
set_option maxRecDepth 100000

attribute [local go_sem] Oper.semAt_some
/-! # PanelChecks -/
theorem panelChecks_any {vL vR : Value} (p : Pan) (x : Edg) (W : World) (hnm : p.1.length ≤ maxLen) (hL : SlE W vL p.2.2.1) (hR : SlE W vR p.2.2.2) (hLay : Lay W) :
    Calls Tryz.prog 3 #[.agg #[sV p.1, .int .i64 p.2.1, vL, vR], .agg #[sV x.1, .int .i64 x.2.1, .bool x.2.2]] W (RV W (.bool true)) := by
  have cAw := fun W' (hb : Below W.heap.size W W') => awakeP_any W' (hLay.below hb)
  have cSh := fun W' (hb : Below W.heap.size W W') => shortP_any p 40 W' hnm (hL.below hb) (hR.below hb)
  obtain ⟨q, hq⟩ : ∃ q, shortP p 40 = q := ⟨_, rfl⟩
  rw [hq] at cSh
  obtain ⟨s, t, o⟩ := x
  simp only
  obtain ⟨AL, cL, hvL, hLc, hLm, rL⟩ := id hL
  obtain ⟨AR, cR, hvR, hRc, hRm, rR⟩ := id hR
  subst hvL hvR
  have hB1 := (Blk.new W 24 #[.string ⟨p.1.toArray⟩, .int .i64 p.2.1, .slice AL p.2.2.1.length cL, .slice AR p.2.2.2.length cR]).alloc (.cells #[.string ⟨s.toArray⟩, .int .i64 t, .bool o] 26)
  have hB2 := Blk.new1 W (.cells #[.string ⟨p.1.toArray⟩, .int .i64 p.2.1, .slice AL p.2.2.1.length cL, .slice AR p.2.2.2.length cR] 24) 26 #[.string ⟨s.toArray⟩, .int .i64 t, .bool o]
  have fB1 := hB1.facts
  have fB2 := hB2.facts
  clear rL rR hLc hLm hRc hRm
  cases q
  · unfold sV at cSh ⊢
    clear hq hL hR
    go_enter Tryz.func3, Tryz.ntmps3
    go_wp2_with fail
    refine (cAw _ (by (repeat (first | exact bl_refl | assumption | (apply bl_then; assumption) | refine bl_alloc ?_ _ | refine bl_drew ?_ | refine bl_drewN ?_ _)))).mono ?_
    rintro e w1 ⟨rfl, hb1⟩
    replace hB1 := hB1.below (show Below _ _ w1 by (repeat (first | exact bl_refl | assumption | (apply bl_then; assumption) | refine bl_alloc ?_ _ | refine bl_drew ?_ | refine bl_drewN ?_ _)))
    replace fhB1 := hB1.facts
    replace hB2 := hB2.below (show Below _ _ w1 by (repeat (first | exact bl_refl | assumption | (apply bl_then; assumption) | refine bl_alloc ?_ _ | refine bl_drew ?_ | refine bl_drewN ?_ _)))
    replace fhB2 := hB2.facts
    go_wp2_with fail
    refine (cSh _ (by (repeat (first | exact bl_refl | assumption | (apply bl_then; assumption) | refine bl_alloc ?_ _ | refine bl_drew ?_ | refine bl_drewN ?_ _)))).mono ?_
    rintro e w2 ⟨rfl, hb2⟩
    replace hB1 := hB1.below (show Below _ _ w2 by (repeat (first | exact bl_refl | assumption | (apply bl_then; assumption) | refine bl_alloc ?_ _ | refine bl_drew ?_ | refine bl_drewN ?_ _)))
    replace fhB1 := hB1.facts
    replace hB2 := hB2.below (show Below _ _ w2 by (repeat (first | exact bl_refl | assumption | (apply bl_then; assumption) | refine bl_alloc ?_ _ | refine bl_drew ?_ | refine bl_drewN ?_ _)))
    replace fhB2 := hB2.facts
    go_wp2_with fail
    refine (cAw _ (by (repeat (first | exact bl_refl | assumption | (apply bl_then; assumption) | refine bl_alloc ?_ _ | refine bl_drew ?_ | refine bl_drewN ?_ _)))).mono ?_
    rintro e w3 ⟨rfl, hb3⟩
    go_wp2
    go_ret
    exact ⟨rfl, by (repeat (first | exact bl_refl | assumption | (apply bl_then; assumption) | refine bl_alloc ?_ _ | refine bl_drew ?_ | refine bl_drewN ?_ _))⟩
  · by_cases h70 : 70 < s.length
    · have t70 : (70 < (s.length : Int)) = True := eq_true (by omega)
      unfold sV at cSh ⊢
      clear hq hL hR
      go_enter Tryz.func3, Tryz.ntmps3
      go_wp2_with fail
      refine (cAw _ (by (repeat (first | exact bl_refl | assumption | (apply bl_then; assumption) | refine bl_alloc ?_ _ | refine bl_drew ?_ | refine bl_drewN ?_ _)))).mono ?_
      rintro e w1 ⟨rfl, hb1⟩
      replace hB1 := hB1.below (show Below _ _ w1 by (repeat (first | exact bl_refl | assumption | (apply bl_then; assumption) | refine bl_alloc ?_ _ | refine bl_drew ?_ | refine bl_drewN ?_ _)))
      replace fhB1 := hB1.facts
      replace hB2 := hB2.below (show Below _ _ w1 by (repeat (first | exact bl_refl | assumption | (apply bl_then; assumption) | refine bl_alloc ?_ _ | refine bl_drew ?_ | refine bl_drewN ?_ _)))
      replace fhB2 := hB2.facts
      go_wp2_with fail
      refine (cSh _ (by (repeat (first | exact bl_refl | assumption | (apply bl_then; assumption) | refine bl_alloc ?_ _ | refine bl_drew ?_ | refine bl_drewN ?_ _)))).mono ?_
      rintro e w2 ⟨rfl, hb2⟩
      replace hB1 := hB1.below (show Below _ _ w2 by (repeat (first | exact bl_refl | assumption | (apply bl_then; assumption) | refine bl_alloc ?_ _ | refine bl_drew ?_ | refine bl_drewN ?_ _)))
      replace fhB1 := hB1.facts
      replace hB2 := hB2.below (show Below _ _ w2 by (repeat (first | exact bl_refl | assumption | (apply bl_then; assumption) | refine bl_alloc ?_ _ | refine bl_drew ?_ | refine bl_drewN ?_ _)))
      replace fhB2 := hB2.facts
      go_wp2_with fail
      refine (cAw _ (by (repeat (first | exact bl_refl | assumption | (apply bl_then; assumption) | refine bl_alloc ?_ _ | refine bl_drew ?_ | refine bl_drewN ?_ _)))).mono ?_
      rintro e w3 ⟨rfl, hb3⟩
      go_wp2
      go_ret
      exact ⟨rfl, by (repeat (first | exact bl_refl | assumption | (apply bl_then; assumption) | refine bl_alloc ?_ _ | refine bl_drew ?_ | refine bl_drewN ?_ _))⟩
    · have t70 : (70 < (s.length : Int)) = False := eq_false (by omega)
      obtain ⟨hn60, ⟨hlL, hwL⟩, hlR, hwR⟩ := shortP_words hq
      have cG := fun W' (hb : Below W.heap.size W W') => given_any p W' (hL.below hb) (hR.below hb) (by omega) (by omega)
      have cRP := fun W' (hb : Below W.heap.size W W') => rcheckPanel_any p W' (by omega) (hL.below hb) (hR.below hb) (fun e he => by have := hwL e he; omega) (fun e he => by have := hwR e he; omega)
      have cRH := fun (h : SideOk p.2.2.1) W' (hb : Below W.heap.size W W') => rheight_any (vR := .slice AR p.2.2.2.length cR) p W' (hL.below hb) h
      have cE := fun W' => checkEdge_any (s, t, o) W'
      have cRE := fun W' => rcheckEdge_any (s, t, o) W' (by simp only; omega)
      have cH := fun (vL vR : Value) W' hL hR => apiHeight_any (vL := vL) (vR := vR) p W' (by omega) hL hR
      have cP := fun (vL vR : Value) W' hL hR => checkPanel_any (vL := vL) (vR := vR) p W' (by omega) hL hR
      have hok := fun h => (panE_zero (p := p) h).left
      unfold GIW at cG
      simp only [sV] at cSh cG cRP cRH cE cRE cH cP ⊢
      obtain ⟨EE, hEE⟩ : ∃ z, edgE (s, t, o) = z := ⟨_, rfl⟩
      rw [hEE] at cE cRE
      obtain ⟨E, hE⟩ : ∃ z, panE p = z := ⟨_, rfl⟩
      obtain ⟨H, hH⟩ : ∃ z, heightP p = z := ⟨_, rfl⟩
      rw [hE] at cRP cH cP hok
      rw [hH] at cH cRH
      clear hEE hE hH hq hwL hwR hL hR h70
      by_cases hz : E = 0
      · have hok' := hok hz
        subst hz
        rw [show onlyN 0 H = H from rfl] at cH
        go_enter Tryz.func3, Tryz.ntmps3
        go_wp2_with fail
        refine (cAw _ (by (repeat (first | exact bl_refl | assumption | (apply bl_then; assumption) | refine bl_alloc ?_ _ | refine bl_drew ?_ | refine bl_drewN ?_ _)))).mono ?_
        rintro e w1 ⟨rfl, hb1⟩
        replace hB1 := hB1.below (show Below _ _ w1 by (repeat (first | exact bl_refl | assumption | (apply bl_then; assumption) | refine bl_alloc ?_ _ | refine bl_drew ?_ | refine bl_drewN ?_ _)))
        replace fhB1 := hB1.facts
        replace hB2 := hB2.below (show Below _ _ w1 by (repeat (first | exact bl_refl | assumption | (apply bl_then; assumption) | refine bl_alloc ?_ _ | refine bl_drew ?_ | refine bl_drewN ?_ _)))
        replace fhB2 := hB2.facts
        go_wp2_with fail
        refine (cSh _ (by (repeat (first | exact bl_refl | assumption | (apply bl_then; assumption) | refine bl_alloc ?_ _ | refine bl_drew ?_ | refine bl_drewN ?_ _)))).mono ?_
        rintro e w2 ⟨rfl, hb2⟩
        replace hB1 := hB1.below (show Below _ _ w2 by (repeat (first | exact bl_refl | assumption | (apply bl_then; assumption) | refine bl_alloc ?_ _ | refine bl_drew ?_ | refine bl_drewN ?_ _)))
        replace fhB1 := hB1.facts
        replace hB2 := hB2.below (show Below _ _ w2 by (repeat (first | exact bl_refl | assumption | (apply bl_then; assumption) | refine bl_alloc ?_ _ | refine bl_drew ?_ | refine bl_drewN ?_ _)))
        replace fhB2 := hB2.facts
        go_wp2_with fail
        refine (cG _ (by (repeat (first | exact bl_refl | assumption | (apply bl_then; assumption) | refine bl_alloc ?_ _ | refine bl_drew ?_ | refine bl_drewN ?_ _)))).mono ?_
        rintro e w3 ⟨uL3, uR3, rfl, oL3, oR3, hb3⟩
        replace hB1 := hB1.below (show Below _ _ w3 by (repeat (first | exact bl_refl | assumption | (apply bl_then; assumption) | refine bl_alloc ?_ _ | refine bl_drew ?_ | refine bl_drewN ?_ _)))
        replace fhB1 := hB1.facts
        replace hB2 := hB2.below (show Below _ _ w3 by (repeat (first | exact bl_refl | assumption | (apply bl_then; assumption) | refine bl_alloc ?_ _ | refine bl_drew ?_ | refine bl_drewN ?_ _)))
        replace fhB2 := hB2.facts
        go_wp2_with fail
        refine (cH _ _ _ (oL3.rd ec_len) (oR3.rd ec_len)).mono ?_
        rintro e w4 ⟨rfl, hb4⟩
        replace hB1 := hB1.below (show Below _ _ w4 by (repeat (first | exact bl_refl | assumption | (apply bl_then; assumption) | refine bl_alloc ?_ _ | refine bl_drew ?_ | refine bl_drewN ?_ _)))
        replace fhB1 := hB1.facts
        replace hB2 := hB2.below (show Below _ _ w4 by (repeat (first | exact bl_refl | assumption | (apply bl_then; assumption) | refine bl_alloc ?_ _ | refine bl_drew ?_ | refine bl_drewN ?_ _)))
        replace fhB2 := hB2.facts
        go_wp2_with fail
        refine (cRP _ (by (repeat (first | exact bl_refl | assumption | (apply bl_then; assumption) | refine bl_alloc ?_ _ | refine bl_drew ?_ | refine bl_drewN ?_ _)))).mono ?_
        rintro e w5 ⟨rfl, hb5⟩
        replace hB1 := hB1.below (show Below _ _ w5 by (repeat (first | exact bl_refl | assumption | (apply bl_then; assumption) | refine bl_alloc ?_ _ | refine bl_drew ?_ | refine bl_drewN ?_ _)))
        replace fhB1 := hB1.facts
        replace hB2 := hB2.below (show Below _ _ w5 by (repeat (first | exact bl_refl | assumption | (apply bl_then; assumption) | refine bl_alloc ?_ _ | refine bl_drew ?_ | refine bl_drewN ?_ _)))
        replace fhB2 := hB2.facts
        go_wp2_with fail
        refine (cRH hok' _ (by (repeat (first | exact bl_refl | assumption | (apply bl_then; assumption) | refine bl_alloc ?_ _ | refine bl_drew ?_ | refine bl_drewN ?_ _)))).mono ?_
        rintro e w6 ⟨rfl, hb6⟩
        replace hB1 := hB1.below (show Below _ _ w6 by (repeat (first | exact bl_refl | assumption | (apply bl_then; assumption) | refine bl_alloc ?_ _ | refine bl_drew ?_ | refine bl_drewN ?_ _)))
        replace fhB1 := hB1.facts
        replace hB2 := hB2.below (show Below _ _ w6 by (repeat (first | exact bl_refl | assumption | (apply bl_then; assumption) | refine bl_alloc ?_ _ | refine bl_drew ?_ | refine bl_drewN ?_ _)))
        replace fhB2 := hB2.facts
        go_upto_region 7 with fail
        refine wp_region_ords [0, 2] [(1, false), (3, false), (4, false), (5, false), (6, true), (9, true), (7, false), (8, false), (10, false), (11, false), (12, false), (13, true), (14, false), (15, false), (16, false), (17, false), (18, true), (19, false)] [20, 21, 22] (by kernel_rfl) (by kernel_rfl) (fun d _ _ _ _ h => by cases d <;> exact h) ?_
        simp only [List.map_cons, List.map_nil, List.getD_cons_zero, List.getD_cons_succ]
        repeat (go_big_quiet_step (fail))
        refine wpQuiet_nil ?_
        refine wpMid_run rfl (fun K hK => ?_)
        go_simp
        refine (cE _).mono ?_
        rintro e w7 ⟨rfl, hb7⟩
        refine hK _ _ (by (repeat (first | exact bl_refl | assumption | (apply bl_then; assumption) | refine bl_alloc ?_ _ | refine bl_drew ?_ | refine bl_drewN ?_ _))) ?_
        clear hK K
        have hB1_w7 := hB1.below (show Below _ _ w7 by (repeat (first | exact bl_refl | assumption | (apply bl_then; assumption) | refine bl_alloc ?_ _ | refine bl_drew ?_ | refine bl_drewN ?_ _)))
        have fhB1_w7 := hB1_w7.facts
        have hB2_w7 := hB2.below (show Below _ _ w7 by (repeat (first | exact bl_refl | assumption | (apply bl_then; assumption) | refine bl_alloc ?_ _ | refine bl_drew ?_ | refine bl_drewN ?_ _)))
        have fhB2_w7 := hB2_w7.facts
        refine wpMid_run rfl (fun K hK => ?_)
        go_simp
        refine (cRE _).mono ?_
        rintro e w8 ⟨rfl, hb8⟩
        refine hK _ _ (by (repeat (first | exact bl_refl | assumption | (apply bl_then; assumption) | refine bl_alloc ?_ _ | refine bl_drew ?_ | refine bl_drewN ?_ _))) ?_
        clear hK K
        have hB1_w8 := hB1.below (show Below _ _ w8 by (repeat (first | exact bl_refl | assumption | (apply bl_then; assumption) | refine bl_alloc ?_ _ | refine bl_drew ?_ | refine bl_drewN ?_ _)))
        have fhB1_w8 := hB1_w8.facts
        have hB2_w8 := hB2.below (show Below _ _ w8 by (repeat (first | exact bl_refl | assumption | (apply bl_then; assumption) | refine bl_alloc ?_ _ | refine bl_drew ?_ | refine bl_drewN ?_ _)))
        have fhB2_w8 := hB2_w8.facts
        refine wpMid_run rfl (fun K hK => ?_)
        go_simp
        refine hK _ _ (by (repeat (first | exact bl_refl | assumption | (apply bl_then; assumption) | refine bl_alloc ?_ _ | refine bl_drew ?_ | refine bl_drewN ?_ _))) ?_
        clear hK K
        refine wpMid_run rfl (fun K hK => ?_)
        go_simp
        refine hK _ _ (by (repeat (first | exact bl_refl | assumption | (apply bl_then; assumption) | refine bl_alloc ?_ _ | refine bl_drew ?_ | refine bl_drewN ?_ _))) ?_
        clear hK K
        refine wpMid_take rfl ?_
        intro K hK
        go_big_quiet_op
        go_big_quiet_on
        refine wpMid_take rfl ?_
        intro K hK
        go_big_quiet_op
        go_big_quiet_on
        refine wpMid_run rfl (fun K hK => ?_)
        go_simp
        refine (cG _ (by (repeat (first | exact bl_refl | assumption | (apply bl_then; assumption) | refine bl_alloc ?_ _ | refine bl_drew ?_ | refine bl_drewN ?_ _)))).mono ?_
        rintro e w9 ⟨uL9, uR9, rfl, oL9, oR9, hb9⟩
        refine hK _ _ (by (repeat (first | exact bl_refl | assumption | (apply bl_then; assumption) | refine bl_alloc ?_ _ | refine bl_drew ?_ | refine bl_drewN ?_ _))) ?_
        clear hK K
        have hB1_w9 := hB1.below (show Below _ _ w9 by (repeat (first | exact bl_refl | assumption | (apply bl_then; assumption) | refine bl_alloc ?_ _ | refine bl_drew ?_ | refine bl_drewN ?_ _)))
        have fhB1_w9 := hB1_w9.facts
        have hB2_w9 := hB2.below (show Below _ _ w9 by (repeat (first | exact bl_refl | assumption | (apply bl_then; assumption) | refine bl_alloc ?_ _ | refine bl_drew ?_ | refine bl_drewN ?_ _)))
        have fhB2_w9 := hB2_w9.facts
        refine wpMid_run rfl (fun K hK => ?_)
        go_simp
        refine (cP _ _ _ (oL9.rd ec_len) (oR9.rd ec_len)).mono ?_
        rintro e w10 ⟨rfl, hb10⟩
        refine hK _ _ (by (repeat (first | exact bl_refl | assumption | (apply bl_then; assumption) | refine bl_alloc ?_ _ | refine bl_drew ?_ | refine bl_drewN ?_ _))) ?_
        clear hK K
        have hB1_w10 := hB1.below (show Below _ _ w10 by (repeat (first | exact bl_refl | assumption | (apply bl_then; assumption) | refine bl_alloc ?_ _ | refine bl_drew ?_ | refine bl_drewN ?_ _)))
        have fhB1_w10 := hB1_w10.facts
        have hB2_w10 := hB2.below (show Below _ _ w10 by (repeat (first | exact bl_refl | assumption | (apply bl_then; assumption) | refine bl_alloc ?_ _ | refine bl_drew ?_ | refine bl_drewN ?_ _)))
        have fhB2_w10 := hB2_w10.facts
        refine wpMid_run rfl (fun K hK => ?_)
        go_simp
        refine hK _ _ (by (repeat (first | exact bl_refl | assumption | (apply bl_then; assumption) | refine bl_alloc ?_ _ | refine bl_drew ?_ | refine bl_drewN ?_ _))) ?_
        clear hK K
        refine wpMid_run rfl (fun K hK => ?_)
        go_simp
        refine hK _ _ (by (repeat (first | exact bl_refl | assumption | (apply bl_then; assumption) | refine bl_alloc ?_ _ | refine bl_drew ?_ | refine bl_drewN ?_ _))) ?_
        clear hK K
        refine wpMid_run rfl (fun K hK => ?_)
        go_simp
        refine hK _ _ (by (repeat (first | exact bl_refl | assumption | (apply bl_then; assumption) | refine bl_alloc ?_ _ | refine bl_drew ?_ | refine bl_drewN ?_ _))) ?_
        clear hK K
        refine wpMid_take rfl ?_
        intro K hK
        go_big_quiet_op
        go_big_quiet_on
        refine wpMid_run rfl (fun K hK => ?_)
        go_simp
        refine hK _ _ (by (repeat (first | exact bl_refl | assumption | (apply bl_then; assumption) | refine bl_alloc ?_ _ | refine bl_drew ?_ | refine bl_drewN ?_ _))) ?_
        clear hK K
        refine wpMid_run rfl (fun K hK => ?_)
        go_simp
        refine hK _ _ (by (repeat (first | exact bl_refl | assumption | (apply bl_then; assumption) | refine bl_alloc ?_ _ | refine bl_drew ?_ | refine bl_drewN ?_ _))) ?_
        clear hK K
        refine wpMid_run rfl (fun K hK => ?_)
        go_simp
        refine hK _ _ (by (repeat (first | exact bl_refl | assumption | (apply bl_then; assumption) | refine bl_alloc ?_ _ | refine bl_drew ?_ | refine bl_drewN ?_ _))) ?_
        clear hK K
        refine wpMid_run rfl (fun K hK => ?_)
        go_simp
        refine hK _ _ (by (repeat (first | exact bl_refl | assumption | (apply bl_then; assumption) | refine bl_alloc ?_ _ | refine bl_drew ?_ | refine bl_drewN ?_ _))) ?_
        clear hK K
        refine wpMid_take rfl ?_
        intro K hK
        go_big_quiet_op
        go_big_quiet_on
        refine wpMid_run rfl (fun K hK => ?_)
        go_simp
        refine hK _ _ (by (repeat (first | exact bl_refl | assumption | (apply bl_then; assumption) | refine bl_alloc ?_ _ | refine bl_drew ?_ | refine bl_drewN ?_ _))) ?_
        clear hK K
        refine wpMid_nil ?_
        go_wp2
        go_ret
        exact ⟨rfl, by (repeat (first | exact bl_refl | assumption | (apply bl_then; assumption) | refine bl_alloc ?_ _ | refine bl_drew ?_ | refine bl_drewN ?_ _))⟩
      · have hz1 : (E == 0) = false := beq_false_of_ne hz
        rw [show onlyN E H = 0 from if_neg hz] at cH
        clear hok cRH
        go_enter Tryz.func3, Tryz.ntmps3
        go_wp2_with fail
        refine (cAw _ (by (repeat (first | exact bl_refl | assumption | (apply bl_then; assumption) | refine bl_alloc ?_ _ | refine bl_drew ?_ | refine bl_drewN ?_ _)))).mono ?_
        rintro e w1 ⟨rfl, hb1⟩
        replace hB1 := hB1.below (show Below _ _ w1 by (repeat (first | exact bl_refl | assumption | (apply bl_then; assumption) | refine bl_alloc ?_ _ | refine bl_drew ?_ | refine bl_drewN ?_ _)))
        replace fhB1 := hB1.facts
        replace hB2 := hB2.below (show Below _ _ w1 by (repeat (first | exact bl_refl | assumption | (apply bl_then; assumption) | refine bl_alloc ?_ _ | refine bl_drew ?_ | refine bl_drewN ?_ _)))
        replace fhB2 := hB2.facts
        go_wp2_with fail
        refine (cSh _ (by (repeat (first | exact bl_refl | assumption | (apply bl_then; assumption) | refine bl_alloc ?_ _ | refine bl_drew ?_ | refine bl_drewN ?_ _)))).mono ?_
        rintro e w2 ⟨rfl, hb2⟩
        replace hB1 := hB1.below (show Below _ _ w2 by (repeat (first | exact bl_refl | assumption | (apply bl_then; assumption) | refine bl_alloc ?_ _ | refine bl_drew ?_ | refine bl_drewN ?_ _)))
        replace fhB1 := hB1.facts
        replace hB2 := hB2.below (show Below _ _ w2 by (repeat (first | exact bl_refl | assumption | (apply bl_then; assumption) | refine bl_alloc ?_ _ | refine bl_drew ?_ | refine bl_drewN ?_ _)))
        replace fhB2 := hB2.facts
        go_wp2_with fail
        refine (cG _ (by (repeat (first | exact bl_refl | assumption | (apply bl_then; assumption) | refine bl_alloc ?_ _ | refine bl_drew ?_ | refine bl_drewN ?_ _)))).mono ?_
        rintro e w3 ⟨uL3, uR3, rfl, oL3, oR3, hb3⟩
        replace hB1 := hB1.below (show Below _ _ w3 by (repeat (first | exact bl_refl | assumption | (apply bl_then; assumption) | refine bl_alloc ?_ _ | refine bl_drew ?_ | refine bl_drewN ?_ _)))
        replace fhB1 := hB1.facts
        replace hB2 := hB2.below (show Below _ _ w3 by (repeat (first | exact bl_refl | assumption | (apply bl_then; assumption) | refine bl_alloc ?_ _ | refine bl_drew ?_ | refine bl_drewN ?_ _)))
        replace fhB2 := hB2.facts
        go_wp2_with fail
        refine (cH _ _ _ (oL3.rd ec_len) (oR3.rd ec_len)).mono ?_
        rintro e w4 ⟨rfl, hb4⟩
        replace hB1 := hB1.below (show Below _ _ w4 by (repeat (first | exact bl_refl | assumption | (apply bl_then; assumption) | refine bl_alloc ?_ _ | refine bl_drew ?_ | refine bl_drewN ?_ _)))
        replace fhB1 := hB1.facts
        replace hB2 := hB2.below (show Below _ _ w4 by (repeat (first | exact bl_refl | assumption | (apply bl_then; assumption) | refine bl_alloc ?_ _ | refine bl_drew ?_ | refine bl_drewN ?_ _)))
        replace fhB2 := hB2.facts
        go_wp2_with fail
        refine (cRP _ (by (repeat (first | exact bl_refl | assumption | (apply bl_then; assumption) | refine bl_alloc ?_ _ | refine bl_drew ?_ | refine bl_drewN ?_ _)))).mono ?_
        rintro e w5 ⟨rfl, hb5⟩
        replace hB1 := hB1.below (show Below _ _ w5 by (repeat (first | exact bl_refl | assumption | (apply bl_then; assumption) | refine bl_alloc ?_ _ | refine bl_drew ?_ | refine bl_drewN ?_ _)))
        replace fhB1 := hB1.facts
        replace hB2 := hB2.below (show Below _ _ w5 by (repeat (first | exact bl_refl | assumption | (apply bl_then; assumption) | refine bl_alloc ?_ _ | refine bl_drew ?_ | refine bl_drewN ?_ _)))
        replace fhB2 := hB2.facts
        go_upto_region 7 with fail
        refine wp_region_ords [0, 2] [(1, false), (3, false), (4, false), (5, false), (6, true), (9, true), (7, false), (8, false), (10, false), (11, false), (12, false), (13, true), (14, false), (15, false), (16, false), (17, false), (18, true), (19, false)] [20, 21, 22] (by kernel_rfl) (by kernel_rfl) (fun d _ _ _ _ h => by cases d <;> exact h) ?_
        simp only [List.map_cons, List.map_nil, List.getD_cons_zero, List.getD_cons_succ]
        repeat (go_big_quiet_step (fail))
        refine wpQuiet_nil ?_
        refine wpMid_run rfl (fun K hK => ?_)
        go_simp
        refine (cE _).mono ?_
        rintro e w7 ⟨rfl, hb7⟩
        refine hK _ _ (by (repeat (first | exact bl_refl | assumption | (apply bl_then; assumption) | refine bl_alloc ?_ _ | refine bl_drew ?_ | refine bl_drewN ?_ _))) ?_
        clear hK K
        have hB1_w7 := hB1.below (show Below _ _ w7 by (repeat (first | exact bl_refl | assumption | (apply bl_then; assumption) | refine bl_alloc ?_ _ | refine bl_drew ?_ | refine bl_drewN ?_ _)))
        have fhB1_w7 := hB1_w7.facts
        have hB2_w7 := hB2.below (show Below _ _ w7 by (repeat (first | exact bl_refl | assumption | (apply bl_then; assumption) | refine bl_alloc ?_ _ | refine bl_drew ?_ | refine bl_drewN ?_ _)))
        have fhB2_w7 := hB2_w7.facts
        refine wpMid_run rfl (fun K hK => ?_)
        go_simp
        refine (cRE _).mono ?_
        rintro e w8 ⟨rfl, hb8⟩
        refine hK _ _ (by (repeat (first | exact bl_refl | assumption | (apply bl_then; assumption) | refine bl_alloc ?_ _ | refine bl_drew ?_ | refine bl_drewN ?_ _))) ?_
        clear hK K
        have hB1_w8 := hB1.below (show Below _ _ w8 by (repeat (first | exact bl_refl | assumption | (apply bl_then; assumption) | refine bl_alloc ?_ _ | refine bl_drew ?_ | refine bl_drewN ?_ _)))
        have fhB1_w8 := hB1_w8.facts
        have hB2_w8 := hB2.below (show Below _ _ w8 by (repeat (first | exact bl_refl | assumption | (apply bl_then; assumption) | refine bl_alloc ?_ _ | refine bl_drew ?_ | refine bl_drewN ?_ _)))
        have fhB2_w8 := hB2_w8.facts
        refine wpMid_run rfl (fun K hK => ?_)
        go_simp
        refine hK _ _ (by (repeat (first | exact bl_refl | assumption | (apply bl_then; assumption) | refine bl_alloc ?_ _ | refine bl_drew ?_ | refine bl_drewN ?_ _))) ?_
        clear hK K
        refine wpMid_run rfl (fun K hK => ?_)
        go_simp
        refine hK _ _ (by (repeat (first | exact bl_refl | assumption | (apply bl_then; assumption) | refine bl_alloc ?_ _ | refine bl_drew ?_ | refine bl_drewN ?_ _))) ?_
        clear hK K
        refine wpMid_take rfl ?_
        intro K hK
        go_big_quiet_op
        go_big_quiet_on
        refine wpMid_take rfl ?_
        intro K hK
        go_big_quiet_op
        go_big_quiet_on
        refine wpMid_run rfl (fun K hK => ?_)
        go_simp
        refine (cG _ (by (repeat (first | exact bl_refl | assumption | (apply bl_then; assumption) | refine bl_alloc ?_ _ | refine bl_drew ?_ | refine bl_drewN ?_ _)))).mono ?_
        rintro e w9 ⟨uL9, uR9, rfl, oL9, oR9, hb9⟩
        refine hK _ _ (by (repeat (first | exact bl_refl | assumption | (apply bl_then; assumption) | refine bl_alloc ?_ _ | refine bl_drew ?_ | refine bl_drewN ?_ _))) ?_
        clear hK K
        have hB1_w9 := hB1.below (show Below _ _ w9 by (repeat (first | exact bl_refl | assumption | (apply bl_then; assumption) | refine bl_alloc ?_ _ | refine bl_drew ?_ | refine bl_drewN ?_ _)))
        have fhB1_w9 := hB1_w9.facts
        have hB2_w9 := hB2.below (show Below _ _ w9 by (repeat (first | exact bl_refl | assumption | (apply bl_then; assumption) | refine bl_alloc ?_ _ | refine bl_drew ?_ | refine bl_drewN ?_ _)))
        have fhB2_w9 := hB2_w9.facts
        refine wpMid_run rfl (fun K hK => ?_)
        go_simp
        refine (cP _ _ _ (oL9.rd ec_len) (oR9.rd ec_len)).mono ?_
        rintro e w10 ⟨rfl, hb10⟩
        refine hK _ _ (by (repeat (first | exact bl_refl | assumption | (apply bl_then; assumption) | refine bl_alloc ?_ _ | refine bl_drew ?_ | refine bl_drewN ?_ _))) ?_
        clear hK K
        have hB1_w10 := hB1.below (show Below _ _ w10 by (repeat (first | exact bl_refl | assumption | (apply bl_then; assumption) | refine bl_alloc ?_ _ | refine bl_drew ?_ | refine bl_drewN ?_ _)))
        have fhB1_w10 := hB1_w10.facts
        have hB2_w10 := hB2.below (show Below _ _ w10 by (repeat (first | exact bl_refl | assumption | (apply bl_then; assumption) | refine bl_alloc ?_ _ | refine bl_drew ?_ | refine bl_drewN ?_ _)))
        have fhB2_w10 := hB2_w10.facts
        refine wpMid_run rfl (fun K hK => ?_)
        go_simp
        refine hK _ _ (by (repeat (first | exact bl_refl | assumption | (apply bl_then; assumption) | refine bl_alloc ?_ _ | refine bl_drew ?_ | refine bl_drewN ?_ _))) ?_
        clear hK K
        refine wpMid_run rfl (fun K hK => ?_)
        go_simp
        refine hK _ _ (by (repeat (first | exact bl_refl | assumption | (apply bl_then; assumption) | refine bl_alloc ?_ _ | refine bl_drew ?_ | refine bl_drewN ?_ _))) ?_
        clear hK K
        refine wpMid_run rfl (fun K hK => ?_)
        go_simp
        refine hK _ _ (by (repeat (first | exact bl_refl | assumption | (apply bl_then; assumption) | refine bl_alloc ?_ _ | refine bl_drew ?_ | refine bl_drewN ?_ _))) ?_
        clear hK K
        refine wpMid_take rfl ?_
        intro K hK
        go_big_quiet_op
        go_big_quiet_on
        refine wpMid_run rfl (fun K hK => ?_)
        go_simp
        refine hK _ _ (by (repeat (first | exact bl_refl | assumption | (apply bl_then; assumption) | refine bl_alloc ?_ _ | refine bl_drew ?_ | refine bl_drewN ?_ _))) ?_
        clear hK K
        refine wpMid_run rfl (fun K hK => ?_)
        go_simp
        refine hK _ _ (by (repeat (first | exact bl_refl | assumption | (apply bl_then; assumption) | refine bl_alloc ?_ _ | refine bl_drew ?_ | refine bl_drewN ?_ _))) ?_
        clear hK K
        refine wpMid_run rfl (fun K hK => ?_)
        go_simp
        refine hK _ _ (by (repeat (first | exact bl_refl | assumption | (apply bl_then; assumption) | refine bl_alloc ?_ _ | refine bl_drew ?_ | refine bl_drewN ?_ _))) ?_
        clear hK K
        refine wpMid_run rfl (fun K hK => ?_)
        go_simp
        refine hK _ _ (by (repeat (first | exact bl_refl | assumption | (apply bl_then; assumption) | refine bl_alloc ?_ _ | refine bl_drew ?_ | refine bl_drewN ?_ _))) ?_
        clear hK K
        refine wpMid_take rfl ?_
        intro K hK
        go_big_quiet_op
        go_big_quiet_on
        refine wpMid_run rfl (fun K hK => ?_)
        go_simp
        refine hK _ _ (by (repeat (first | exact bl_refl | assumption | (apply bl_then; assumption) | refine bl_alloc ?_ _ | refine bl_drew ?_ | refine bl_drewN ?_ _))) ?_
        clear hK K
        refine wpMid_nil ?_
        go_wp2
        go_ret
        exact ⟨rfl, by (repeat (first | exact bl_refl | assumption | (apply bl_then; assumption) | refine bl_alloc ?_ _ | refine bl_drew ?_ | refine bl_drewN ?_ _))⟩
end Go.Proofs.YtilfeobkiiefkaaGreatDoor

/- PanelWide, walked. Conditions: the variables are laid. -/
import Derived.Test.YthkjgcldolnjaaaGreatDoorH37
import Derived.Test.YthkjgcldolnjaaaGreatDoorH40
import Derived.Test.YthkjgcldolnjaaaGreatDoorVqSaJ
import Derived.Test.YthkjgcldolnjaaaGreatDoorVrnJ
import Derived.Test.YthkjgcldolnjaaaGreatDoorVrwJ
namespace Go.Proofs.YthkjgcldolnjaaaGreatDoor
open Go.RowKit Go.ChangeMaps
set_option maxHeartbeats 4000000
set_option maxRecDepth 100000

attribute [local go_sem] Oper.semAt_some
/-! # PanelWide -/
theorem panelWide_any {vL vR : Value} (p : Pan) (W : World) (hnm : p.1.length ≤ maxLen) (hL : SlE W vL p.2.2.1) (hR : SlE W vR p.2.2.2) (hLay : Lay W) :
    Calls Tryz.prog 7 #[.agg #[sV p.1, .int .i64 p.2.1, vL, vR]] W (RV W (.bool true)) := by
  have cAw := fun W' (hb : Below W.heap.size W W') => awakeP_any W' (hLay.below hb)
  have cSh := fun W' (hb : Below W.heap.size W W') => shortP_any p 16 W' hnm (hL.below hb) (hR.below hb)
  obtain ⟨q, hq⟩ : ∃ q, shortP p 16 = q := ⟨_, rfl⟩
  rw [hq] at cSh
  obtain ⟨AL, cL, hvL, hLc, hLm, rL⟩ := id hL
  obtain ⟨AR, cR, hvR, hRc, hRm, rR⟩ := id hR
  subst hvL hvR
  have hB1 := Blk.new W 24 #[.string ⟨p.1.toArray⟩, .int .i64 p.2.1, .slice AL p.2.2.1.length cL, .slice AR p.2.2.2.length cR]
  have fB1 := hB1.facts
  clear rL rR hLc hLm hRc hRm
  cases q
  · unfold sV at cSh ⊢
    clear hq hL hR
    go_enter Tryz.func7, Tryz.ntmps7
    go_wp2_with fail
    refine (cAw _ (by (repeat (first | exact bl_refl | assumption | (apply bl_then; assumption) | refine bl_alloc ?_ _ | refine bl_drew ?_ | refine bl_drewN ?_ _)))).mono ?_
    rintro e w1 ⟨rfl, hb1⟩
    replace hB1 := hB1.below (show Below _ _ w1 by (repeat (first | exact bl_refl | assumption | (apply bl_then; assumption) | refine bl_alloc ?_ _ | refine bl_drew ?_ | refine bl_drewN ?_ _)))
    replace fhB1 := hB1.facts
    go_wp2_with fail
    refine (cSh _ (by (repeat (first | exact bl_refl | assumption | (apply bl_then; assumption) | refine bl_alloc ?_ _ | refine bl_drew ?_ | refine bl_drewN ?_ _)))).mono ?_
    rintro e w2 ⟨rfl, hb2⟩
    go_wp2_with fail
    refine (cAw _ (by (repeat (first | exact bl_refl | assumption | (apply bl_then; assumption) | refine bl_alloc ?_ _ | refine bl_drew ?_ | refine bl_drewN ?_ _)))).mono ?_
    rintro e w3 ⟨rfl, hb3⟩
    go_wp2
    go_ret
    exact ⟨rfl, by (repeat (first | exact bl_refl | assumption | (apply bl_then; assumption) | refine bl_alloc ?_ _ | refine bl_drew ?_ | refine bl_drewN ?_ _))⟩
  · obtain ⟨hn60, ⟨hlL, hwL⟩, hlR, hwR⟩ := shortP_words hq
    have cG := fun W' (hb : Below W.heap.size W W') => given_any p W' (hL.below hb) (hR.below hb) (by omega) (by omega)
    have cRP := fun W' (hb : Below W.heap.size W W') => rcheckPanel_any p W' (by omega) (hL.below hb) (hR.below hb) (fun e he => by have := hwL e he; omega) (fun e he => by have := hwR e he; omega)
    unfold GIW at cG
    by_cases hz : panE p = 0
    · have hok := panE_zero hz
      have hWd := wide_ok hq hz
      have hsm := shortP_small (n := 16) hq hok
      obtain ⟨hwe, hw1, hw2, hn1, hn2, hc1, hc2, hlen, harea, hput, hputl⟩ := hWd
      have hfew := hsm.few
      have hoQ : outP (widQ p 1) false = outP p false := wid_left p
      have hback : widQ (widQ p 1) (-1) = p := wid_back p
      have cN := fun (vL vR : Value) W' hL hR => apiNet_any (vL := vL) (vR := vR) p W' (by omega) hL hR
      have cA := fun (vL vR : Value) W' hL hR => apiArea_any (vL := vL) (vR := vR) p W' (by omega) hL hR
      have cO := fun (vL vR : Value) W' hL hR => apiOutline_any (vL := vL) (vR := vR) p false W' (by omega) hL hR
      have cW := fun (vL vR : Value) W' hL hR => apiWiden_any (vL := vL) (vR := vR) p 1 W' (by omega) hL hR
      have cNQ := fun (vL vR : Value) W' hL hR => apiNet_any (vL := vL) (vR := vR) (widQ p 1) W' (by simp only [widQ]; omega) hL hR
      have cAQ := fun (vL vR : Value) W' hL hR => apiArea_any (vL := vL) (vR := vR) (widQ p 1) W' (by simp only [widQ]; omega) hL hR
      have cOQ := fun (vL vR : Value) W' hL hR => apiOutline_any (vL := vL) (vR := vR) (widQ p 1) false W' (by simp only [widQ]; omega) hL hR
      have cWQ := fun (vL vR : Value) W' hL hR => apiWiden_any (vL := vL) (vR := vR) (widQ p 1) (-1) W' (by simp only [widQ]; omega) hL hR
      have cSm := fun (a b c d : Value) W' h1 h2 h3 h4 => apiSame_any (vL := a) (vR := b) (uL := c) (uR := d) p p W' (by omega) (by omega) h1 h2 h3 h4
      have cH := fun W' (hb : Below W.heap.size W W') => rheight_any (vR := .slice AR p.2.2.2.length cR) p W' (hL.below hb) hok.left
      have hhh := hok.high
      have han := areaS_near (strips_near hok) (strips p).length (Nat.le_refl _)
      have hsl := strips_le hok
      rw [List.take_length] at han
      have cMt := fun (v u : Value) W' h h' => apiMeet2_any (va := v) (vb := u) (netL (widQ p 1)) (netL p) W' h h'
      have cC1 := fun (v : Value) W' h => rnet_sl (v := v) (netL p) W' h
      have cC2 := fun (v : Value) W' h => rnet_sl (v := v) (netL (widQ p 1)) W' h
      rw [hput, hputl] at cMt
      rw [hc1] at cC1
      rw [hc2] at cC2
      rw [hz] at cRP cA cO
      rw [hn1] at cN
      rw [hn2] at cNQ
      rw [hwe] at cAQ cOQ
      have eW1 : pcE (widE p 1) (widQ p 1) = 0 := by unfold pcE; rw [hw1, if_neg (by decide), hwe]
      have eW2 : pcR (widE p 1) (widQ p 1) = widQ p 1 := by unfold pcR; rw [if_pos eW1]
      rw [eW1, eW2] at cW
      have eV1 : pcE (widE (widQ p 1) (-1)) (widQ (widQ p 1) (-1)) = 0 := by unfold pcE; rw [hw2, if_neg (by decide), hback, hz]
      have eV2 : pcR (widE (widQ p 1) (-1)) (widQ (widQ p 1) (-1)) = p := by unfold pcR; rw [if_pos eV1, hback]
      rw [eV1, eV2] at cWQ
      have et : twoP p p = 0 := by unfold twoP; rw [hz]; rfl
      rw [et, show (decide ((0 : Int) = 0) && samQ p p) = true by unfold samQ; simp] at cSm
      rw [show onlyOk 0 (netL p) = netL p from rfl] at cN
      rw [show onlyN 0 (areaS (strips p)) = areaS (strips p) from rfl] at cA
      rw [show onlyOk 0 (outP p false) = outP p false from rfl] at cO
      rw [show onlyOk 0 (netL (widQ p 1)) = netL (widQ p 1) from rfl] at cNQ
      rw [show onlyN 0 (areaS (strips (widQ p 1))) = areaS (strips (widQ p 1)) from rfl] at cAQ
      rw [show onlyOk 0 (outP (widQ p 1) false) = outP (widQ p 1) false from rfl, hoQ] at cOQ
      unfold RPN at cW cWQ
      simp only [sV] at cSh cG cRP cN cA cO cW cNQ cAQ cOQ cWQ cSm cH ⊢
      obtain ⟨N, hN⟩ : ∃ z, netL p = z := ⟨_, rfl⟩
      obtain ⟨M, hM⟩ : ∃ z, netL (widQ p 1) = z := ⟨_, rfl⟩
      obtain ⟨AA, hAA⟩ : ∃ z, areaS (strips p) = z := ⟨_, rfl⟩
      obtain ⟨AB, hAB⟩ : ∃ z, areaS (strips (widQ p 1)) = z := ⟨_, rfl⟩
      obtain ⟨O, hO⟩ : ∃ z, outP p false = z := ⟨_, rfl⟩
      obtain ⟨H, hH⟩ : ∃ z, heightP p = z := ⟨_, rfl⟩
      obtain ⟨Q, hQ⟩ : ∃ z, widQ p 1 = z := ⟨_, rfl⟩
      rw [hN, hM] at cMt hlen
      rw [hN] at cN cC1 hfew
      rw [hM] at cC2 cNQ
      rw [hAA, hAB] at harea
      rw [hAA] at cA han
      rw [hAB] at cAQ
      rw [hO] at cO cOQ
      rw [hH] at cH hlen harea hhh
      rw [hQ] at cW cNQ cAQ cOQ cWQ
      have tM : ((M.length : Int) == (N.length : Int) + 2 * H) = true := by rw [hlen]; exact beq_self_eq_true _
      have tA : (AB == AA + 4 * H) = true := by rw [harea]; exact beq_self_eq_true _
      have hA1 : -200000000 ≤ AA := by omega
      have hA2 : AA ≤ 200000000 := by omega
      have hMl : M.length ≤ 10000 := by omega
      obtain ⟨hh1, hh2⟩ := hhh
      have cSK := fun (v u : Value) W' h h' => sameKnots_any (v := v) (u := u) O O W' h h'
      rw [show decide (O = O) = true from decide_eq_true rfl] at cSK
      have cSN := fun (v u : Value) W' h h' => sameBars_any (v := v) (u := u) N N W' h h'
      rw [show decide (N = N) = true from decide_eq_true rfl] at cSN
      clear hz hok hsm hwe hw1 hw2 hn1 hn2 hc1 hc2 hlen harea hput hputl hoQ hback eW1 eW2 eV1 eV2 et han hsl hN hM hAA hAB hO hH hQ hq hwL hwR hL hR
      go_enter Tryz.func7, Tryz.ntmps7
      go_wp2_with fail
      refine (cAw _ (by (repeat (first | exact bl_refl | assumption | (apply bl_then; assumption) | refine bl_alloc ?_ _ | refine bl_drew ?_ | refine bl_drewN ?_ _)))).mono ?_
      rintro e w1 ⟨rfl, hb1⟩
      replace hB1 := hB1.below (show Below _ _ w1 by (repeat (first | exact bl_refl | assumption | (apply bl_then; assumption) | refine bl_alloc ?_ _ | refine bl_drew ?_ | refine bl_drewN ?_ _)))
      replace fhB1 := hB1.facts
      go_wp2_with fail
      refine (cSh _ (by (repeat (first | exact bl_refl | assumption | (apply bl_then; assumption) | refine bl_alloc ?_ _ | refine bl_drew ?_ | refine bl_drewN ?_ _)))).mono ?_
      rintro e w2 ⟨rfl, hb2⟩
      replace hB1 := hB1.below (show Below _ _ w2 by (repeat (first | exact bl_refl | assumption | (apply bl_then; assumption) | refine bl_alloc ?_ _ | refine bl_drew ?_ | refine bl_drewN ?_ _)))
      replace fhB1 := hB1.facts
      go_wp2_with fail
      refine (cRP _ (by (repeat (first | exact bl_refl | assumption | (apply bl_then; assumption) | refine bl_alloc ?_ _ | refine bl_drew ?_ | refine bl_drewN ?_ _)))).mono ?_
      rintro e w3 ⟨rfl, hb3⟩
      replace hB1 := hB1.below (show Below _ _ w3 by (repeat (first | exact bl_refl | assumption | (apply bl_then; assumption) | refine bl_alloc ?_ _ | refine bl_drew ?_ | refine bl_drewN ?_ _)))
      replace fhB1 := hB1.facts
      go_wp2_with fail
      refine (cG _ (by (repeat (first | exact bl_refl | assumption | (apply bl_then; assumption) | refine bl_alloc ?_ _ | refine bl_drew ?_ | refine bl_drewN ?_ _)))).mono ?_
      rintro e w4 ⟨uL4, uR4, rfl, oL4, oR4, hb4⟩
      replace hB1 := hB1.below (show Below _ _ w4 by (repeat (first | exact bl_refl | assumption | (apply bl_then; assumption) | refine bl_alloc ?_ _ | refine bl_drew ?_ | refine bl_drewN ?_ _)))
      replace fhB1 := hB1.facts
      go_wp2_with fail
      refine (cW _ _ _ (oL4.rd ec_len) (oR4.rd ec_len)).mono ?_
      rintro e w5 ⟨vL5, vR5, rfl, pL5, pR5, hb5⟩
      replace hB1 := hB1.below (show Below _ _ w5 by (repeat (first | exact bl_refl | assumption | (apply bl_then; assumption) | refine bl_alloc ?_ _ | refine bl_drew ?_ | refine bl_drewN ?_ _)))
      replace fhB1 := hB1.facts
      obtain ⟨A5, c5, rfl⟩ := pL5.shape
      obtain ⟨A6, c6, rfl⟩ := pR5.shape
      have hB5 := Blk.new w5 29 #[.string ⟨Q.1.toArray⟩, .int .i64 Q.2.1, .slice A5 Q.2.2.1.length c5, .slice A6 Q.2.2.2.length c6]
      have fB5 := hB5.facts
      go_wp2_with fail
      refine (cG _ (by (repeat (first | exact bl_refl | assumption | (apply bl_then; assumption) | refine bl_alloc ?_ _ | refine bl_drew ?_ | refine bl_drewN ?_ _)))).mono ?_
      rintro e w6 ⟨uL6, uR6, rfl, oL6, oR6, hb6⟩
      replace hB1 := hB1.below (show Below _ _ w6 by (repeat (first | exact bl_refl | assumption | (apply bl_then; assumption) | refine bl_alloc ?_ _ | refine bl_drew ?_ | refine bl_drewN ?_ _)))
      replace fhB1 := hB1.facts
      replace hB5 := hB5.below (show Below _ _ w6 by (repeat (first | exact bl_refl | assumption | (apply bl_then; assumption) | refine bl_alloc ?_ _ | refine bl_drew ?_ | refine bl_drewN ?_ _)))
      replace fhB5 := hB5.facts
      go_wp2_with fail
      refine (cN _ _ _ (oL6.rd ec_len) (oR6.rd ec_len)).mono ?_
      rintro e w7 ⟨v7, rfl, hO7, hb7⟩
      replace hB1 := hB1.below (show Below _ _ w7 by (repeat (first | exact bl_refl | assumption | (apply bl_then; assumption) | refine bl_alloc ?_ _ | refine bl_drew ?_ | refine bl_drewN ?_ _)))
      replace fhB1 := hB1.facts
      replace hB5 := hB5.below (show Below _ _ w7 by (repeat (first | exact bl_refl | assumption | (apply bl_then; assumption) | refine bl_alloc ?_ _ | refine bl_drew ?_ | refine bl_drewN ?_ _)))
      replace fhB5 := hB5.facts
      obtain ⟨A7, c7, rfl⟩ := hO7.shape
      go_wp2_with fail
      refine (cG _ (by (repeat (first | exact bl_refl | assumption | (apply bl_then; assumption) | refine bl_alloc ?_ _ | refine bl_drew ?_ | refine bl_drewN ?_ _)))).mono ?_
      rintro e w8 ⟨uL8, uR8, rfl, oL8, oR8, hb8⟩
      replace hB1 := hB1.below (show Below _ _ w8 by (repeat (first | exact bl_refl | assumption | (apply bl_then; assumption) | refine bl_alloc ?_ _ | refine bl_drew ?_ | refine bl_drewN ?_ _)))
      replace fhB1 := hB1.facts
      replace hB5 := hB5.below (show Below _ _ w8 by (repeat (first | exact bl_refl | assumption | (apply bl_then; assumption) | refine bl_alloc ?_ _ | refine bl_drew ?_ | refine bl_drewN ?_ _)))
      replace fhB5 := hB5.facts
      go_wp2_with fail
      refine (cA _ _ _ (oL8.rd ec_len) (oR8.rd ec_len)).mono ?_
      rintro e w9 ⟨rfl, hb9⟩
      replace hB1 := hB1.below (show Below _ _ w9 by (repeat (first | exact bl_refl | assumption | (apply bl_then; assumption) | refine bl_alloc ?_ _ | refine bl_drew ?_ | refine bl_drewN ?_ _)))
      replace fhB1 := hB1.facts
      replace hB5 := hB5.below (show Below _ _ w9 by (repeat (first | exact bl_refl | assumption | (apply bl_then; assumption) | refine bl_alloc ?_ _ | refine bl_drew ?_ | refine bl_drewN ?_ _)))
      replace fhB5 := hB5.facts
      go_wp2_with fail
      refine (cC1 _ _ ((hO7.rd bc_len).below (by (repeat (first | exact bl_refl | assumption | (apply bl_then; assumption) | refine bl_alloc ?_ _ | refine bl_drew ?_ | refine bl_drewN ?_ _))))).mono ?_
      rintro e w10 ⟨rfl, hb10⟩
      replace hB1 := hB1.below (show Below _ _ w10 by (repeat (first | exact bl_refl | assumption | (apply bl_then; assumption) | refine bl_alloc ?_ _ | refine bl_drew ?_ | refine bl_drewN ?_ _)))
      replace fhB1 := hB1.facts
      replace hB5 := hB5.below (show Below _ _ w10 by (repeat (first | exact bl_refl | assumption | (apply bl_then; assumption) | refine bl_alloc ?_ _ | refine bl_drew ?_ | refine bl_drewN ?_ _)))
      replace fhB5 := hB5.facts
      have sQ1 := (pL5.rd ec_len).below (show Below w5.heap.size w5 w10 by (repeat (first | exact bl_refl | assumption | (apply bl_then; assumption) | refine bl_alloc ?_ _ | refine bl_drew ?_ | refine bl_drewN ?_ _)))
      have sQ2 := (pR5.rd ec_len).below (show Below w5.heap.size w5 w10 by (repeat (first | exact bl_refl | assumption | (apply bl_then; assumption) | refine bl_alloc ?_ _ | refine bl_drew ?_ | refine bl_drewN ?_ _)))
      have sN := (hO7.rd bc_len).below (show Below w7.heap.size w7 w10 by (repeat (first | exact bl_refl | assumption | (apply bl_then; assumption) | refine bl_alloc ?_ _ | refine bl_drew ?_ | refine bl_drewN ?_ _)))
      have hb010 : Below W.heap.size W w10 := by (repeat (first | exact bl_refl | assumption | (apply bl_then; assumption) | refine bl_alloc ?_ _ | refine bl_drew ?_ | refine bl_drewN ?_ _))
      have HB := Lib.hid hb010
      clear hb1 hb2 hb3 hb4 hb5 hb6 hb7 hb8 hb9 hb10 oL4 oR4 oL6 oR6 oL8 oR8 pL5 pR5 hO7 hb010
      go_wp2_with fail
      refine (cNQ _ _ _ sQ1 sQ2).mono ?_
      rintro e w11 ⟨v11, rfl, hO11, hb11⟩
      replace hB1 := hB1.below (show Below _ _ w11 by (repeat (first | exact bl_refl | assumption | (apply bl_then; assumption) | refine bl_alloc ?_ _ | refine bl_drew ?_ | refine bl_drewN ?_ _)))
      replace fhB1 := hB1.facts
      replace hB5 := hB5.below (show Below _ _ w11 by (repeat (first | exact bl_refl | assumption | (apply bl_then; assumption) | refine bl_alloc ?_ _ | refine bl_drew ?_ | refine bl_drewN ?_ _)))
      replace fhB5 := hB5.facts
      obtain ⟨A11, c11, rfl⟩ := hO11.shape
      go_wp2_with fail
      refine (cAQ _ _ _ (sQ1.below (by (repeat (first | exact bl_refl | assumption | (apply bl_then; assumption) | refine bl_alloc ?_ _ | refine bl_drew ?_ | refine bl_drewN ?_ _)))) (sQ2.below (by (repeat (first | exact bl_refl | assumption | (apply bl_then; assumption) | refine bl_alloc ?_ _ | refine bl_drew ?_ | refine bl_drewN ?_ _))))).mono ?_
      rintro e w12 ⟨rfl, hb12⟩
      replace hB1 := hB1.below (show Below _ _ w12 by (repeat (first | exact bl_refl | assumption | (apply bl_then; assumption) | refine bl_alloc ?_ _ | refine bl_drew ?_ | refine bl_drewN ?_ _)))
      replace fhB1 := hB1.facts
      replace hB5 := hB5.below (show Below _ _ w12 by (repeat (first | exact bl_refl | assumption | (apply bl_then; assumption) | refine bl_alloc ?_ _ | refine bl_drew ?_ | refine bl_drewN ?_ _)))
      replace fhB5 := hB5.facts
      go_wp2_with fail
      refine (cG _ (bl_then (show Below w10.heap.size w10 w12 by (repeat (first | exact bl_refl | assumption | (apply bl_then; assumption) | refine bl_alloc ?_ _ | refine bl_drew ?_ | refine bl_drewN ?_ _))) HB.out)).mono ?_
      rintro e w13 ⟨uL13, uR13, rfl, oL13, oR13, hb13⟩
      replace hB1 := hB1.below (show Below _ _ w13 by (repeat (first | exact bl_refl | assumption | (apply bl_then; assumption) | refine bl_alloc ?_ _ | refine bl_drew ?_ | refine bl_drewN ?_ _)))
      replace fhB1 := hB1.facts
      replace hB5 := hB5.below (show Below _ _ w13 by (repeat (first | exact bl_refl | assumption | (apply bl_then; assumption) | refine bl_alloc ?_ _ | refine bl_drew ?_ | refine bl_drewN ?_ _)))
      replace fhB5 := hB5.facts
      go_wp2_with fail
      refine (cO _ _ _ (oL13.rd ec_len) (oR13.rd ec_len)).mono ?_
      rintro e w14 ⟨v14, rfl, hO14, hb14⟩
      replace hB1 := hB1.below (show Below _ _ w14 by (repeat (first | exact bl_refl | assumption | (apply bl_then; assumption) | refine bl_alloc ?_ _ | refine bl_drew ?_ | refine bl_drewN ?_ _)))
      replace fhB1 := hB1.facts
      replace hB5 := hB5.below (show Below _ _ w14 by (repeat (first | exact bl_refl | assumption | (apply bl_then; assumption) | refine bl_alloc ?_ _ | refine bl_drew ?_ | refine bl_drewN ?_ _)))
      replace fhB5 := hB5.facts
      obtain ⟨A14, c14, rfl⟩ := hO14.shape
      go_wp2_with fail
      refine (cOQ _ _ _ (sQ1.below (by (repeat (first | exact bl_refl | assumption | (apply bl_then; assumption) | refine bl_alloc ?_ _ | refine bl_drew ?_ | refine bl_drewN ?_ _)))) (sQ2.below (by (repeat (first | exact bl_refl | assumption | (apply bl_then; assumption) | refine bl_alloc ?_ _ | refine bl_drew ?_ | refine bl_drewN ?_ _))))).mono ?_
      rintro e w15 ⟨v15, rfl, hO15, hb15⟩
      replace hB1 := hB1.below (show Below _ _ w15 by (repeat (first | exact bl_refl | assumption | (apply bl_then; assumption) | refine bl_alloc ?_ _ | refine bl_drew ?_ | refine bl_drewN ?_ _)))
      replace fhB1 := hB1.facts
      replace hB5 := hB5.below (show Below _ _ w15 by (repeat (first | exact bl_refl | assumption | (apply bl_then; assumption) | refine bl_alloc ?_ _ | refine bl_drew ?_ | refine bl_drewN ?_ _)))
      replace fhB5 := hB5.facts
      obtain ⟨A15, c15, rfl⟩ := hO15.shape
      go_wp2_with fail
      refine (cWQ _ _ _ (sQ1.below (by (repeat (first | exact bl_refl | assumption | (apply bl_then; assumption) | refine bl_alloc ?_ _ | refine bl_drew ?_ | refine bl_drewN ?_ _)))) (sQ2.below (by (repeat (first | exact bl_refl | assumption | (apply bl_then; assumption) | refine bl_alloc ?_ _ | refine bl_drew ?_ | refine bl_drewN ?_ _))))).mono ?_
      rintro e w16 ⟨vL16, vR16, rfl, pL16, pR16, hb16⟩
      replace hB1 := hB1.below (show Below _ _ w16 by (repeat (first | exact bl_refl | assumption | (apply bl_then; assumption) | refine bl_alloc ?_ _ | refine bl_drew ?_ | refine bl_drewN ?_ _)))
      replace fhB1 := hB1.facts
      replace hB5 := hB5.below (show Below _ _ w16 by (repeat (first | exact bl_refl | assumption | (apply bl_then; assumption) | refine bl_alloc ?_ _ | refine bl_drew ?_ | refine bl_drewN ?_ _)))
      replace fhB5 := hB5.facts
      obtain ⟨A16, c16, rfl⟩ := pL16.shape
      obtain ⟨A17, c17, rfl⟩ := pR16.shape
      have hB16 := Blk.new w16 29 #[.string ⟨p.1.toArray⟩, .int .i64 p.2.1, .slice A16 p.2.2.1.length c16, .slice A17 p.2.2.2.length c17]
      have fB16 := hB16.facts
      go_upto_region 13 with fail
      obtain ⟨x16, hx⟩ : ∃ X, w16.alloc (.cells #[.string ⟨p.1.toArray⟩, .int .i64 p.2.1, .slice A16 p.2.2.1.length c16, .slice A17 p.2.2.2.length c17] 29) = X := ⟨_, rfl⟩
      have hb17 : Below w16.heap.size w16 x16 := by rw [← hx]; exact bl_alloc bl_refl _
      rw [hx] at hB16 ⊢
      clear hx fB1 fB5 fB16 hB5
      have fB16 := hB16.facts
      replace hB1 := hB1.below hb17
      have fB1 := hB1.facts
      have sB1 := (pL16.rd ec_len).below hb17
      have sB2 := (pR16.rd ec_len).below hb17
      have sN2 := sN.below (show Below w10.heap.size w10 x16 by (repeat (first | exact bl_refl | assumption | (apply bl_then; assumption) | refine bl_alloc ?_ _ | refine bl_drew ?_ | refine bl_drewN ?_ _)))
      have sM2 := (hO11.rd bc_len).below (show Below w11.heap.size w11 x16 by (repeat (first | exact bl_refl | assumption | (apply bl_then; assumption) | refine bl_alloc ?_ _ | refine bl_drew ?_ | refine bl_drewN ?_ _)))
      have sO1 := (hO14.rd kc_len).below (show Below w14.heap.size w14 x16 by (repeat (first | exact bl_refl | assumption | (apply bl_then; assumption) | refine bl_alloc ?_ _ | refine bl_drew ?_ | refine bl_drewN ?_ _)))
      have sO2 := (hO15.rd kc_len).below (show Below w15.heap.size w15 x16 by (repeat (first | exact bl_refl | assumption | (apply bl_then; assumption) | refine bl_alloc ?_ _ | refine bl_drew ?_ | refine bl_drewN ?_ _)))
      have hx17 : Below W.heap.size W x16 := bl_then (show Below w10.heap.size w10 x16 by (repeat (first | exact bl_refl | assumption | (apply bl_then; assumption) | refine bl_alloc ?_ _ | refine bl_drew ?_ | refine bl_drewN ?_ _))) HB.out
      clear HB hb11 hb12 hb13 hb14 hb15 hb16 hb17 oL13 oR13 pL16 pR16 hO11 hO14 hO15 sN sQ1 sQ2
      refine wp_region_ords [0, 1] [(2, false), (3, false), (4, false), (5, true), (6, true), (7, false)] [8] (by kernel_rfl) (by kernel_rfl) (fun d _ _ _ _ h => by cases d <;> exact h) ?_
      simp only [List.map_cons, List.map_nil, List.getD_cons_zero, List.getD_cons_succ]
      repeat (go_big_quiet_step (fail))
      refine wpQuiet_nil ?_
      refine wpMid_run rfl (fun K hK => ?_)
      go_simp
      refine (cG _ (bl_then (by (repeat (first | exact bl_refl | assumption | (apply bl_then; assumption) | refine bl_alloc ?_ _ | refine bl_drew ?_ | refine bl_drewN ?_ _))) hx17)).mono ?_
      rintro e w18 ⟨uL18, uR18, rfl, oL18, oR18, hb18⟩
      refine hK _ _ (by (repeat (first | exact bl_refl | assumption | (apply bl_then; assumption) | refine bl_alloc ?_ _ | refine bl_drew ?_ | refine bl_drewN ?_ _))) ?_
      clear hK K
      have hB1_w18 := hB1.below (show Below _ _ w18 by (repeat (first | exact bl_refl | assumption | (apply bl_then; assumption) | refine bl_alloc ?_ _ | refine bl_drew ?_ | refine bl_drewN ?_ _)))
      have fhB1_w18 := hB1_w18.facts
      have hB16_w18 := hB16.below (show Below _ _ w18 by (repeat (first | exact bl_refl | assumption | (apply bl_then; assumption) | refine bl_alloc ?_ _ | refine bl_drew ?_ | refine bl_drewN ?_ _)))
      have fhB16_w18 := hB16_w18.facts
      refine wpMid_run rfl (fun K hK => ?_)
      go_simp
      refine (cSm _ _ _ _ _ (sB1.below (by (repeat (first | exact bl_refl | assumption | (apply bl_then; assumption) | refine bl_alloc ?_ _ | refine bl_drew ?_ | refine bl_drewN ?_ _)))) (sB2.below (by (repeat (first | exact bl_refl | assumption | (apply bl_then; assumption) | refine bl_alloc ?_ _ | refine bl_drew ?_ | refine bl_drewN ?_ _)))) (oL18.rd ec_len) (oR18.rd ec_len)).mono ?_
      rintro e w19 ⟨rfl, hb19⟩
      refine hK _ _ (by (repeat (first | exact bl_refl | assumption | (apply bl_then; assumption) | refine bl_alloc ?_ _ | refine bl_drew ?_ | refine bl_drewN ?_ _))) ?_
      clear hK K
      have hB1_w19 := hB1.below (show Below _ _ w19 by (repeat (first | exact bl_refl | assumption | (apply bl_then; assumption) | refine bl_alloc ?_ _ | refine bl_drew ?_ | refine bl_drewN ?_ _)))
      have fhB1_w19 := hB1_w19.facts
      have hB16_w19 := hB16.below (show Below _ _ w19 by (repeat (first | exact bl_refl | assumption | (apply bl_then; assumption) | refine bl_alloc ?_ _ | refine bl_drew ?_ | refine bl_drewN ?_ _)))
      have fhB16_w19 := hB16_w19.facts
      refine wpMid_run rfl (fun K hK => ?_)
      go_simp
      refine hK _ _ (by (repeat (first | exact bl_refl | assumption | (apply bl_then; assumption) | refine bl_alloc ?_ _ | refine bl_drew ?_ | refine bl_drewN ?_ _))) ?_
      clear hK K
      refine wpMid_take rfl ?_
      intro K hK
      go_big_quiet_op
      go_big_quiet_on
      refine wpMid_take rfl ?_
      intro K hK
      go_big_quiet_op
      go_big_quiet_on
      refine wpMid_run rfl (fun K hK => ?_)
      go_simp
      refine hK _ _ (by (repeat (first | exact bl_refl | assumption | (apply bl_then; assumption) | refine bl_alloc ?_ _ | refine bl_drew ?_ | refine bl_drewN ?_ _))) ?_
      clear hK K
      refine wpMid_nil ?_
      have hx19 : Below x16.heap.size x16 w19 := by (repeat (first | exact bl_refl | assumption | (apply bl_then; assumption) | refine bl_alloc ?_ _ | refine bl_drew ?_ | refine bl_drewN ?_ _))
      have sM3 := sM2.below hx19
      go_wp2_with fail
      refine (cC2 _ _ sM3).mono ?_
      rintro e w20 ⟨rfl, hb20⟩
      have hx20 : Below x16.heap.size x16 w20 := bl_then hb20 hx19
      have sM4 := sM3.below hb20
      have sN4 := sN2.below hx20
      have sO14 := sO1.below hx20
      have sO24 := sO2.below hx20
      have hB4 := (hB1.below hx19).below hb20
      have h020 : Below W.heap.size W w20 := bl_then hx20 hx17
      clear sM2 sM3 sN2 sO1 sO2 hx17 hx19 hx20 hb18 hb19 hb20 oL18 oR18 sB1 sB2 hB1 hB16 fB1 fB16
      have hE20 := Own.empty bc 3 w20 95
      go_wp2_with (first | (at_builtin; refine wpList_appBL hE20 (sM4.alloc _) rfl _ _ rfl rfl rfl (by simp; omega) (by simp) ?_; intro v21 w21 hO21 hg21; have hb21 : Below w20.heap.size w20 w21 := bl_grown hg21 (bl_alloc bl_refl _) (fun k e => (hE20.lt k e).1); rw [List.nil_append] at hO21; have sN21 := sN4.below hb21; have hE21 := Own.empty bc 3 w21 95) | (at_builtin; refine wpList_appBL hE21 (sN21.alloc _) rfl _ _ rfl rfl rfl (by simp; omega) (by simp) ?_; intro v22 w22 hO22 hg22; have hb22 : Below w21.heap.size w21 w22 := bl_grown hg22 (bl_alloc bl_refl _) (fun k e => (hE21.lt k e).1); rw [List.nil_append] at hO22; have sM22 := (hO21.rd bc_len).below hb22))
      refine (cMt _ _ _ sM22 (hO22.rd bc_len)).mono ?_
      rintro e w23 ⟨v23, rfl, hO23, hb23⟩
      obtain ⟨A23, c23, rfl⟩ := hO23.shape
      have hx23 : Below w20.heap.size w20 w23 := bl_then hb23 (bl_then hb22 hb21)
      replace hB4 := hB4.below hx23
      have fB4 := hB4.facts
      go_wp2_with fail
      refine (cH _ (bl_then hx23 h020)).mono ?_
      rintro e w24 ⟨rfl, hb24⟩
      have hx24 : Below w20.heap.size w20 w24 := bl_then hb24 hx23
      go_wp2_with fail
      refine (cSK _ _ _ (sO14.below hx24) (sO24.below hx24)).mono ?_
      rintro e w25 ⟨rfl, hb25⟩
      have hx25 : Below w20.heap.size w20 w25 := bl_then hb25 hx24
      go_wp2_with fail
      refine (cSN _ _ _ ((hO23.rd bc_len).below (bl_then hb25 hb24)) (sN4.below hx25)).mono ?_
      rintro e w26 ⟨rfl, hb26⟩
      go_wp2
      go_ret
      exact ⟨rfl, bl_then hb26 (bl_then hx25 h020)⟩
    · obtain ⟨E, hE⟩ : ∃ z, panE p = z := ⟨_, rfl⟩
      rw [hE] at cRP hz
      simp only [sV] at cSh cRP ⊢
      have tz : (E != 0) = true := by simpa using hz
      clear hE hz cG hq hwL hwR hL hR
      go_enter Tryz.func7, Tryz.ntmps7
      go_wp2_with fail
      refine (cAw _ (by (repeat (first | exact bl_refl | assumption | (apply bl_then; assumption) | refine bl_alloc ?_ _ | refine bl_drew ?_ | refine bl_drewN ?_ _)))).mono ?_
      rintro e w1 ⟨rfl, hb1⟩
      replace hB1 := hB1.below (show Below _ _ w1 by (repeat (first | exact bl_refl | assumption | (apply bl_then; assumption) | refine bl_alloc ?_ _ | refine bl_drew ?_ | refine bl_drewN ?_ _)))
      replace fhB1 := hB1.facts
      go_wp2_with fail
      refine (cSh _ (by (repeat (first | exact bl_refl | assumption | (apply bl_then; assumption) | refine bl_alloc ?_ _ | refine bl_drew ?_ | refine bl_drewN ?_ _)))).mono ?_
      rintro e w2 ⟨rfl, hb2⟩
      replace hB1 := hB1.below (show Below _ _ w2 by (repeat (first | exact bl_refl | assumption | (apply bl_then; assumption) | refine bl_alloc ?_ _ | refine bl_drew ?_ | refine bl_drewN ?_ _)))
      replace fhB1 := hB1.facts
      go_wp2_with fail
      refine (cRP _ (by (repeat (first | exact bl_refl | assumption | (apply bl_then; assumption) | refine bl_alloc ?_ _ | refine bl_drew ?_ | refine bl_drewN ?_ _)))).mono ?_
      rintro e w3 ⟨rfl, hb3⟩
      replace hB1 := hB1.below (show Below _ _ w3 by (repeat (first | exact bl_refl | assumption | (apply bl_then; assumption) | refine bl_alloc ?_ _ | refine bl_drew ?_ | refine bl_drewN ?_ _)))
      replace fhB1 := hB1.facts
      go_wp2_with fail
      refine (cAw _ (by (repeat (first | exact bl_refl | assumption | (apply bl_then; assumption) | refine bl_alloc ?_ _ | refine bl_drew ?_ | refine bl_drewN ?_ _)))).mono ?_
      rintro e w4 ⟨rfl, hb4⟩
      go_wp2
      go_ret
      exact ⟨rfl, by (repeat (first | exact bl_refl | assumption | (apply bl_then; assumption) | refine bl_alloc ?_ _ | refine bl_drew ?_ | refine bl_drewN ?_ _))⟩
end Go.Proofs.YthkjgcldolnjaaaGreatDoor

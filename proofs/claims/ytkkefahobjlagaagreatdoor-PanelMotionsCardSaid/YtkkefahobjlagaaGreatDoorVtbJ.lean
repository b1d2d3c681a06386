/- PanelMotions, walked. Conditions: the variables are laid. -/
import Derived.Test.YtkkefahobjlagaaGreatDoorN37
import Derived.Test.YtkkefahobjlagaaGreatDoorN40
import Derived.Test.YtkkefahobjlagaaGreatDoorN50
import Derived.Test.YtkkefahobjlagaaGreatDoorN49
import Derived.Test.YtkkefahobjlagaaGreatDoorN43
import Derived.Test.YtkkefahobjlagaaGreatDoorN13
namespace Go.Proofs.YtkkefahobjlagaaGreatDoor
open Go.RowKit Go.ChangeMaps
set_option maxHeartbeats 4000000
set_option maxRecDepth 100000
attribute [local go_sem] Oper.semAt_some
theorem panelMotions_any {vL vR : Value} (p : Pan) (W : World) (hnm : p.1.length ≤ maxLen) (hL : SlE W vL p.2.2.1) (hR : SlE W vR p.2.2.2) (hLay : Lay W) :
  Calls Tryz.prog 4 #[.agg #[sV p.1, .int .i64 p.2.1, vL, vR]] W (RV W (.bool true)) := by
 have cAw := fun W' (hb : Below W.heap.size W W') => awakeP_any W' (hLay.below hb)
 have cSh := fun W' (hb : Below W.heap.size W W') => shortP_any p 16 W' hnm (hL.below hb) (hR.below hb)
 obtain ⟨q, hq⟩ : ∃ q, shortP p 16 = q := ⟨_, rfl⟩
 rw [hq] at cSh
 obtain ⟨AL, cL, hvL, hLc, hLm, rL⟩ := id hL
 obtain ⟨AR, cR, hvR, hRc, hRm, rR⟩ := id hR
 subst hvL hvR
 have hB1 := Blk.new W 24 #[.string ⟨p.1.toArray⟩, .int .i64 p.2.1, .slice AL p.2.2.1.length cL, .slice AR p.2.2.2.length cR]
 have fB1 := hB1.facts
 clear rL rR hLc hLm hRc hRm
 cases q
 ·unfold sV at cSh ⊢
  clear hq hL hR
  go_enter Tryz.func4, Tryz.ntmps4
  go_wp2_with fail
  refine (cAw _ (by (repeat first|exact J0|assumption|(apply J1;assumption)|apply J2|apply J3|apply J4))).mono ?_
  rintro e w1 ⟨rfl, hb1⟩
  replace hB1 := hB1.below (show Below _ _ w1 by (repeat first|exact J0|assumption|(apply J1;assumption)|apply J2|apply J3|apply J4))
  replace fhB1 := hB1.facts
  go_wp2_with fail
  refine (cSh _ (by (repeat first|exact J0|assumption|(apply J1;assumption)|apply J2|apply J3|apply J4))).mono ?_
  rintro e w2 ⟨rfl, hb2⟩
  go_wp2_with fail
  refine (cAw _ (by (repeat first|exact J0|assumption|(apply J1;assumption)|apply J2|apply J3|apply J4))).mono ?_
  rintro e w3 ⟨rfl, hb3⟩
  go_wp2
  go_ret
  exact ⟨rfl, by (repeat first|exact J0|assumption|(apply J1;assumption)|apply J2|apply J3|apply J4)⟩
 ·obtain ⟨hn60, ⟨hlL, hwL⟩, hlR, hwR⟩ := shortP_words hq
  have cG := fun W' (hb : Below W.heap.size W W') => given_any p W' (hL.below hb) (hR.below hb) (by omega) (by omega)
  have cRP := fun W' (hb : Below W.heap.size W W') => rcheckPanel_any p W' (by omega) (hL.below hb) (hR.below hb) (fun e he => by have := hwL e he; omega) (fun e he => by have := hwR e he; omega)
  unfold GIW at cG
  by_cases hz : panE p = 0
  ·have hok := panE_zero hz
   have hsm := shortP_small (n := 16) hq hok
   have hM := hsm.moves hz
   have hfew := hsm.few
   have cRPl := fun W' (hb : Below W.heap.size W W') => rPlain_any p W' (hL.below hb) (hR.below hb) hok
   have cRQ := fun (vL vR : Value) W' hL hR => rcheckPanel_any (vL := vL) (vR := vR) (plaQ p) W' (show p.1.length ≤ 1000000 by omega) hL hR (fun e he => by have := pln_words64 (stpL p.2.2.1) e he; omega) (fun e he => by have := pln_words64 (stpL p.2.2.2) e he; omega)
   rw [hz] at cRP
   by_cases hz2 : panE (plaQ p) = 0
   ·have cN := fun (vL vR : Value) W' hL hR => apiNet_any (vL := vL) (vR := vR) p W' (by omega) hL hR
    have cMi := fun (vL vR : Value) W' hL hR => apiMirror_any (vL := vL) (vR := vR) p W' (by omega) hL hR
    have cTu := fun (vL vR : Value) W' hL hR => apiTurn_any (vL := vL) (vR := vR) p W' (by omega) hL hR
    have cPl := fun (vL vR : Value) W' hL hR => apiPlain_any (vL := vL) (vR := vR) p W' (by omega) hL hR
    have cCo := fun (vL vR : Value) W' hL hR => apiCorners_any (vL := vL) (vR := vR) p W' (by omega) hL hR
    have cNM := fun (vL vR : Value) W' hL hR => apiNet_any (vL := vL) (vR := vR) (mirP p) W' (show p.1.length ≤ 1000000 by omega) hL hR
    have cNT := fun (vL vR : Value) W' hL hR => apiNet_any (vL := vL) (vR := vR) (trnP p) W' (show p.1.length ≤ 1000000 by omega) hL hR
    have cNA := fun (vL vR : Value) W' hL hR => apiNet_any (vL := vL) (vR := vR) (plaQ p) W' (show p.1.length ≤ 1000000 by omega) hL hR
    have cMM := fun (vL vR : Value) W' hL hR => apiMirror_any (vL := vL) (vR := vR) (mirP p) W' (show p.1.length ≤ 1000000 by omega) hL hR
    have cTT := fun (vL vR : Value) W' hL hR => apiTurn_any (vL := vL) (vR := vR) (trnP p) W' (show p.1.length ≤ 1000000 by omega) hL hR
    have cSm := fun (a b c d : Value) W' h1 h2 h3 h4 => apiSame_any (vL := a) (vR := b) (uL := c) (uR := d) p p W' (by omega) (by omega) h1 h2 h3 h4
    have cC1 := fun (v : Value) W' h => rnet_sl (v := v) (netL p) W' h
    have cNm := fun (v : Value) W' h => netMirror_any (v := v) (netL p) W' h
    have cNt := fun (v : Value) W' h => netTurn_any (v := v) (netL p) 2 W' h
    have cS1 := fun (v : Value) W' h => apiShift_any (v := v) (mirN (netL p)) (2 * p.2.1) 0 W' h
    have cS2 := fun (v : Value) W' h => apiShift_any (v := v) (turnN 2 (netL p)) (topX p true) (heightP p) W' h
    rw [hM.n0, show onlyOk 0 (netL p) = netL p from rfl] at cN
    rw [hM.n1, show onlyOk 0 (netL (mirP p)) = netL (mirP p) from rfl] at cNM
    rw [hM.n2, show onlyOk 0 (netL (trnP p)) = netL (trnP p) from rfl] at cNT
    rw [netErr_nil hz2 (show (netL (plaQ p)).length ≤ 4096 by rw [show netL (plaQ p) = netL p from pln_net p]; exact hfew), show onlyOk 0 (netL (plaQ p)) = netL (plaQ p) from rfl, show netL (plaQ p) = netL p from pln_net p] at cNA
    rw [hM.c0] at cC1
    rw [hM.c0, show onlyOk 0 (mirN (netL p)) = mirN (netL p) from rfl] at cNm
    rw [hM.c0, show qN 2 = 2 from by decide, show onlyOk 0 (turnN 2 (netL p)) = turnN 2 (netL p) from rfl] at cNt
    rw [hM.s1, hM.l1] at cS1
    rw [hM.s2, hM.l2] at cS2
    rw [show pcR (panE p) (mirQ p) = mirP p by unfold pcR pcE; rw [hz]; exact if_pos (by rw [if_neg (by decide)]; exact hM.e1), show pcE (panE p) (mirQ p) = 0 by unfold pcE; rw [hz, if_neg (by decide)]; exact hM.e1] at cMi
    rw [show pcR (panE p) (turQ p) = trnP p by unfold pcR pcE; rw [hz]; exact if_pos (by rw [if_neg (by decide)]; exact hM.e2), show pcE (panE p) (turQ p) = 0 by unfold pcE; rw [hz, if_neg (by decide)]; exact hM.e2] at cTu
    rw [show pcR (panE p) (plaQ p) = plaQ p by unfold pcR pcE; rw [hz]; exact if_pos (by rw [if_neg (by decide)]; exact hz2), show pcE (panE p) (plaQ p) = 0 by unfold pcE; rw [hz, if_neg (by decide)]; exact hz2] at cPl
    rw [hM.e1, show pcR 0 (mirQ (mirP p)) = p by unfold pcR pcE; exact if_pos (by rw [if_neg (by decide)]; exact hz), show pcE 0 (mirQ (mirP p)) = 0 by unfold pcE; rw [if_neg (by decide)]; exact hz] at cMM
    have htt : turQ (trnP p) = p := trn_trn hok
    rw [hM.e2, htt, show pcR 0 p = p by unfold pcR pcE; exact if_pos (by rw [if_neg (by decide)]; exact hz), show pcE 0 p = 0 by unfold pcE; rw [if_neg (by decide)]; exact hz] at cTT
    have et : twoP p p = 0 := by unfold twoP; rw [hz]; rfl
    rw [et, show (decide ((0 : Int) = 0) && samQ p p) = true by unfold samQ; simp] at cSm
    obtain ⟨a0, a1, a2, a3, a4, a5, hco⟩ := cornA_top hok
    rw [show cornR p = cornA p from if_pos hz, hco, hz] at cCo
    rw [hz2] at cRQ
    have hx1 := hM.x1
    have hx2 := hM.x2
    have hy1 := hM.y1
    have hy2 := hM.y2
    have hw1 := hM.w1
    have hw2 := hM.w2
    have cRPl' : ∀ W', Below W.heap.size W W' → Calls Tryz.prog 24 #[.agg #[sV p.1, .int .i64 p.2.1, .slice AL p.2.2.1.length cL, .slice AR p.2.2.2.length cR]] W' (fun e w' => ∃ xL xR, e = .returned (.agg #[sV (plaQ p).1, .int .i64 (plaQ p).2.1, xL, xR]) ∧ Own ec 3 W'.heap.size 132 w' xL (plaQ p).2.2.1 ∧ Own ec 3 W'.heap.size 132 w' xR (plaQ p).2.2.2 ∧ Below W'.heap.size W' w') := cRPl
    clear cRPl
    unfold RPN at cMi cTu cPl cMM cTT
    simp only [sV] at cSh cG cRP cRPl' cRQ cN cMi cTu cPl cCo cNM cNT cNA cMM cTT cSm ⊢
    obtain ⟨N, hN⟩ : ∃ z, netL p = z := ⟨_, rfl⟩
    obtain ⟨X, hX⟩ : ∃ z, netL (mirP p) = z := ⟨_, rfl⟩
    obtain ⟨Y, hY⟩ : ∃ z, netL (trnP p) = z := ⟨_, rfl⟩
    obtain ⟨TX, hTX⟩ : ∃ z, topX p true = z := ⟨_, rfl⟩
    obtain ⟨H, hH⟩ : ∃ z, heightP p = z := ⟨_, rfl⟩
    obtain ⟨M, hMP⟩ : ∃ z, mirP p = z := ⟨_, rfl⟩
    obtain ⟨U, hUP⟩ : ∃ z, trnP p = z := ⟨_, rfl⟩
    obtain ⟨B, hBP⟩ : ∃ z, plaQ p = z := ⟨_, rfl⟩
    rw [hN] at hfew cN cNA cC1 cNm cNt cS1 cS2
    rw [hX] at cNM cS1
    rw [hY] at cNT cS2
    rw [hTX] at hx1 hx2 cCo cS2
    rw [hH] at hy1 hy2 cCo cS2
    rw [hMP] at cMi cNM cMM
    rw [hUP] at cTu cNT cTT
    rw [hBP] at cPl cNA cRPl' cRQ
    obtain ⟨Z1, hZ1⟩ : ∃ z, mirN N = z := ⟨_, rfl⟩
    obtain ⟨Z2, hZ2⟩ : ∃ z, turnN 2 N = z := ⟨_, rfl⟩
    rw [hZ1] at cNm cS1
    rw [hZ2] at cNt cS2
    have cSN := fun (v u : Value) W' h h' => sameBars_any (v := v) (u := u) N N W' h h'
    rw [show decide (N = N) = true from decide_eq_true rfl] at cSN
    have cSX := fun (v u : Value) W' h h' => sameBars_any (v := v) (u := u) X X W' h h'
    rw [show decide (X = X) = true from decide_eq_true rfl] at cSX
    have cSY := fun (v u : Value) W' h h' => sameBars_any (v := v) (u := u) Y Y W' h h'
    rw [show decide (Y = Y) = true from decide_eq_true rfl] at cSY
    have tx1 : (TX < -100) = False := eq_false (by omega)
    have tx2 : (100 < TX) = False := eq_false (by omega)
    have ty1 : (H < 0) = False := eq_false (by omega)
    have ty2 : (100 < H) = False := eq_false (by omega)
    clear hz hz2 hok hsm hM hco htt et hN hX hY hTX hH hMP hUP hBP hZ1 hZ2 hq hwL hwR hL hR
    go_enter Tryz.func4, Tryz.ntmps4
    go_wp2_with fail
    refine (cAw _ (by (repeat first|exact J0|assumption|(apply J1;assumption)|apply J2|apply J3|apply J4))).mono ?_
    rintro e w1 ⟨rfl, hb1⟩
    replace hB1 := hB1.below (show Below _ _ w1 by (repeat first|exact J0|assumption|(apply J1;assumption)|apply J2|apply J3|apply J4))
    replace fhB1 := hB1.facts
    go_wp2_with fail
    refine (cSh _ (by (repeat first|exact J0|assumption|(apply J1;assumption)|apply J2|apply J3|apply J4))).mono ?_
    rintro e w2 ⟨rfl, hb2⟩
    replace hB1 := hB1.below (show Below _ _ w2 by (repeat first|exact J0|assumption|(apply J1;assumption)|apply J2|apply J3|apply J4))
    replace fhB1 := hB1.facts
    go_wp2_with fail
    refine (cRP _ (by (repeat first|exact J0|assumption|(apply J1;assumption)|apply J2|apply J3|apply J4))).mono ?_
    rintro e w3 ⟨rfl, hb3⟩
    replace hB1 := hB1.below (show Below _ _ w3 by (repeat first|exact J0|assumption|(apply J1;assumption)|apply J2|apply J3|apply J4))
    replace fhB1 := hB1.facts
    go_wp2_with fail
    refine (cRPl' _ (by (repeat first|exact J0|assumption|(apply J1;assumption)|apply J2|apply J3|apply J4))).mono ?_
    rintro e w4 ⟨vL4, vR4, rfl, oL4, oR4, hb4⟩
    replace hB1 := hB1.below (show Below _ _ w4 by (repeat first|exact J0|assumption|(apply J1;assumption)|apply J2|apply J3|apply J4))
    replace fhB1 := hB1.facts
    go_wp2_with fail
    refine (cRQ _ _ _ (oL4.rd ec_len) (oR4.rd ec_len)).mono ?_
    rintro e w5 ⟨rfl, hb5⟩
    replace hB1 := hB1.below (show Below _ _ w5 by (repeat first|exact J0|assumption|(apply J1;assumption)|apply J2|apply J3|apply J4))
    replace fhB1 := hB1.facts
    go_wp2_with fail
    refine (cG _ (by (repeat first|exact J0|assumption|(apply J1;assumption)|apply J2|apply J3|apply J4))).mono ?_
    rintro e w6 ⟨uL6, uR6, rfl, oL6, oR6, hb6⟩
    replace hB1 := hB1.below (show Below _ _ w6 by (repeat first|exact J0|assumption|(apply J1;assumption)|apply J2|apply J3|apply J4))
    replace fhB1 := hB1.facts
    go_wp2_with fail
    refine (cN _ _ _ (oL6.rd ec_len) (oR6.rd ec_len)).mono ?_
    rintro e w7 ⟨v7, rfl, hO7, hb7⟩
    replace hB1 := hB1.below (show Below _ _ w7 by (repeat first|exact J0|assumption|(apply J1;assumption)|apply J2|apply J3|apply J4))
    replace fhB1 := hB1.facts
    obtain ⟨A7, c7, rfl⟩ := hO7.shape
    go_wp2_with fail
    refine (cG _ (by (repeat first|exact J0|assumption|(apply J1;assumption)|apply J2|apply J3|apply J4))).mono ?_
    rintro e w8 ⟨uL8, uR8, rfl, oL8, oR8, hb8⟩
    replace hB1 := hB1.below (show Below _ _ w8 by (repeat first|exact J0|assumption|(apply J1;assumption)|apply J2|apply J3|apply J4))
    replace fhB1 := hB1.facts
    go_wp2_with fail
    refine (cMi _ _ _ (oL8.rd ec_len) (oR8.rd ec_len)).mono ?_
    rintro e w9 ⟨vL9, vR9, rfl, pL9, pR9, hb9⟩
    replace hB1 := hB1.below (show Below _ _ w9 by (repeat first|exact J0|assumption|(apply J1;assumption)|apply J2|apply J3|apply J4))
    replace fhB1 := hB1.facts
    obtain ⟨A9, c9, rfl⟩ := pL9.shape
    obtain ⟨B9, d9, rfl⟩ := pR9.shape
    have hB9 := Blk.new w9 30 #[.string ⟨M.1.toArray⟩, .int .i64 M.2.1, .slice A9 M.2.2.1.length c9, .slice B9 M.2.2.2.length d9]
    have fB9 := hB9.facts
    go_wp2_with fail
    refine (cG _ (by (repeat first|exact J0|assumption|(apply J1;assumption)|apply J2|apply J3|apply J4))).mono ?_
    rintro e w10 ⟨uL10, uR10, rfl, oL10, oR10, hb10⟩
    replace hB1 := hB1.below (show Below _ _ w10 by (repeat first|exact J0|assumption|(apply J1;assumption)|apply J2|apply J3|apply J4))
    replace fhB1 := hB1.facts
    replace hB9 := hB9.below (show Below _ _ w10 by (repeat first|exact J0|assumption|(apply J1;assumption)|apply J2|apply J3|apply J4))
    replace fhB9 := hB9.facts
    go_wp2_with fail
    refine (cTu _ _ _ (oL10.rd ec_len) (oR10.rd ec_len)).mono ?_
    rintro e w11 ⟨vL11, vR11, rfl, pL11, pR11, hb11⟩
    replace hB1 := hB1.below (show Below _ _ w11 by (repeat first|exact J0|assumption|(apply J1;assumption)|apply J2|apply J3|apply J4))
    replace fhB1 := hB1.facts
    replace hB9 := hB9.below (show Below _ _ w11 by (repeat first|exact J0|assumption|(apply J1;assumption)|apply J2|apply J3|apply J4))
    replace fhB9 := hB9.facts
    obtain ⟨A11, c11, rfl⟩ := pL11.shape
    obtain ⟨B11, d11, rfl⟩ := pR11.shape
    have hB11 := Blk.new w11 30 #[.string ⟨U.1.toArray⟩, .int .i64 U.2.1, .slice A11 U.2.2.1.length c11, .slice B11 U.2.2.2.length d11]
    have fB11 := hB11.facts
    go_wp2_with fail
    refine (cG _ (by (repeat first|exact J0|assumption|(apply J1;assumption)|apply J2|apply J3|apply J4))).mono ?_
    rintro e w12 ⟨uL12, uR12, rfl, oL12, oR12, hb12⟩
    replace hB1 := hB1.below (show Below _ _ w12 by (repeat first|exact J0|assumption|(apply J1;assumption)|apply J2|apply J3|apply J4))
    replace fhB1 := hB1.facts
    replace hB9 := hB9.below (show Below _ _ w12 by (repeat first|exact J0|assumption|(apply J1;assumption)|apply J2|apply J3|apply J4))
    replace fhB9 := hB9.facts
    replace hB11 := hB11.below (show Below _ _ w12 by (repeat first|exact J0|assumption|(apply J1;assumption)|apply J2|apply J3|apply J4))
    replace fhB11 := hB11.facts
    go_wp2_with fail
    refine (cPl _ _ _ (oL12.rd ec_len) (oR12.rd ec_len)).mono ?_
    rintro e w13 ⟨vL13, vR13, rfl, pL13, pR13, hb13⟩
    replace hB1 := hB1.below (show Below _ _ w13 by (repeat first|exact J0|assumption|(apply J1;assumption)|apply J2|apply J3|apply J4))
    replace fhB1 := hB1.facts
    replace hB9 := hB9.below (show Below _ _ w13 by (repeat first|exact J0|assumption|(apply J1;assumption)|apply J2|apply J3|apply J4))
    replace fhB9 := hB9.facts
    replace hB11 := hB11.below (show Below _ _ w13 by (repeat first|exact J0|assumption|(apply J1;assumption)|apply J2|apply J3|apply J4))
    replace fhB11 := hB11.facts
    obtain ⟨A13, c13, rfl⟩ := pL13.shape
    obtain ⟨B13, d13, rfl⟩ := pR13.shape
    have hB13 := Blk.new w13 30 #[.string ⟨B.1.toArray⟩, .int .i64 B.2.1, .slice A13 B.2.2.1.length c13, .slice B13 B.2.2.2.length d13]
    have fB13 := hB13.facts
    go_wp2_with fail
    refine (cG _ (by (repeat first|exact J0|assumption|(apply J1;assumption)|apply J2|apply J3|apply J4))).mono ?_
    rintro e w14 ⟨uL14, uR14, rfl, oL14, oR14, hb14⟩
    replace hB1 := hB1.below (show Below _ _ w14 by (repeat first|exact J0|assumption|(apply J1;assumption)|apply J2|apply J3|apply J4))
    replace fhB1 := hB1.facts
    replace hB9 := hB9.below (show Below _ _ w14 by (repeat first|exact J0|assumption|(apply J1;assumption)|apply J2|apply J3|apply J4))
    replace fhB9 := hB9.facts
    replace hB11 := hB11.below (show Below _ _ w14 by (repeat first|exact J0|assumption|(apply J1;assumption)|apply J2|apply J3|apply J4))
    replace fhB11 := hB11.facts
    replace hB13 := hB13.below (show Below _ _ w14 by (repeat first|exact J0|assumption|(apply J1;assumption)|apply J2|apply J3|apply J4))
    replace fhB13 := hB13.facts
    go_wp2_with fail
    refine (cCo _ _ _ (oL14.rd ec_len) (oR14.rd ec_len)).mono ?_
    rintro e w15 ⟨rfl, hb15⟩
    replace hB1 := hB1.below (show Below _ _ w15 by (repeat first|exact J0|assumption|(apply J1;assumption)|apply J2|apply J3|apply J4))
    replace fhB1 := hB1.facts
    replace hB9 := hB9.below (show Below _ _ w15 by (repeat first|exact J0|assumption|(apply J1;assumption)|apply J2|apply J3|apply J4))
    replace fhB9 := hB9.facts
    replace hB11 := hB11.below (show Below _ _ w15 by (repeat first|exact J0|assumption|(apply J1;assumption)|apply J2|apply J3|apply J4))
    replace fhB11 := hB11.facts
    replace hB13 := hB13.below (show Below _ _ w15 by (repeat first|exact J0|assumption|(apply J1;assumption)|apply J2|apply J3|apply J4))
    replace fhB13 := hB13.facts
    have hB15 := Blk.new w15 41 #[.int .i64 a0, .int .i64 a1, .int .i64 a2, .int .i64 a3, .int .i64 a4, .int .i64 a5, .int .i64 TX, .int .i64 H]
    have fB15 := hB15.facts
    go_wp2_with fail
    refine (cC1 _ _ ((hO7.rd bc_len).below (by (repeat first|exact J0|assumption|(apply J1;assumption)|apply J2|apply J3|apply J4)))).mono ?_
    rintro e w16 ⟨rfl, hb16⟩
    replace hB1 := hB1.below (show Below _ _ w16 by (repeat first|exact J0|assumption|(apply J1;assumption)|apply J2|apply J3|apply J4))
    replace fhB1 := hB1.facts
    replace hB9 := hB9.below (show Below _ _ w16 by (repeat first|exact J0|assumption|(apply J1;assumption)|apply J2|apply J3|apply J4))
    replace fhB9 := hB9.facts
    replace hB11 := hB11.below (show Below _ _ w16 by (repeat first|exact J0|assumption|(apply J1;assumption)|apply J2|apply J3|apply J4))
    replace fhB11 := hB11.facts
    replace hB13 := hB13.below (show Below _ _ w16 by (repeat first|exact J0|assumption|(apply J1;assumption)|apply J2|apply J3|apply J4))
    replace fhB13 := hB13.facts
    replace hB15 := hB15.below (show Below _ _ w16 by (repeat first|exact J0|assumption|(apply J1;assumption)|apply J2|apply J3|apply J4))
    replace fhB15 := hB15.facts
    have sM1 := (pL9.rd ec_len).below (show Below w9.heap.size w9 w16 by (repeat first|exact J0|assumption|(apply J1;assumption)|apply J2|apply J3|apply J4))
    have sM2 := (pR9.rd ec_len).below (show Below w9.heap.size w9 w16 by (repeat first|exact J0|assumption|(apply J1;assumption)|apply J2|apply J3|apply J4))
    have sU1 := (pL11.rd ec_len).below (show Below w11.heap.size w11 w16 by (repeat first|exact J0|assumption|(apply J1;assumption)|apply J2|apply J3|apply J4))
    have sU2 := (pR11.rd ec_len).below (show Below w11.heap.size w11 w16 by (repeat first|exact J0|assumption|(apply J1;assumption)|apply J2|apply J3|apply J4))
    have sA1 := (pL13.rd ec_len).below (show Below w13.heap.size w13 w16 by (repeat first|exact J0|assumption|(apply J1;assumption)|apply J2|apply J3|apply J4))
    have sA2 := (pR13.rd ec_len).below (show Below w13.heap.size w13 w16 by (repeat first|exact J0|assumption|(apply J1;assumption)|apply J2|apply J3|apply J4))
    have sN := (hO7.rd bc_len).below (show Below w7.heap.size w7 w16 by (repeat first|exact J0|assumption|(apply J1;assumption)|apply J2|apply J3|apply J4))
    have hb016 : Below W.heap.size W w16 := by (repeat first|exact J0|assumption|(apply J1;assumption)|apply J2|apply J3|apply J4)
    have HB := Lib.hid hb016
    clear hb1 hb2 hb3 hb4 hb5 hb6 hb7 hb8 hb9 hb10 hb11 hb12 hb13 hb14 hb15 hb16 oL4 oR4 oL6 oR6 oL8 oR8 oL10 oR10 oL12 oR12 oL14 oR14 pL9 pR9 pL11 pR11 pL13 pR13 hO7 hb016
    go_wp2_with fail
    refine (cNM _ _ _ sM1 sM2).mono ?_
    rintro e w17 ⟨v17, rfl, hO17, hb17⟩
    replace hB1 := hB1.below (show Below _ _ w17 by (repeat first|exact J0|assumption|(apply J1;assumption)|apply J2|apply J3|apply J4))
    replace fhB1 := hB1.facts
    replace hB9 := hB9.below (show Below _ _ w17 by (repeat first|exact J0|assumption|(apply J1;assumption)|apply J2|apply J3|apply J4))
    replace fhB9 := hB9.facts
    replace hB11 := hB11.below (show Below _ _ w17 by (repeat first|exact J0|assumption|(apply J1;assumption)|apply J2|apply J3|apply J4))
    replace fhB11 := hB11.facts
    replace hB13 := hB13.below (show Below _ _ w17 by (repeat first|exact J0|assumption|(apply J1;assumption)|apply J2|apply J3|apply J4))
    replace fhB13 := hB13.facts
    replace hB15 := hB15.below (show Below _ _ w17 by (repeat first|exact J0|assumption|(apply J1;assumption)|apply J2|apply J3|apply J4))
    replace fhB15 := hB15.facts
    obtain ⟨A17, c17, rfl⟩ := hO17.shape
    go_wp2_with fail
    refine (cNT _ _ _ (sU1.below (by (repeat first|exact J0|assumption|(apply J1;assumption)|apply J2|apply J3|apply J4))) (sU2.below (by (repeat first|exact J0|assumption|(apply J1;assumption)|apply J2|apply J3|apply J4)))).mono ?_
    rintro e w18 ⟨v18, rfl, hO18, hb18⟩
    replace hB1 := hB1.below (show Below _ _ w18 by (repeat first|exact J0|assumption|(apply J1;assumption)|apply J2|apply J3|apply J4))
    replace fhB1 := hB1.facts
    replace hB9 := hB9.below (show Below _ _ w18 by (repeat first|exact J0|assumption|(apply J1;assumption)|apply J2|apply J3|apply J4))
    replace fhB9 := hB9.facts
    replace hB11 := hB11.below (show Below _ _ w18 by (repeat first|exact J0|assumption|(apply J1;assumption)|apply J2|apply J3|apply J4))
    replace fhB11 := hB11.facts
    replace hB13 := hB13.below (show Below _ _ w18 by (repeat first|exact J0|assumption|(apply J1;assumption)|apply J2|apply J3|apply J4))
    replace fhB13 := hB13.facts
    replace hB15 := hB15.below (show Below _ _ w18 by (repeat first|exact J0|assumption|(apply J1;assumption)|apply J2|apply J3|apply J4))
    replace fhB15 := hB15.facts
    obtain ⟨A18, c18, rfl⟩ := hO18.shape
    go_wp2_with fail
    refine (cNA _ _ _ (sA1.below (by (repeat first|exact J0|assumption|(apply J1;assumption)|apply J2|apply J3|apply J4))) (sA2.below (by (repeat first|exact J0|assumption|(apply J1;assumption)|apply J2|apply J3|apply J4)))).mono ?_
    rintro e w19 ⟨v19, rfl, hO19, hb19⟩
    replace hB1 := hB1.below (show Below _ _ w19 by (repeat first|exact J0|assumption|(apply J1;assumption)|apply J2|apply J3|apply J4))
    replace fhB1 := hB1.facts
    replace hB9 := hB9.below (show Below _ _ w19 by (repeat first|exact J0|assumption|(apply J1;assumption)|apply J2|apply J3|apply J4))
    replace fhB9 := hB9.facts
    replace hB11 := hB11.below (show Below _ _ w19 by (repeat first|exact J0|assumption|(apply J1;assumption)|apply J2|apply J3|apply J4))
    replace fhB11 := hB11.facts
    replace hB15 := hB15.below (show Below _ _ w19 by (repeat first|exact J0|assumption|(apply J1;assumption)|apply J2|apply J3|apply J4))
    replace fhB15 := hB15.facts
    obtain ⟨A19, c19, rfl⟩ := hO19.shape
    have h1719 : Below w17.heap.size w17 w19 := by (repeat first|exact J0|assumption|(apply J1;assumption)|apply J2|apply J3|apply J4)
    have h1819 : Below w18.heap.size w18 w19 := hb19
    have hx19 : Below w16.heap.size w16 w19 := bl_then h1719 hb17
    have hE19 := Own.empty bc 3 w19 77
    have sN19 := sN.below hx19
    go_wp2_with (at_builtin; refine wpList_appBL hE19 (sN19.alloc _) rfl _ _ rfl rfl rfl (by simp; omega) (by simp) ?_; intro v20 w20 hO20 hg20; have hb20 : Below w19.heap.size w19 w20 := bl_grown hg20 (bl_alloc bl_refl _) (fun k e => (hE19.lt k e).1); rw [List.nil_append] at hO20)
    refine (cNm _ _ (hO20.rd bc_len)).mono ?_
    rintro e w21 ⟨v21, rfl, hO21, hb21⟩
    obtain ⟨A21, c21, rfl⟩ := hO21.shape
    have hx21 : Below w19.heap.size w19 w21 := bl_then hb21 hb20
    have hE21 := Own.empty bc 3 w21 77
    have sN21 := sN19.below hx21
    go_wp2_with (at_builtin; refine wpList_appBL hE21 (sN21.alloc _) rfl _ _ rfl rfl rfl (by simp; omega) (by simp) ?_; intro v22 w22 hO22 hg22; have hb22 : Below w21.heap.size w21 w22 := bl_grown hg22 (bl_alloc bl_refl _) (fun k e => (hE21.lt k e).1); rw [List.nil_append] at hO22)
    refine (cNt _ _ (hO22.rd bc_len)).mono ?_
    rintro e w23 ⟨v23, rfl, hO23, hb23⟩
    obtain ⟨A23, c23, rfl⟩ := hO23.shape
    have hx23 : Below w19.heap.size w19 w23 := bl_then hb23 (bl_then hb22 hx21)
    have sX23 := (hO17.rd bc_len).below (bl_then hx23 h1719)
    have sY23 := (hO18.rd bc_len).below (bl_then hx23 h1819)
    have sA23 := (hO19.rd bc_len).below hx23
    have sN23 := sN19.below hx23
    have sL23 := (hO21.rd bc_len).below (bl_then hb23 hb22)
    have h1623 : Below w16.heap.size w16 w23 := bl_then hx23 hx19
    replace hB1 := hB1.below hx23
    replace hB9 := hB9.below hx23
    replace hB11 := hB11.below hx23
    replace hB15 := hB15.below hx23
    have fB1 := hB1.facts
    have fB9 := hB9.facts
    have fB11 := hB11.facts
    have fB15 := hB15.facts
    clear h1719 h1819 hb17 hb18 hb19 hx19 hb20 hb21 hx21 hb22 hb23 hx23 hO17 hO18 hO19 hO20 hO21 hO22 hE19 hE21 sN19 sN21 hB13
    go_wp2_with fail
    refine (cSN _ _ _ sA23 sN23).mono ?_
    rintro e w24 ⟨rfl, hb24⟩
    replace hB1 := hB1.below (show Below _ _ w24 by (repeat first|exact J0|assumption|(apply J1;assumption)|apply J2|apply J3|apply J4))
    replace fhB1 := hB1.facts
    replace hB9 := hB9.below (show Below _ _ w24 by (repeat first|exact J0|assumption|(apply J1;assumption)|apply J2|apply J3|apply J4))
    replace fhB9 := hB9.facts
    replace hB11 := hB11.below (show Below _ _ w24 by (repeat first|exact J0|assumption|(apply J1;assumption)|apply J2|apply J3|apply J4))
    replace fhB11 := hB11.facts
    replace hB15 := hB15.below (show Below _ _ w24 by (repeat first|exact J0|assumption|(apply J1;assumption)|apply J2|apply J3|apply J4))
    replace fhB15 := hB15.facts
    go_wp2_with fail
    refine (cS1 _ _ (sL23.below (by (repeat first|exact J0|assumption|(apply J1;assumption)|apply J2|apply J3|apply J4)))).mono ?_
    rintro e w25 ⟨v25, rfl, hO25, hb25⟩
    replace hB1 := hB1.below (show Below _ _ w25 by (repeat first|exact J0|assumption|(apply J1;assumption)|apply J2|apply J3|apply J4))
    replace fhB1 := hB1.facts
    replace hB9 := hB9.below (show Below _ _ w25 by (repeat first|exact J0|assumption|(apply J1;assumption)|apply J2|apply J3|apply J4))
    replace fhB9 := hB9.facts
    replace hB11 := hB11.below (show Below _ _ w25 by (repeat first|exact J0|assumption|(apply J1;assumption)|apply J2|apply J3|apply J4))
    replace fhB11 := hB11.facts
    replace hB15 := hB15.below (show Below _ _ w25 by (repeat first|exact J0|assumption|(apply J1;assumption)|apply J2|apply J3|apply J4))
    replace fhB15 := hB15.facts
    obtain ⟨A25, c25, rfl⟩ := hO25.shape
    go_wp2_with fail
    refine (cS2 _ _ ((hO23.rd bc_len).below (by (repeat first|exact J0|assumption|(apply J1;assumption)|apply J2|apply J3|apply J4)))).mono ?_
    rintro e w26 ⟨v26, rfl, hO26, hb26⟩
    replace hB1 := hB1.below (show Below _ _ w26 by (repeat first|exact J0|assumption|(apply J1;assumption)|apply J2|apply J3|apply J4))
    replace fhB1 := hB1.facts
    replace hB9 := hB9.below (show Below _ _ w26 by (repeat first|exact J0|assumption|(apply J1;assumption)|apply J2|apply J3|apply J4))
    replace fhB9 := hB9.facts
    replace hB11 := hB11.below (show Below _ _ w26 by (repeat first|exact J0|assumption|(apply J1;assumption)|apply J2|apply J3|apply J4))
    replace fhB11 := hB11.facts
    obtain ⟨A26, c26, rfl⟩ := hO26.shape
    go_wp2_with fail
    refine (cSX _ _ _ (sX23.below (by (repeat first|exact J0|assumption|(apply J1;assumption)|apply J2|apply J3|apply J4))) ((hO25.rd bc_len).below (by (repeat first|exact J0|assumption|(apply J1;assumption)|apply J2|apply J3|apply J4)))).mono ?_
    rintro e w27 ⟨rfl, hb27⟩
    replace hB1 := hB1.below (show Below _ _ w27 by (repeat first|exact J0|assumption|(apply J1;assumption)|apply J2|apply J3|apply J4))
    replace fhB1 := hB1.facts
    replace hB9 := hB9.below (show Below _ _ w27 by (repeat first|exact J0|assumption|(apply J1;assumption)|apply J2|apply J3|apply J4))
    replace fhB9 := hB9.facts
    replace hB11 := hB11.below (show Below _ _ w27 by (repeat first|exact J0|assumption|(apply J1;assumption)|apply J2|apply J3|apply J4))
    replace fhB11 := hB11.facts
    go_wp2_with fail
    refine (cSY _ _ _ (sY23.below (by (repeat first|exact J0|assumption|(apply J1;assumption)|apply J2|apply J3|apply J4))) ((hO26.rd bc_len).below (by (repeat first|exact J0|assumption|(apply J1;assumption)|apply J2|apply J3|apply J4)))).mono ?_
    rintro e w28 ⟨rfl, hb28⟩
    replace hB1 := hB1.below (show Below _ _ w28 by (repeat first|exact J0|assumption|(apply J1;assumption)|apply J2|apply J3|apply J4))
    replace fhB1 := hB1.facts
    replace hB9 := hB9.below (show Below _ _ w28 by (repeat first|exact J0|assumption|(apply J1;assumption)|apply J2|apply J3|apply J4))
    replace fhB9 := hB9.facts
    replace hB11 := hB11.below (show Below _ _ w28 by (repeat first|exact J0|assumption|(apply J1;assumption)|apply J2|apply J3|apply J4))
    replace fhB11 := hB11.facts
    have h2328 : Below w23.heap.size w23 w28 := by (repeat first|exact J0|assumption|(apply J1;assumption)|apply J2|apply J3|apply J4)
    have h1628 : Below w16.heap.size w16 w28 := bl_then h2328 h1623
    go_wp2_with fail
    refine (cMM _ _ _ (sM1.below h1628) (sM2.below h1628)).mono ?_
    rintro e w29 ⟨vL29, vR29, rfl, pL29, pR29, hb29⟩
    replace hB1 := hB1.below (show Below _ _ w29 by (repeat first|exact J0|assumption|(apply J1;assumption)|apply J2|apply J3|apply J4))
    replace fhB1 := hB1.facts
    replace hB11 := hB11.below (show Below _ _ w29 by (repeat first|exact J0|assumption|(apply J1;assumption)|apply J2|apply J3|apply J4))
    replace fhB11 := hB11.facts
    obtain ⟨A29, c29, rfl⟩ := pL29.shape
    obtain ⟨B29, d29, rfl⟩ := pR29.shape
    have hB29 := Blk.new w29 30 #[.string ⟨p.1.toArray⟩, .int .i64 p.2.1, .slice A29 p.2.2.1.length c29, .slice B29 p.2.2.2.length d29]
    have fB29 := hB29.facts
    go_wp2_with fail
    refine (cTT _ _ _ (sU1.below (bl_then (by (repeat first|exact J0|assumption|(apply J1;assumption)|apply J2|apply J3|apply J4)) h1628)) (sU2.below (bl_then (by (repeat first|exact J0|assumption|(apply J1;assumption)|apply J2|apply J3|apply J4)) h1628))).mono ?_
    rintro e w30 ⟨vL30, vR30, rfl, pL30, pR30, hb30⟩
    replace hB1 := hB1.below (show Below _ _ w30 by (repeat first|exact J0|assumption|(apply J1;assumption)|apply J2|apply J3|apply J4))
    replace fhB1 := hB1.facts
    replace hB29 := hB29.below (show Below _ _ w30 by (repeat first|exact J0|assumption|(apply J1;assumption)|apply J2|apply J3|apply J4))
    replace fhB29 := hB29.facts
    obtain ⟨A30, c30, rfl⟩ := pL30.shape
    obtain ⟨B30, d30, rfl⟩ := pR30.shape
    have hB30 := Blk.new w30 30 #[.string ⟨p.1.toArray⟩, .int .i64 p.2.1, .slice A30 p.2.2.1.length c30, .slice B30 p.2.2.2.length d30]
    have fB30 := hB30.facts
    go_upto_region 23 with fail
    obtain ⟨x30, hx⟩ : ∃ X, w30.alloc (.cells #[.string ⟨p.1.toArray⟩, .int .i64 p.2.1, .slice A30 p.2.2.1.length c30, .slice B30 p.2.2.2.length d30] 30) = X := ⟨_, rfl⟩
    have hb31 : Below w30.heap.size w30 x30 := by rw [← hx]; exact bl_alloc bl_refl _
    rw [hx] at hB30 ⊢
    clear hx fB1 fB29 fB30
    have fB30 := hB30.facts
    replace hB1 := hB1.below hb31
    replace hB29 := hB29.below hb31
    have fB1 := hB1.facts
    have fB29 := hB29.facts
    have sm1 := (pL29.rd ec_len).below (show Below w29.heap.size w29 x30 by (repeat first|exact J0|assumption|(apply J1;assumption)|apply J2|apply J3|apply J4))
    have sm2 := (pR29.rd ec_len).below (show Below w29.heap.size w29 x30 by (repeat first|exact J0|assumption|(apply J1;assumption)|apply J2|apply J3|apply J4))
    have st1 := (pL30.rd ec_len).below hb31
    have st2 := (pR30.rd ec_len).below hb31
    have hx30 : Below W.heap.size W x30 := bl_then (show Below w28.heap.size w28 x30 by (repeat first|exact J0|assumption|(apply J1;assumption)|apply J2|apply J3|apply J4)) (bl_then h1628 HB.out)
    clear HB hb24 hb25 hb26 hb27 hb28 hb29 hb30 hb31 h2328 h1628 h1623 pL29 pR29 pL30 pR30 hO23 hO25 hO26 sM1 sM2 sU1 sU2 sA1 sA2 sN sX23 sY23 sA23 sN23 sL23
    refine wp_region_ords [0, 1] [(2, false), (3, false), (4, false), (5, true), (6, true), (7, false)] [8] (by kernel_rfl) (by kernel_rfl) (fun d _ _ _ _ h => by cases d <;> exact h) ?_
    simp only [List.map_cons, List.map_nil, List.getD_cons_zero, List.getD_cons_succ]
    repeat (go_big_quiet_step (fail))
    refine wpQuiet_nil ?_
    refine wpMid_run rfl (fun K hK => ?_)
    go_simp
    refine (cG _ (bl_then (by (repeat first|exact J0|assumption|(apply J1;assumption)|apply J2|apply J3|apply J4)) hx30)).mono ?_
    rintro e w31 ⟨uL31, uR31, rfl, oL31, oR31, hb31⟩
    refine hK _ _ (by (repeat first|exact J0|assumption|(apply J1;assumption)|apply J2|apply J3|apply J4)) ?_
    clear hK K
    have hB1_w31 := hB1.below (show Below _ _ w31 by (repeat first|exact J0|assumption|(apply J1;assumption)|apply J2|apply J3|apply J4))
    have fhB1_w31 := hB1_w31.facts
    have hB29_w31 := hB29.below (show Below _ _ w31 by (repeat first|exact J0|assumption|(apply J1;assumption)|apply J2|apply J3|apply J4))
    have fhB29_w31 := hB29_w31.facts
    have hB30_w31 := hB30.below (show Below _ _ w31 by (repeat first|exact J0|assumption|(apply J1;assumption)|apply J2|apply J3|apply J4))
    have fhB30_w31 := hB30_w31.facts
    refine wpMid_run rfl (fun K hK => ?_)
    go_simp
    refine (cSm _ _ _ _ _ (sm1.below (by (repeat first|exact J0|assumption|(apply J1;assumption)|apply J2|apply J3|apply J4))) (sm2.below (by (repeat first|exact J0|assumption|(apply J1;assumption)|apply J2|apply J3|apply J4))) (oL31.rd ec_len) (oR31.rd ec_len)).mono ?_
    rintro e w32 ⟨rfl, hb32⟩
    refine hK _ _ (by (repeat first|exact J0|assumption|(apply J1;assumption)|apply J2|apply J3|apply J4)) ?_
    clear hK K
    have hB1_w32 := hB1.below (show Below _ _ w32 by (repeat first|exact J0|assumption|(apply J1;assumption)|apply J2|apply J3|apply J4))
    have fhB1_w32 := hB1_w32.facts
    have hB30_w32 := hB30.below (show Below _ _ w32 by (repeat first|exact J0|assumption|(apply J1;assumption)|apply J2|apply J3|apply J4))
    have fhB30_w32 := hB30_w32.facts
    refine wpMid_run rfl (fun K hK => ?_)
    go_simp
    refine hK _ _ (by (repeat first|exact J0|assumption|(apply J1;assumption)|apply J2|apply J3|apply J4)) ?_
    clear hK K
    refine wpMid_take rfl ?_
    intro K hK
    go_big_quiet_op
    go_big_quiet_on
    refine wpMid_take rfl ?_
    intro K hK
    go_big_quiet_op
    go_big_quiet_on
    refine wpMid_run rfl (fun K hK => ?_)
    go_simp
    refine hK _ _ (by (repeat first|exact J0|assumption|(apply J1;assumption)|apply J2|apply J3|apply J4)) ?_
    clear hK K
    refine wpMid_nil ?_
    go_upto_region 24 with fail
    refine wp_region_ords [0, 1] [(2, false), (3, false), (4, false), (5, true), (6, true), (7, false)] [8] (by kernel_rfl) (by kernel_rfl) (fun d _ _ _ _ h => by cases d <;> exact h) ?_
    simp only [List.map_cons, List.map_nil, List.getD_cons_zero, List.getD_cons_succ]
    repeat (go_big_quiet_step (fail))
    refine wpQuiet_nil ?_
    refine wpMid_run rfl (fun K hK => ?_)
    go_simp
    refine (cG _ (bl_then (by (repeat first|exact J0|assumption|(apply J1;assumption)|apply J2|apply J3|apply J4)) hx30)).mono ?_
    rintro e w33 ⟨uL33, uR33, rfl, oL33, oR33, hb33⟩
    refine hK _ _ (by (repeat first|exact J0|assumption|(apply J1;assumption)|apply J2|apply J3|apply J4)) ?_
    clear hK K
    have hB30_w33 := hB30.below (show Below _ _ w33 by (repeat first|exact J0|assumption|(apply J1;assumption)|apply J2|apply J3|apply J4))
    have fhB30_w33 := hB30_w33.facts
    refine wpMid_run rfl (fun K hK => ?_)
    go_simp
    refine (cSm _ _ _ _ _ (st1.below (by (repeat first|exact J0|assumption|(apply J1;assumption)|apply J2|apply J3|apply J4))) (st2.below (by (repeat first|exact J0|assumption|(apply J1;assumption)|apply J2|apply J3|apply J4))) (oL33.rd ec_len) (oR33.rd ec_len)).mono ?_
    rintro e w34 ⟨rfl, hb34⟩
    refine hK _ _ (by (repeat first|exact J0|assumption|(apply J1;assumption)|apply J2|apply J3|apply J4)) ?_
    clear hK K
    refine wpMid_run rfl (fun K hK => ?_)
    go_simp
    refine hK _ _ (by (repeat first|exact J0|assumption|(apply J1;assumption)|apply J2|apply J3|apply J4)) ?_
    clear hK K
    refine wpMid_take rfl ?_
    intro K hK
    go_big_quiet_op
    go_big_quiet_on
    refine wpMid_take rfl ?_
    intro K hK
    go_big_quiet_op
    go_big_quiet_on
    refine wpMid_run rfl (fun K hK => ?_)
    go_simp
    refine hK _ _ (by (repeat first|exact J0|assumption|(apply J1;assumption)|apply J2|apply J3|apply J4)) ?_
    clear hK K
    refine wpMid_nil ?_
    go_wp2
    go_ret
    exact ⟨rfl, bl_then (by (repeat first|exact J0|assumption|(apply J1;assumption)|apply J2|apply J3|apply J4)) hx30⟩
   ·obtain ⟨E, hE⟩ : ∃ z, panE (plaQ p) = z := ⟨_, rfl⟩
    rw [hE] at cRQ hz2
    have cRPl' : ∀ W', Below W.heap.size W W' → Calls Tryz.prog 24 #[.agg #[sV p.1, .int .i64 p.2.1, .slice AL p.2.2.1.length cL, .slice AR p.2.2.2.length cR]] W' (fun e w' => ∃ xL xR, e = .returned (.agg #[sV (plaQ p).1, .int .i64 (plaQ p).2.1, xL, xR]) ∧ Own ec 3 W'.heap.size 132 w' xL (plaQ p).2.2.1 ∧ Own ec 3 W'.heap.size 132 w' xR (plaQ p).2.2.2 ∧ Below W'.heap.size W' w') := cRPl
    clear cRPl
    simp only [sV] at cSh cRP cRPl' cRQ ⊢
    obtain ⟨B, hBP⟩ : ∃ z, plaQ p = z := ⟨_, rfl⟩
    rw [hBP] at cRPl' cRQ
    have tz : (E != 0) = true := by simpa using hz2
    clear hE hz hz2 hok hsm hM hfew cG hq hwL hwR hL hR hBP
    go_enter Tryz.func4, Tryz.ntmps4
    go_wp2_with fail
    refine (cAw _ (by (repeat first|exact J0|assumption|(apply J1;assumption)|apply J2|apply J3|apply J4))).mono ?_
    rintro e w1 ⟨rfl, hb1⟩
    replace hB1 := hB1.below (show Below _ _ w1 by (repeat first|exact J0|assumption|(apply J1;assumption)|apply J2|apply J3|apply J4))
    replace fhB1 := hB1.facts
    go_wp2_with fail
    refine (cSh _ (by (repeat first|exact J0|assumption|(apply J1;assumption)|apply J2|apply J3|apply J4))).mono ?_
    rintro e w2 ⟨rfl, hb2⟩
    replace hB1 := hB1.below (show Below _ _ w2 by (repeat first|exact J0|assumption|(apply J1;assumption)|apply J2|apply J3|apply J4))
    replace fhB1 := hB1.facts
    go_wp2_with fail
    refine (cRP _ (by (repeat first|exact J0|assumption|(apply J1;assumption)|apply J2|apply J3|apply J4))).mono ?_
    rintro e w3 ⟨rfl, hb3⟩
    replace hB1 := hB1.below (show Below _ _ w3 by (repeat first|exact J0|assumption|(apply J1;assumption)|apply J2|apply J3|apply J4))
    replace fhB1 := hB1.facts
    go_wp2_with fail
    refine (cRPl' _ (by (repeat first|exact J0|assumption|(apply J1;assumption)|apply J2|apply J3|apply J4))).mono ?_
    rintro e w4 ⟨vL4, vR4, rfl, oL4, oR4, hb4⟩
    replace hB1 := hB1.below (show Below _ _ w4 by (repeat first|exact J0|assumption|(apply J1;assumption)|apply J2|apply J3|apply J4))
    replace fhB1 := hB1.facts
    go_wp2_with fail
    refine (cRQ _ _ _ (oL4.rd ec_len) (oR4.rd ec_len)).mono ?_
    rintro e w5 ⟨rfl, hb5⟩
    go_wp2_with fail
    refine (cAw _ (by (repeat first|exact J0|assumption|(apply J1;assumption)|apply J2|apply J3|apply J4))).mono ?_
    rintro e w6 ⟨rfl, hb6⟩
    go_wp2
    go_ret
    exact ⟨rfl, by (repeat first|exact J0|assumption|(apply J1;assumption)|apply J2|apply J3|apply J4)⟩
  ·obtain ⟨E, hE⟩ : ∃ z, panE p = z := ⟨_, rfl⟩
   rw [hE] at cRP hz
   simp only [sV] at cSh cRP ⊢
   have tz : (E != 0) = true := by simpa using hz
   clear hE hz cG hq hwL hwR hL hR
   go_enter Tryz.func4, Tryz.ntmps4
   go_wp2_with fail
   refine (cAw _ (by (repeat first|exact J0|assumption|(apply J1;assumption)|apply J2|apply J3|apply J4))).mono ?_
   rintro e w1 ⟨rfl, hb1⟩
   replace hB1 := hB1.below (show Below _ _ w1 by (repeat first|exact J0|assumption|(apply J1;assumption)|apply J2|apply J3|apply J4))
   replace fhB1 := hB1.facts
   go_wp2_with fail
   refine (cSh _ (by (repeat first|exact J0|assumption|(apply J1;assumption)|apply J2|apply J3|apply J4))).mono ?_
   rintro e w2 ⟨rfl, hb2⟩
   replace hB1 := hB1.below (show Below _ _ w2 by (repeat first|exact J0|assumption|(apply J1;assumption)|apply J2|apply J3|apply J4))
   replace fhB1 := hB1.facts
   go_wp2_with fail
   refine (cRP _ (by (repeat first|exact J0|assumption|(apply J1;assumption)|apply J2|apply J3|apply J4))).mono ?_
   rintro e w3 ⟨rfl, hb3⟩
   replace hB1 := hB1.below (show Below _ _ w3 by (repeat first|exact J0|assumption|(apply J1;assumption)|apply J2|apply J3|apply J4))
   replace fhB1 := hB1.facts
   go_wp2_with fail
   refine (cAw _ (by (repeat first|exact J0|assumption|(apply J1;assumption)|apply J2|apply J3|apply J4))).mono ?_
   rintro e w4 ⟨rfl, hb4⟩
   go_wp2
   go_ret
   exact ⟨rfl, by (repeat first|exact J0|assumption|(apply J1;assumption)|apply J2|apply J3|apply J4)⟩
end Go.Proofs.YtkkefahobjlagaaGreatDoor

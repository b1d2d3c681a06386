/- PanelPieces, walked. Conditions: the variables are laid. -/
import Derived.Test.YtkkefahobjlagaaGreatDoorQ37
import Derived.Test.YtkkefahobjlagaaGreatDoorQ40
import Derived.Test.YtkkefahobjlagaaGreatDoorQ50
import Derived.Test.YtkkefahobjlagaaGreatDoorQ13
import Derived.Test.YtkkefahobjlagaaGreatDoorQ26
namespace Go.Proofs.YtkkefahobjlagaaGreatDoor
open Go.RowKit Go.ChangeMaps
set_option maxHeartbeats 4000000
set_option maxRecDepth 100000
attribute [local go_sem] Oper.semAt_some
theorem panelPieces_any {vL vR : Value} (p : Pan) (r : Int) (W : World) (hnm : p.1.length ≤ maxLen) (hL : SlE W vL p.2.2.1) (hR : SlE W vR p.2.2.2) (hr : 0 ≤ r ∧ r ≤ 255) (hLay : Lay W) :
  Calls Tryz.prog 3 #[.agg #[sV p.1, .int .i64 p.2.1, vL, vR], .int .u8 r] W (RV W (.bool true)) := by
 have cAw := fun W' (hb : Below W.heap.size W W') => awakeP_any W' (hLay.below hb)
 have cSh := fun W' (hb : Below W.heap.size W W') => shortP_any p 16 W' hnm (hL.below hb) (hR.below hb)
 obtain ⟨q, hq⟩ : ∃ q, shortP p 16 = q := ⟨_, rfl⟩
 rw [hq] at cSh
 obtain ⟨AL, cL, hvL, hLc, hLm, rL⟩ := id hL
 obtain ⟨AR, cR, hvR, hRc, hRm, rR⟩ := id hR
 subst hvL hvR
 have hB1 := Blk.new W 24 #[.string ⟨p.1.toArray⟩, .int .i64 p.2.1, .slice AL p.2.2.1.length cL, .slice AR p.2.2.2.length cR]
 have fB1 := hB1.facts
 clear rL rR hLc hLm hRc hRm
 cases q
 ·obtain ⟨hr1, hr2⟩ := hr
  obtain ⟨r, rfl⟩ : ∃ n : Nat, r = n := ⟨r.toNat, by omega⟩
  unfold sV at cSh ⊢
  clear hq hL hR
  go_enter Tryz.func3, Tryz.ntmps3
  go_wp2_with fail
  refine (cAw _ (by (repeat first|exact J0|assumption|(apply J1;assumption)|apply J2|apply J3|apply J4))).mono ?_
  rintro e w1 ⟨rfl, hb1⟩
  replace hB1 := hB1.below (show Below _ _ w1 by (repeat first|exact J0|assumption|(apply J1;assumption)|apply J2|apply J3|apply J4))
  replace fhB1 := hB1.facts
  go_wp2_with fail
  refine (cSh _ (by (repeat first|exact J0|assumption|(apply J1;assumption)|apply J2|apply J3|apply J4))).mono ?_
  rintro e w2 ⟨rfl, hb2⟩
  go_wp2_with fail
  refine (cAw _ (by (repeat first|exact J0|assumption|(apply J1;assumption)|apply J2|apply J3|apply J4))).mono ?_
  rintro e w3 ⟨rfl, hb3⟩
  go_wp2
  go_ret
  exact ⟨rfl, by (repeat first|exact J0|assumption|(apply J1;assumption)|apply J2|apply J3|apply J4)⟩
 ·obtain ⟨hn60, ⟨hlL, hwL⟩, hlR, hwR⟩ := shortP_words hq
  have cG := fun W' (hb : Below W.heap.size W W') => given_any p W' (hL.below hb) (hR.below hb) (by omega) (by omega)
  have cRP := fun W' (hb : Below W.heap.size W W') => rcheckPanel_any p W' (by omega) (hL.below hb) (hR.below hb) (fun e he => by have := hwL e he; omega) (fun e he => by have := hwR e he; omega)
  unfold GIW at cG
  by_cases hz : panE p = 0
  ·have hok := panE_zero hz
   have hsm := shortP_small (n := 16) hq hok
   have hhi := hok.high
   have hhs := hsm.high
   have cH := fun W' (hb : Below W.heap.size W W') => rheight_any (vR := .slice AR p.2.2.2.length cR) p W' (hL.below hb) hok.left
   obtain ⟨hr1, hr2⟩ := hr
   obtain ⟨r, rfl⟩ : ∃ n : Nat, r = n := ⟨r.toNat, by omega⟩
   obtain ⟨y, hy⟩ : ∃ y : Int, 1 + (r : Int) % max 1 (heightP p - 1) = y := ⟨_, rfl⟩
   have hm1 := Int.emod_nonneg (r : Int) (show max 1 (heightP p - 1) ≠ 0 by omega)
   have hm2 := Int.emod_lt_of_pos (r : Int) (show 0 < max 1 (heightP p - 1) by omega)
   have hm3 : max 1 (heightP p - 1) ≤ 100 := by omega
   replace hm2 : (r : Int) % max 1 (heightP p - 1) ≤ 100 := by omega
   have hy1 : 1 ≤ y := by
    have := Int.emod_nonneg (r : Int) (show max 1 (heightP p - 1) ≠ 0 by omega)
    omega
   have hy2 : y ≤ max 1 (heightP p - 1) := by
    have := Int.emod_lt_of_pos (r : Int) (show 0 < max 1 (heightP p - 1) by omega)
    omega
   have hbr := cut_ways hz hsm hy1 hy2
   rcases hbr with ⟨hh, hw⟩ | ⟨hw, hs⟩ | ⟨i, k, hat⟩
   ·have cCt := fun (vL vR : Value) W' h1 h2 => apiCut_range (vL := vL) (vR := vR) p y W' (by omega) h1 h2 hz (by rw [hw]; decide)
    rw [hw] at cCt
    rw [hz] at cRP
    rw [hh] at cH hy hm1 hm2
    have hyw : 1 + (r : Int) % max 1 0 = y := hy
    clear hy
    obtain ⟨Q, hQ⟩ : ∃ z, panZ = z := ⟨_, rfl⟩
    unfold RP2 at cCt
    rw [hQ] at cCt
    simp only [sV] at cSh cG cRP cCt cH ⊢
    clear hz hok hsm hq hwL hwR hL hR hQ hm3
    go_enter Tryz.func3, Tryz.ntmps3
    go_wp2_with fail
    refine (cAw _ (by (repeat first|exact J0|assumption|(apply J1;assumption)|apply J2|apply J3|apply J4))).mono ?_
    rintro e w1 ⟨rfl, hb1⟩
    replace hB1 := hB1.below (show Below _ _ w1 by (repeat first|exact J0|assumption|(apply J1;assumption)|apply J2|apply J3|apply J4))
    replace fhB1 := hB1.facts
    go_wp2_with fail
    refine (cSh _ (by (repeat first|exact J0|assumption|(apply J1;assumption)|apply J2|apply J3|apply J4))).mono ?_
    rintro e w2 ⟨rfl, hb2⟩
    replace hB1 := hB1.below (show Below _ _ w2 by (repeat first|exact J0|assumption|(apply J1;assumption)|apply J2|apply J3|apply J4))
    replace fhB1 := hB1.facts
    go_wp2_with fail
    refine (cRP _ (by (repeat first|exact J0|assumption|(apply J1;assumption)|apply J2|apply J3|apply J4))).mono ?_
    rintro e w3 ⟨rfl, hb3⟩
    replace hB1 := hB1.below (show Below _ _ w3 by (repeat first|exact J0|assumption|(apply J1;assumption)|apply J2|apply J3|apply J4))
    replace fhB1 := hB1.facts
    go_wp2_with fail
    refine (cH _ (by (repeat first|exact J0|assumption|(apply J1;assumption)|apply J2|apply J3|apply J4))).mono ?_
    rintro e w4 ⟨rfl, hb4⟩
    replace hB1 := hB1.below (show Below _ _ w4 by (repeat first|exact J0|assumption|(apply J1;assumption)|apply J2|apply J3|apply J4))
    replace fhB1 := hB1.facts
    go_upto_region 5 with fail
    clear hyw hm1 hm2 hr1 hr2
    go_wp2_with fail
    refine (cG _ (by (repeat first|exact J0|assumption|(apply J1;assumption)|apply J2|apply J3|apply J4))).mono ?_
    rintro e w5 ⟨uL5, uR5, rfl, oL5, oR5, hb5⟩
    replace hB1 := hB1.below (show Below _ _ w5 by (repeat first|exact J0|assumption|(apply J1;assumption)|apply J2|apply J3|apply J4))
    replace fhB1 := hB1.facts
    go_wp2_with fail
    refine (cCt _ _ _ (oL5.rd ec_len) (oR5.rd ec_len)).mono ?_
    rintro e w6 ⟨x1, x2, x3, x4, rfl, o1, o2, o3, o4, hb6⟩
    replace hB1 := hB1.below (show Below _ _ w6 by (repeat first|exact J0|assumption|(apply J1;assumption)|apply J2|apply J3|apply J4))
    replace fhB1 := hB1.facts
    obtain ⟨A6, c6, rfl⟩ := o1.shape
    obtain ⟨A7, c7, rfl⟩ := o2.shape
    obtain ⟨A8, c8, rfl⟩ := o3.shape
    obtain ⟨A9, c9, rfl⟩ := o4.shape
    have hB6 := Blk.new w6 31 #[.string ⟨Q.1.toArray⟩, .int .i64 Q.2.1, .slice A6 Q.2.2.1.length c6, .slice A7 Q.2.2.2.length c7, .string ⟨Q.1.toArray⟩, .int .i64 Q.2.1, .slice A8 Q.2.2.1.length c8, .slice A9 Q.2.2.2.length c9]
    have fB6 := hB6.facts
    go_wp2
    go_ret
    exact ⟨rfl, by (repeat first|exact J0|assumption|(apply J1;assumption)|apply J2|apply J3|apply J4)⟩
   ·have cCt := fun (vL vR : Value) W' h1 h2 => apiCut_rule2 (vL := vL) (vR := vR) p y W' (by omega) h1 h2 hz hw hs
    rw [hz] at cRP
    obtain ⟨H, hH⟩ : ∃ z, heightP p = z := ⟨_, rfl⟩
    rw [hH] at cH hhi hhs hy hm1 hm2
    have hyw := hy
    clear hy
    obtain ⟨Q, hQ⟩ : ∃ z, panZ = z := ⟨_, rfl⟩
    unfold RP2 at cCt
    rw [hQ] at cCt
    simp only [sV] at cSh cG cRP cCt cH ⊢
    clear hz hok hsm hq hwL hwR hL hR hQ hm3
    go_enter Tryz.func3, Tryz.ntmps3
    go_wp2_with fail
    refine (cAw _ (by (repeat first|exact J0|assumption|(apply J1;assumption)|apply J2|apply J3|apply J4))).mono ?_
    rintro e w1 ⟨rfl, hb1⟩
    replace hB1 := hB1.below (show Below _ _ w1 by (repeat first|exact J0|assumption|(apply J1;assumption)|apply J2|apply J3|apply J4))
    replace fhB1 := hB1.facts
    go_wp2_with fail
    refine (cSh _ (by (repeat first|exact J0|assumption|(apply J1;assumption)|apply J2|apply J3|apply J4))).mono ?_
    rintro e w2 ⟨rfl, hb2⟩
    replace hB1 := hB1.below (show Below _ _ w2 by (repeat first|exact J0|assumption|(apply J1;assumption)|apply J2|apply J3|apply J4))
    replace fhB1 := hB1.facts
    go_wp2_with fail
    refine (cRP _ (by (repeat first|exact J0|assumption|(apply J1;assumption)|apply J2|apply J3|apply J4))).mono ?_
    rintro e w3 ⟨rfl, hb3⟩
    replace hB1 := hB1.below (show Below _ _ w3 by (repeat first|exact J0|assumption|(apply J1;assumption)|apply J2|apply J3|apply J4))
    replace fhB1 := hB1.facts
    go_wp2_with fail
    refine (cH _ (by (repeat first|exact J0|assumption|(apply J1;assumption)|apply J2|apply J3|apply J4))).mono ?_
    rintro e w4 ⟨rfl, hb4⟩
    replace hB1 := hB1.below (show Below _ _ w4 by (repeat first|exact J0|assumption|(apply J1;assumption)|apply J2|apply J3|apply J4))
    replace fhB1 := hB1.facts
    go_upto_region 5 with fail
    clear hyw hm1 hm2 hr1 hr2
    go_wp2_with fail
    refine (cG _ (by (repeat first|exact J0|assumption|(apply J1;assumption)|apply J2|apply J3|apply J4))).mono ?_
    rintro e w5 ⟨uL5, uR5, rfl, oL5, oR5, hb5⟩
    replace hB1 := hB1.below (show Below _ _ w5 by (repeat first|exact J0|assumption|(apply J1;assumption)|apply J2|apply J3|apply J4))
    replace fhB1 := hB1.facts
    go_wp2_with fail
    refine (cCt _ _ _ (oL5.rd ec_len) (oR5.rd ec_len)).mono ?_
    rintro e w6 ⟨x1, x2, x3, x4, rfl, o1, o2, o3, o4, hb6⟩
    replace hB1 := hB1.below (show Below _ _ w6 by (repeat first|exact J0|assumption|(apply J1;assumption)|apply J2|apply J3|apply J4))
    replace fhB1 := hB1.facts
    obtain ⟨A6, c6, rfl⟩ := o1.shape
    obtain ⟨A7, c7, rfl⟩ := o2.shape
    obtain ⟨A8, c8, rfl⟩ := o3.shape
    obtain ⟨A9, c9, rfl⟩ := o4.shape
    have hB6 := Blk.new w6 31 #[.string ⟨Q.1.toArray⟩, .int .i64 Q.2.1, .slice A6 Q.2.2.1.length c6, .slice A7 Q.2.2.2.length c7, .string ⟨Q.1.toArray⟩, .int .i64 Q.2.1, .slice A8 Q.2.2.1.length c8, .slice A9 Q.2.2.2.length c9]
    have fB6 := hB6.facts
    go_wp2
    go_ret
    exact ⟨rfl, by (repeat first|exact J0|assumption|(apply J1;assumption)|apply J2|apply J3|apply J4)⟩
   ·have hP := hat.parts
    have cCt := fun (vL vR : Value) W' h1 h2 => apiCut_main (vL := vL) (vR := vR) p y W' (by omega) h1 h2 hz hat.within i k hat.i_ hat.k_
    obtain ⟨A, hAA⟩ : ∃ z, cutA p i k = z := ⟨_, rfl⟩
    obtain ⟨B, hBB⟩ : ∃ z, cutB p i k = z := ⟨_, rfl⟩
    obtain ⟨X, hXX⟩ : ∃ z, cutX p i = z := ⟨_, rfl⟩
    have hn1 : A.1.length ≤ 1000000 := by rw [← hAA]; show p.1.length ≤ 1000000; omega
    have hn2 : B.1.length ≤ 1000000 := by rw [← hBB]; show p.1.length ≤ 1000000; omega
    rw [hAA, hBB] at cCt
    obtain ⟨eA, eB, nP, nA, nB, cA, cB, tA, hA, hB, sE, sL, uE, uL, hlen, stE, sE0, two, same, area, hx, hyy, hfew, okA, arA, arB⟩ := hP
    rw [hAA] at eA nA cA tA hA uE uL hlen stE sE0 two same area okA arA
    rw [hBB] at eB nB cB hB sE sL uE uL hlen stE sE0 two same area arB
    rw [hXX] at tA sE sL uE uL hx
    obtain ⟨U, hUU⟩ : ∃ z, (netL B).map (shB (X, y)) = z := ⟨_, rfl⟩
    rw [hUU] at sL uE uL
    obtain ⟨S, hSS⟩ : ∃ z, stkQ A B = z := ⟨_, rfl⟩
    have hn3 : S.1.length ≤ 1000000 := by rw [← hSS]; exact hn1
    have cN := fun (vL vR : Value) W' hL hR => apiNet_any (vL := vL) (vR := vR) p W' (by omega) hL hR
    have cNA := fun (vL vR : Value) W' hL hR => apiNet_any (vL := vL) (vR := vR) A W' hn1 hL hR
    have cNB := fun (vL vR : Value) W' hL hR => apiNet_any (vL := vL) (vR := vR) B W' hn2 hL hR
    have cCo := fun (vL vR : Value) W' hL hR => apiCorners_any (vL := vL) (vR := vR) A W' hn1 hL hR
    have cSt := fun (a b c d : Value) W' h1 h2 h3 h4 => apiStack_any (vL := a) (vR := b) (uL := c) (uR := d) A B W' hn1 hn2 h1 h2 h3 h4
    have cC1 := fun (v : Value) W' h => rnet_sl (v := v) (netL A) W' h
    have cC2 := fun (v : Value) W' h => rnet_sl (v := v) (netL B) W' h
    have cSf := fun (v : Value) W' h => apiShift_any (v := v) (netL B) X y W' h
    have cUn := fun (v u : Value) W' h h' => apiUnion3_any (va := v) (vb := u) (netL A) U W' h h'
    have cSm := fun (a b c d : Value) W' h1 h2 h3 h4 => apiSame_any (vL := a) (vR := b) (uL := c) (uR := d) S p W' hn3 (by omega) h1 h2 h3 h4
    have cAr := fun (vL vR : Value) W' hL hR => apiArea_any (vL := vL) (vR := vR) p W' (by omega) hL hR
    have cAA := fun (vL vR : Value) W' hL hR => apiArea_any (vL := vL) (vR := vR) A W' hn1 hL hR
    have cAB := fun (vL vR : Value) W' hL hR => apiArea_any (vL := vL) (vR := vR) B W' hn2 hL hR
    have cHA := fun (vL vR : Value) W' hL hR => apiHeight_any (vL := vL) (vR := vR) A W' hn1 hL hR
    have cHB := fun (vL vR : Value) W' hL hR => apiHeight_any (vL := vL) (vR := vR) B W' hn2 hL hR
    rw [eA, eB, if_pos ⟨rfl, rfl⟩, if_pos ⟨rfl, rfl⟩, show firstI [0, 0] = 0 from rfl] at cCt
    rw [nP, show onlyOk 0 (netL p) = netL p from rfl] at cN
    rw [nA, show onlyOk 0 (netL A) = netL A from rfl] at cNA
    rw [nB, show onlyOk 0 (netL B) = netL B from rfl] at cNB
    obtain ⟨a0, a1, a2, a3, a4, a5, hco⟩ := cornA_left okA
    rw [show cornR A = cornA A from if_pos eA, hco, eA, tA, hA] at cCo
    rw [stE, hSS, show pcR 0 S = S by unfold pcR pcE; exact if_pos (by rw [if_neg (by decide), ← hSS]; exact sE0), show pcE 0 S = 0 by unfold pcE; rw [if_neg (by decide), ← hSS]; exact sE0] at cSt
    rw [cA] at cC1
    rw [cB] at cC2
    rw [sE, sL] at cSf
    rw [uE, uL] at cUn
    rw [hSS] at two same
    rw [two, show (decide ((0 : Int) = 0) && samQ S p) = true by rw [same]; rfl] at cSm
    rw [hz, show onlyN 0 (areaS (strips p)) = areaS (strips p) from rfl, ← area] at cAr
    rw [eA, show onlyN 0 (areaS (strips A)) = areaS (strips A) from rfl] at cAA
    rw [eB, show onlyN 0 (areaS (strips B)) = areaS (strips B) from rfl] at cAB
    rw [eA, show onlyN 0 (heightP A) = heightP A from rfl, hA] at cHA
    rw [eB, show onlyN 0 (heightP B) = heightP B from rfl] at cHB
    rw [hz] at cRP
    unfold RP2 at cCt
    unfold RPN at cSt
    simp only [sV] at cSh cG cRP cCt cN cNA cNB cCo cSt cSm cAr cAA cAB cHA cHB cH ⊢
    obtain ⟨NP, hNP⟩ : ∃ z, netL p = z := ⟨_, rfl⟩
    obtain ⟨NA, hNA⟩ : ∃ z, netL A = z := ⟨_, rfl⟩
    obtain ⟨NB, hNB⟩ : ∃ z, netL B = z := ⟨_, rfl⟩
    obtain ⟨AA, hArA⟩ : ∃ z, areaS (strips A) = z := ⟨_, rfl⟩
    obtain ⟨AB, hArB⟩ : ∃ z, areaS (strips B) = z := ⟨_, rfl⟩
    obtain ⟨H, hHH⟩ : ∃ z, heightP p = z := ⟨_, rfl⟩
    obtain ⟨HB, hHB⟩ : ∃ z, heightP B = z := ⟨_, rfl⟩
    rw [hNP] at hlen hfew cN cUn
    rw [hNA] at hlen cNA cC1 cUn
    rw [hNB] at hlen cNB cC2 cSf
    rw [hArA] at cAr cAA arA
    rw [hArB] at cAr cAB arB
    rw [hHH] at cH hB hhi hhs hy hm1 hm2
    rw [hHB] at hB cHB
    have cSN := fun (v u : Value) W' h h' => sameBars_any (v := v) (u := u) NP NP W' h h'
    rw [show decide (NP = NP) = true from decide_eq_true rfl] at cSN
    have tN : ((NA.length : Int) + (NB.length : Int) != (NP.length : Int)) = false := by rw [← hlen]; simp
    have tH : (y + HB == H) = true := by rw [hB]; exact beq_self_eq_true _
    obtain ⟨arA1, arA2⟩ := arA
    obtain ⟨arB1, arB2⟩ := arB
    obtain ⟨hx1, hx2⟩ := hx
    obtain ⟨hy3, hy4⟩ := hyy
    have hHB1 : -100 ≤ HB := by omega
    have hHB2 : HB ≤ 300 := by omega
    have tx1 : (X < -100) = False := eq_false (by omega)
    have tx2 : (100 < X) = False := eq_false (by omega)
    have hl1 : NA.length ≤ 4096 := by omega
    have hl2 : NB.length ≤ 4096 := by omega
    have hyw := hy
    clear hz hok hsm hat hAA hBB hXX eA eB nP nA nB cA cB tA hA hB sE sL uE uL hlen stE sE0 two same area okA hUU hSS hco hNP hNA hNB hArA hArB hHH hHB hq hwL hwR hL hR hn1 hn2 hn3 hy hy1 hy2 hm3
    go_enter Tryz.func3, Tryz.ntmps3
    go_wp2_with fail
    refine (cAw _ (by (repeat first|exact J0|assumption|(apply J1;assumption)|apply J2|apply J3|apply J4))).mono ?_
    rintro e w1 ⟨rfl, hb1⟩
    replace hB1 := hB1.below (show Below _ _ w1 by (repeat first|exact J0|assumption|(apply J1;assumption)|apply J2|apply J3|apply J4))
    replace fhB1 := hB1.facts
    go_wp2_with fail
    refine (cSh _ (by (repeat first|exact J0|assumption|(apply J1;assumption)|apply J2|apply J3|apply J4))).mono ?_
    rintro e w2 ⟨rfl, hb2⟩
    replace hB1 := hB1.below (show Below _ _ w2 by (repeat first|exact J0|assumption|(apply J1;assumption)|apply J2|apply J3|apply J4))
    replace fhB1 := hB1.facts
    go_wp2_with fail
    refine (cRP _ (by (repeat first|exact J0|assumption|(apply J1;assumption)|apply J2|apply J3|apply J4))).mono ?_
    rintro e w3 ⟨rfl, hb3⟩
    replace hB1 := hB1.below (show Below _ _ w3 by (repeat first|exact J0|assumption|(apply J1;assumption)|apply J2|apply J3|apply J4))
    replace fhB1 := hB1.facts
    go_wp2_with fail
    refine (cH _ (by (repeat first|exact J0|assumption|(apply J1;assumption)|apply J2|apply J3|apply J4))).mono ?_
    rintro e w4 ⟨rfl, hb4⟩
    replace hB1 := hB1.below (show Below _ _ w4 by (repeat first|exact J0|assumption|(apply J1;assumption)|apply J2|apply J3|apply J4))
    replace fhB1 := hB1.facts
    go_upto_region 5 with fail
    clear hyw hm1 hm2 hr1 hr2
    go_wp2_with fail
    refine (cG _ (by (repeat first|exact J0|assumption|(apply J1;assumption)|apply J2|apply J3|apply J4))).mono ?_
    rintro e w5 ⟨uL5, uR5, rfl, oL5, oR5, hb5⟩
    replace hB1 := hB1.below (show Below _ _ w5 by (repeat first|exact J0|assumption|(apply J1;assumption)|apply J2|apply J3|apply J4))
    replace fhB1 := hB1.facts
    go_wp2_with fail
    refine (cCt _ _ _ (oL5.rd ec_len) (oR5.rd ec_len)).mono ?_
    rintro e w6 ⟨x1, x2, x3, x4, rfl, o1, o2, o3, o4, hb6⟩
    replace hB1 := hB1.below (show Below _ _ w6 by (repeat first|exact J0|assumption|(apply J1;assumption)|apply J2|apply J3|apply J4))
    replace fhB1 := hB1.facts
    obtain ⟨A6, c6, rfl⟩ := o1.shape
    obtain ⟨A7, c7, rfl⟩ := o2.shape
    obtain ⟨A8, c8, rfl⟩ := o3.shape
    obtain ⟨A9, c9, rfl⟩ := o4.shape
    have hB6 := Blk.new w6 31 #[.string ⟨A.1.toArray⟩, .int .i64 A.2.1, .slice A6 A.2.2.1.length c6, .slice A7 A.2.2.2.length c7, .string ⟨B.1.toArray⟩, .int .i64 B.2.1, .slice A8 B.2.2.1.length c8, .slice A9 B.2.2.2.length c9]
    have fB6 := hB6.facts
    go_wp2_with fail
    refine (cG _ (by (repeat first|exact J0|assumption|(apply J1;assumption)|apply J2|apply J3|apply J4))).mono ?_
    rintro e w7 ⟨uL7, uR7, rfl, oL7, oR7, hb7⟩
    replace hB1 := hB1.below (show Below _ _ w7 by (repeat first|exact J0|assumption|(apply J1;assumption)|apply J2|apply J3|apply J4))
    replace fhB1 := hB1.facts
    replace hB6 := hB6.below (show Below _ _ w7 by (repeat first|exact J0|assumption|(apply J1;assumption)|apply J2|apply J3|apply J4))
    replace fhB6 := hB6.facts
    go_wp2_with fail
    refine (cN _ _ _ (oL7.rd ec_len) (oR7.rd ec_len)).mono ?_
    rintro e w8 ⟨v8, rfl, hO8, hb8⟩
    replace hB1 := hB1.below (show Below _ _ w8 by (repeat first|exact J0|assumption|(apply J1;assumption)|apply J2|apply J3|apply J4))
    replace fhB1 := hB1.facts
    replace hB6 := hB6.below (show Below _ _ w8 by (repeat first|exact J0|assumption|(apply J1;assumption)|apply J2|apply J3|apply J4))
    replace fhB6 := hB6.facts
    obtain ⟨A10, c10, rfl⟩ := hO8.shape
    have q1 := (o1.rd ec_len).below (show Below w6.heap.size w6 w8 by (repeat first|exact J0|assumption|(apply J1;assumption)|apply J2|apply J3|apply J4))
    have q2 := (o2.rd ec_len).below (show Below w6.heap.size w6 w8 by (repeat first|exact J0|assumption|(apply J1;assumption)|apply J2|apply J3|apply J4))
    have q3 := (o3.rd ec_len).below (show Below w6.heap.size w6 w8 by (repeat first|exact J0|assumption|(apply J1;assumption)|apply J2|apply J3|apply J4))
    have q4 := (o4.rd ec_len).below (show Below w6.heap.size w6 w8 by (repeat first|exact J0|assumption|(apply J1;assumption)|apply J2|apply J3|apply J4))
    have sN := hO8.rd bc_len
    have hb08 : Below W.heap.size W w8 := by (repeat first|exact J0|assumption|(apply J1;assumption)|apply J2|apply J3|apply J4)
    have HB0 := Lib.hid hb08
    clear hb1 hb2 hb3 hb4 hb5 hb6 hb7 hb8 hb08 oL5 oR5 oL7 oR7 o1 o2 o3 o4 hO8
    go_wp2_with fail
    refine (cNA _ _ _ q1 q2).mono ?_
    rintro e w9 ⟨v9, rfl, hO9, hb9⟩
    replace hB1 := hB1.below (show Below _ _ w9 by (repeat first|exact J0|assumption|(apply J1;assumption)|apply J2|apply J3|apply J4))
    replace fhB1 := hB1.facts
    replace hB6 := hB6.below (show Below _ _ w9 by (repeat first|exact J0|assumption|(apply J1;assumption)|apply J2|apply J3|apply J4))
    replace fhB6 := hB6.facts
    obtain ⟨A11, c11, rfl⟩ := hO9.shape
    go_wp2_with fail
    refine (cNB _ _ _ (q3.below (by (repeat first|exact J0|assumption|(apply J1;assumption)|apply J2|apply J3|apply J4))) (q4.below (by (repeat first|exact J0|assumption|(apply J1;assumption)|apply J2|apply J3|apply J4)))).mono ?_
    rintro e w10 ⟨v10, rfl, hO10, hb10⟩
    replace hB1 := hB1.below (show Below _ _ w10 by (repeat first|exact J0|assumption|(apply J1;assumption)|apply J2|apply J3|apply J4))
    replace fhB1 := hB1.facts
    replace hB6 := hB6.below (show Below _ _ w10 by (repeat first|exact J0|assumption|(apply J1;assumption)|apply J2|apply J3|apply J4))
    replace fhB6 := hB6.facts
    obtain ⟨A12, c12, rfl⟩ := hO10.shape
    go_wp2_with fail
    refine (cCo _ _ _ (q1.below (by (repeat first|exact J0|assumption|(apply J1;assumption)|apply J2|apply J3|apply J4))) (q2.below (by (repeat first|exact J0|assumption|(apply J1;assumption)|apply J2|apply J3|apply J4)))).mono ?_
    rintro e w11 ⟨rfl, hb11⟩
    replace hB1 := hB1.below (show Below _ _ w11 by (repeat first|exact J0|assumption|(apply J1;assumption)|apply J2|apply J3|apply J4))
    replace fhB1 := hB1.facts
    replace hB6 := hB6.below (show Below _ _ w11 by (repeat first|exact J0|assumption|(apply J1;assumption)|apply J2|apply J3|apply J4))
    replace fhB6 := hB6.facts
    have hB11 := Blk.new w11 41 #[.int .i64 a0, .int .i64 a1, .int .i64 a2, .int .i64 a3, .int .i64 X, .int .i64 y, .int .i64 a4, .int .i64 a5]
    have fB11 := hB11.facts
    go_wp2_with fail
    refine (cSt _ _ _ _ _ (q1.below (by (repeat first|exact J0|assumption|(apply J1;assumption)|apply J2|apply J3|apply J4))) (q2.below (by (repeat first|exact J0|assumption|(apply J1;assumption)|apply J2|apply J3|apply J4))) (q3.below (by (repeat first|exact J0|assumption|(apply J1;assumption)|apply J2|apply J3|apply J4))) (q4.below (by (repeat first|exact J0|assumption|(apply J1;assumption)|apply J2|apply J3|apply J4)))).mono ?_
    rintro e w12 ⟨vL12, vR12, rfl, pL12, pR12, hb12⟩
    replace hB1 := hB1.below (show Below _ _ w12 by (repeat first|exact J0|assumption|(apply J1;assumption)|apply J2|apply J3|apply J4))
    replace fhB1 := hB1.facts
    replace hB6 := hB6.below (show Below _ _ w12 by (repeat first|exact J0|assumption|(apply J1;assumption)|apply J2|apply J3|apply J4))
    replace fhB6 := hB6.facts
    replace hB11 := hB11.below (show Below _ _ w12 by (repeat first|exact J0|assumption|(apply J1;assumption)|apply J2|apply J3|apply J4))
    replace fhB11 := hB11.facts
    obtain ⟨A13, c13, rfl⟩ := pL12.shape
    obtain ⟨A14, c14, rfl⟩ := pR12.shape
    have hB12 := Blk.new w12 30 #[.string ⟨S.1.toArray⟩, .int .i64 S.2.1, .slice A13 S.2.2.1.length c13, .slice A14 S.2.2.2.length c14]
    have fB12 := hB12.facts
    go_wp2_with fail
    refine (cC1 _ _ ((hO9.rd bc_len).below (by (repeat first|exact J0|assumption|(apply J1;assumption)|apply J2|apply J3|apply J4)))).mono ?_
    rintro e w13 ⟨rfl, hb13⟩
    replace hB1 := hB1.below (show Below _ _ w13 by (repeat first|exact J0|assumption|(apply J1;assumption)|apply J2|apply J3|apply J4))
    replace fhB1 := hB1.facts
    replace hB6 := hB6.below (show Below _ _ w13 by (repeat first|exact J0|assumption|(apply J1;assumption)|apply J2|apply J3|apply J4))
    replace fhB6 := hB6.facts
    replace hB11 := hB11.below (show Below _ _ w13 by (repeat first|exact J0|assumption|(apply J1;assumption)|apply J2|apply J3|apply J4))
    replace fhB11 := hB11.facts
    replace hB12 := hB12.below (show Below _ _ w13 by (repeat first|exact J0|assumption|(apply J1;assumption)|apply J2|apply J3|apply J4))
    replace fhB12 := hB12.facts
    go_wp2_with fail
    refine (cC2 _ _ ((hO10.rd bc_len).below (by (repeat first|exact J0|assumption|(apply J1;assumption)|apply J2|apply J3|apply J4)))).mono ?_
    rintro e w14 ⟨rfl, hb14⟩
    replace hB1 := hB1.below (show Below _ _ w14 by (repeat first|exact J0|assumption|(apply J1;assumption)|apply J2|apply J3|apply J4))
    replace fhB1 := hB1.facts
    replace hB6 := hB6.below (show Below _ _ w14 by (repeat first|exact J0|assumption|(apply J1;assumption)|apply J2|apply J3|apply J4))
    replace fhB6 := hB6.facts
    replace hB11 := hB11.below (show Below _ _ w14 by (repeat first|exact J0|assumption|(apply J1;assumption)|apply J2|apply J3|apply J4))
    replace fhB11 := hB11.facts
    replace hB12 := hB12.below (show Below _ _ w14 by (repeat first|exact J0|assumption|(apply J1;assumption)|apply J2|apply J3|apply J4))
    replace fhB12 := hB12.facts
    have sA14 := (hO9.rd bc_len).below (show Below w9.heap.size w9 w14 by (repeat first|exact J0|assumption|(apply J1;assumption)|apply J2|apply J3|apply J4))
    have sB14 := (hO10.rd bc_len).below (show Below w10.heap.size w10 w14 by (repeat first|exact J0|assumption|(apply J1;assumption)|apply J2|apply J3|apply J4))
    have sS1 := (pL12.rd ec_len).below (show Below w12.heap.size w12 w14 by (repeat first|exact J0|assumption|(apply J1;assumption)|apply J2|apply J3|apply J4))
    have sS2 := (pR12.rd ec_len).below (show Below w12.heap.size w12 w14 by (repeat first|exact J0|assumption|(apply J1;assumption)|apply J2|apply J3|apply J4))
    have hx14 : Below w8.heap.size w8 w14 := by (repeat first|exact J0|assumption|(apply J1;assumption)|apply J2|apply J3|apply J4)
    have p1 := q1.below hx14
    have p2 := q2.below hx14
    have p3 := q3.below hx14
    have p4 := q4.below hx14
    have sN14 := sN.below hx14
    have HB14 := Lib.hid (bl_then hx14 HB0.out)
    clear hb9 hb10 hb11 hb12 hb13 hb14 hx14 q1 q2 q3 q4 sN hO9 hO10 pL12 pR12
    go_upto_region 15 with fail
    refine wp_region_ords [1, 3, 4] [(0, false), (2, false), (5, false), (6, false), (7, true), (8, true), (9, false)] [10] (by kernel_rfl) (by kernel_rfl) (fun d _ _ _ _ h => by cases d <;> exact h) ?_
    simp only [List.map_cons, List.map_nil, List.getD_cons_zero, List.getD_cons_succ]
    repeat (go_big_quiet_step (fail))
    refine wpQuiet_nil ?_
    refine wpMid_run rfl (fun K hK => ?_)
    go_simp
    refine hK _ _ (by (repeat first|exact J0|assumption|(apply J1;assumption)|apply J2|apply J3|apply J4)) ?_
    clear hK K
    refine wpMid_run rfl (fun K hK => ?_)
    refine opB_app (l := []) (r := NB) (Own.empty bc 3 w14.drew 77) ((sB14.below (show Below w14.heap.size w14 w14.drew from bl_drew bl_refl)).alloc _) _ _ rfl rfl rfl (by simp; omega) (by simp) ?_
    intro v15 w15 hO15 hg15
    have hb15 : Below w14.heap.size w14 w15 := bl_grown hg15 (by (repeat first|exact J0|assumption|(apply J1;assumption)|apply J2|apply J3|apply J4)) (fun k hk => by have h := ((Own.empty bc 3 w14.drew 77).lt k hk).1; exact h)
    refine hK _ _ hb15 ?_
    clear hK K
    rw [List.nil_append] at hO15
    refine wpMid_run rfl (fun K hK => ?_)
    go_simp
    refine (cSf _ _ (hO15.rd bc_len)).mono ?_
    rintro e w16 ⟨v16, rfl, hO16, hb16⟩
    have hx16 : Below w14.heap.size w14 w16 := bl_then hb16 hb15
    refine hK _ _ hx16 ?_
    clear hK K
    refine wpMid_run rfl (fun K hK => ?_)
    go_simp
    refine hK _ _ hx16 ?_
    clear hK K
    refine wpMid_take rfl ?_
    intro K hK
    go_big_quiet_op
    go_big_quiet_on
    refine wpMid_take rfl ?_
    intro K hK
    go_big_quiet_op
    go_big_quiet_on
    refine wpMid_run rfl (fun K hK => ?_)
    go_simp
    refine hK _ _ hx16 ?_
    clear hK K
    refine wpMid_nil ?_
    obtain ⟨A16, c16, rfl⟩ := hO16.shape
    have sA16 := sA14.below hx16
    have hE16 := Own.empty bc 3 w16 77
    go_wp2_with (at_builtin; refine wpList_appBL hE16 (sA16.alloc _) rfl _ _ rfl rfl rfl (by simp; omega) (by simp) ?_; intro v17 w17 hO17 hg17; have hb17 : Below w16.heap.size w16 w17 := bl_grown hg17 (bl_alloc bl_refl _) (fun k e => (hE16.lt k e).1); rw [List.nil_append] at hO17)
    refine (cUn _ _ _ (hO17.rd bc_len) ((hO16.rd bc_len).below hb17)).mono ?_
    rintro e w18 ⟨v18, rfl, hO18, hb18⟩
    obtain ⟨A18, c18, rfl⟩ := hO18.shape
    have hx18 : Below w14.heap.size w14 w18 := bl_then hb18 (bl_then hb17 hx16)
    replace hB1 := hB1.below hx18
    replace hB6 := hB6.below hx18
    replace hB12 := hB12.below hx18
    have ss1 := sS1.below hx18
    have ss2 := sS2.below hx18
    have pp1 := p1.below hx18
    have pp2 := p2.below hx18
    have pp3 := p3.below hx18
    have pp4 := p4.below hx18
    have sN18 := sN14.below hx18
    have sU18 := hO18.rd bc_len
    have hx018 : Below W.heap.size W w18 := bl_then hx18 HB14.out
    clear p1 p2 p3 p4 sN14 sA14 sB14 sS1 sS2 sA16 hE16 hg15 hb15 hb16 hb17 hb18 hg17 hx16 hx18 hO15 hO16 hO17 hO18 fB1 fB6 fB11 fB12 hB11
    have fB1 := hB1.facts
    have fB6 := hB6.facts
    have fB12 := hB12.facts
    go_upto_region 17 with fail
    refine wp_region_ords [0, 1] [(2, false), (3, false), (4, false), (5, true), (6, true), (7, false)] [8] (by kernel_rfl) (by kernel_rfl) (fun d _ _ _ _ h => by cases d <;> exact h) ?_
    simp only [List.map_cons, List.map_nil, List.getD_cons_zero, List.getD_cons_succ]
    repeat (go_big_quiet_step (fail))
    refine wpQuiet_nil ?_
    refine wpMid_run rfl (fun K hK => ?_)
    go_simp
    refine (cG _ (bl_then (by (repeat first|exact J0|assumption|(apply J1;assumption)|apply J2|apply J3|apply J4)) hx018)).mono ?_
    rintro e w19 ⟨uL19, uR19, rfl, oL19, oR19, hb19⟩
    refine hK _ _ (by (repeat first|exact J0|assumption|(apply J1;assumption)|apply J2|apply J3|apply J4)) ?_
    clear hK K
    have hB1_w19 := hB1.below (show Below _ _ w19 by (repeat first|exact J0|assumption|(apply J1;assumption)|apply J2|apply J3|apply J4))
    have fhB1_w19 := hB1_w19.facts
    have hB6_w19 := hB6.below (show Below _ _ w19 by (repeat first|exact J0|assumption|(apply J1;assumption)|apply J2|apply J3|apply J4))
    have fhB6_w19 := hB6_w19.facts
    refine wpMid_run rfl (fun K hK => ?_)
    go_simp
    refine (cSm _ _ _ _ _ (ss1.below (by (repeat first|exact J0|assumption|(apply J1;assumption)|apply J2|apply J3|apply J4))) (ss2.below (by (repeat first|exact J0|assumption|(apply J1;assumption)|apply J2|apply J3|apply J4))) (oL19.rd ec_len) (oR19.rd ec_len)).mono ?_
    rintro e w20 ⟨rfl, hb20⟩
    refine hK _ _ (by (repeat first|exact J0|assumption|(apply J1;assumption)|apply J2|apply J3|apply J4)) ?_
    clear hK K
    have hB1_w20 := hB1.below (show Below _ _ w20 by (repeat first|exact J0|assumption|(apply J1;assumption)|apply J2|apply J3|apply J4))
    have fhB1_w20 := hB1_w20.facts
    have hB6_w20 := hB6.below (show Below _ _ w20 by (repeat first|exact J0|assumption|(apply J1;assumption)|apply J2|apply J3|apply J4))
    have fhB6_w20 := hB6_w20.facts
    refine wpMid_run rfl (fun K hK => ?_)
    go_simp
    refine hK _ _ (by (repeat first|exact J0|assumption|(apply J1;assumption)|apply J2|apply J3|apply J4)) ?_
    clear hK K
    refine wpMid_take rfl ?_
    intro K hK
    go_big_quiet_op
    go_big_quiet_on
    refine wpMid_take rfl ?_
    intro K hK
    go_big_quiet_op
    go_big_quiet_on
    refine wpMid_run rfl (fun K hK => ?_)
    go_simp
    refine hK _ _ (by (repeat first|exact J0|assumption|(apply J1;assumption)|apply J2|apply J3|apply J4)) ?_
    clear hK K
    refine wpMid_nil ?_
    go_wp2_with fail
    refine (cSN _ _ _ (sU18.below (by (repeat first|exact J0|assumption|(apply J1;assumption)|apply J2|apply J3|apply J4))) (sN18.below (by (repeat first|exact J0|assumption|(apply J1;assumption)|apply J2|apply J3|apply J4)))).mono ?_
    rintro e w21 ⟨rfl, hb21⟩
    have hx21 : Below w18.heap.size w18 w21 := by (repeat first|exact J0|assumption|(apply J1;assumption)|apply J2|apply J3|apply J4)
    replace hB1 := hB1.below hx21
    replace hB6 := hB6.below hx21
    have fB1 := hB1.facts
    have fB6 := hB6.facts
    have hx021 : Below W.heap.size W w21 := bl_then hx21 hx018
    have r1 := pp1.below hx21
    have r2 := pp2.below hx21
    have r3 := pp3.below hx21
    have r4 := pp4.below hx21
    clear hb19 hb20 hb21 hx21 oL19 oR19 pp1 pp2 pp3 pp4 sU18 sN18 ss1 ss2
    go_wp2_with fail
    refine (cG _ (bl_then (by (repeat first|exact J0|assumption|(apply J1;assumption)|apply J2|apply J3|apply J4)) hx021)).mono ?_
    rintro e w22 ⟨uL22, uR22, rfl, oL22, oR22, hb22⟩
    replace hB1 := hB1.below (show Below _ _ w22 by (repeat first|exact J0|assumption|(apply J1;assumption)|apply J2|apply J3|apply J4))
    replace fhB1 := hB1.facts
    replace hB6 := hB6.below (show Below _ _ w22 by (repeat first|exact J0|assumption|(apply J1;assumption)|apply J2|apply J3|apply J4))
    replace fhB6 := hB6.facts
    go_wp2_with fail
    refine (cAr _ _ _ (oL22.rd ec_len) (oR22.rd ec_len)).mono ?_
    rintro e w23 ⟨rfl, hb23⟩
    replace hB6 := hB6.below (show Below _ _ w23 by (repeat first|exact J0|assumption|(apply J1;assumption)|apply J2|apply J3|apply J4))
    replace fhB6 := hB6.facts
    go_wp2_with fail
    refine (cAA _ _ _ (r1.below (by (repeat first|exact J0|assumption|(apply J1;assumption)|apply J2|apply J3|apply J4))) (r2.below (by (repeat first|exact J0|assumption|(apply J1;assumption)|apply J2|apply J3|apply J4)))).mono ?_
    rintro e w24 ⟨rfl, hb24⟩
    replace hB6 := hB6.below (show Below _ _ w24 by (repeat first|exact J0|assumption|(apply J1;assumption)|apply J2|apply J3|apply J4))
    replace fhB6 := hB6.facts
    go_wp2_with fail
    refine (cAB _ _ _ (r3.below (by (repeat first|exact J0|assumption|(apply J1;assumption)|apply J2|apply J3|apply J4))) (r4.below (by (repeat first|exact J0|assumption|(apply J1;assumption)|apply J2|apply J3|apply J4)))).mono ?_
    rintro e w25 ⟨rfl, hb25⟩
    replace hB6 := hB6.below (show Below _ _ w25 by (repeat first|exact J0|assumption|(apply J1;assumption)|apply J2|apply J3|apply J4))
    replace fhB6 := hB6.facts
    go_wp2_with fail
    refine (cHA _ _ _ (r1.below (by (repeat first|exact J0|assumption|(apply J1;assumption)|apply J2|apply J3|apply J4))) (r2.below (by (repeat first|exact J0|assumption|(apply J1;assumption)|apply J2|apply J3|apply J4)))).mono ?_
    rintro e w26 ⟨rfl, hb26⟩
    replace hB6 := hB6.below (show Below _ _ w26 by (repeat first|exact J0|assumption|(apply J1;assumption)|apply J2|apply J3|apply J4))
    replace fhB6 := hB6.facts
    go_wp2_with fail
    refine (cHB _ _ _ (r3.below (by (repeat first|exact J0|assumption|(apply J1;assumption)|apply J2|apply J3|apply J4))) (r4.below (by (repeat first|exact J0|assumption|(apply J1;assumption)|apply J2|apply J3|apply J4)))).mono ?_
    rintro e w27 ⟨rfl, hb27⟩
    go_wp2
    go_ret
    exact ⟨rfl, bl_then (by (repeat first|exact J0|assumption|(apply J1;assumption)|apply J2|apply J3|apply J4)) hx021⟩
  ·obtain ⟨E, hE⟩ : ∃ z, panE p = z := ⟨_, rfl⟩
   rw [hE] at cRP hz
   simp only [sV] at cSh cRP ⊢
   have tz : (E != 0) = true := by simpa using hz
   clear hE hz cG hq hwL hwR hL hR hr
   go_enter Tryz.func3, Tryz.ntmps3
   go_wp2_with fail
   refine (cAw _ (by (repeat first|exact J0|assumption|(apply J1;assumption)|apply J2|apply J3|apply J4))).mono ?_
   rintro e w1 ⟨rfl, hb1⟩
   replace hB1 := hB1.below (show Below _ _ w1 by (repeat first|exact J0|assumption|(apply J1;assumption)|apply J2|apply J3|apply J4))
   replace fhB1 := hB1.facts
   go_wp2_with fail
   refine (cSh _ (by (repeat first|exact J0|assumption|(apply J1;assumption)|apply J2|apply J3|apply J4))).mono ?_
   rintro e w2 ⟨rfl, hb2⟩
   replace hB1 := hB1.below (show Below _ _ w2 by (repeat first|exact J0|assumption|(apply J1;assumption)|apply J2|apply J3|apply J4))
   replace fhB1 := hB1.facts
   go_wp2_with fail
   refine (cRP _ (by (repeat first|exact J0|assumption|(apply J1;assumption)|apply J2|apply J3|apply J4))).mono ?_
   rintro e w3 ⟨rfl, hb3⟩
   replace hB1 := hB1.below (show Below _ _ w3 by (repeat first|exact J0|assumption|(apply J1;assumption)|apply J2|apply J3|apply J4))
   replace fhB1 := hB1.facts
   go_wp2_with fail
   refine (cAw _ (by (repeat first|exact J0|assumption|(apply J1;assumption)|apply J2|apply J3|apply J4))).mono ?_
   rintro e w4 ⟨rfl, hb4⟩
   go_wp2
   go_ret
   exact ⟨rfl, by (repeat first|exact J0|assumption|(apply J1;assumption)|apply J2|apply J3|apply J4)⟩
end Go.Proofs.YtkkefahobjlagaaGreatDoor

/- PanelPick, walked. Conditions: the variables are laid. -/
import Derived.Test.YtkkefahobjlagaaGreatDoorN37
import Derived.Test.YtkkefahobjlagaaGreatDoorN40
import Derived.Test.YtkkefahobjlagaaGreatDoorN44
import Derived.Test.YtkkefahobjlagaaGreatDoorN50
namespace Go.Proofs.YtkkefahobjlagaaGreatDoor
open Go.RowKit Go.ChangeMaps
set_option maxHeartbeats 4000000
set_option maxRecDepth 100000
attribute [local go_sem] Oper.semAt_some
theorem panelPick_any {vL vR : Value} (p : Pan) (W : World) (hnm : p.1.length ≤ maxLen) (hL : SlE W vL p.2.2.1) (hR : SlE W vR p.2.2.2) (hLay : Lay W) :
  Calls Tryz.prog 5 #[.agg #[sV p.1, .int .i64 p.2.1, vL, vR]] W (RV W (.bool true)) := by
 have cAw := fun W' (hb : Below W.heap.size W W') => awakeP_any W' (hLay.below hb)
 have cSh := fun W' (hb : Below W.heap.size W W') => shortP_any p 16 W' hnm (hL.below hb) (hR.below hb)
 obtain ⟨q, hq⟩ : ∃ q, shortP p 16 = q := ⟨_, rfl⟩
 rw [hq] at cSh
 obtain ⟨AL, cL, hvL, hLc, hLm, rL⟩ := id hL
 obtain ⟨AR, cR, hvR, hRc, hRm, rR⟩ := id hR
 subst hvL hvR
 have hB1 := Blk.new W 24 #[.string ⟨p.1.toArray⟩, .int .i64 p.2.1, .slice AL p.2.2.1.length cL, .slice AR p.2.2.2.length cR]
 have fB1 := hB1.facts
 clear rL rR hLc hLm hRc hRm
 cases q
 ·unfold sV at cSh ⊢
  clear hq hL hR
  go_enter Tryz.func5, Tryz.ntmps5
  go_wp2_with fail
  refine (cAw _ (by (repeat first|exact J0|assumption|(apply J1;assumption)|apply J2|apply J3|apply J4))).mono ?_
  rintro e w1 ⟨rfl, hb1⟩
  replace hB1 := hB1.below (show Below _ _ w1 by (repeat first|exact J0|assumption|(apply J1;assumption)|apply J2|apply J3|apply J4))
  replace fhB1 := hB1.facts
  go_wp2_with fail
  refine (cSh _ (by (repeat first|exact J0|assumption|(apply J1;assumption)|apply J2|apply J3|apply J4))).mono ?_
  rintro e w2 ⟨rfl, hb2⟩
  go_wp2_with fail
  refine (cAw _ (by (repeat first|exact J0|assumption|(apply J1;assumption)|apply J2|apply J3|apply J4))).mono ?_
  rintro e w3 ⟨rfl, hb3⟩
  go_wp2
  go_ret
  exact ⟨rfl, by (repeat first|exact J0|assumption|(apply J1;assumption)|apply J2|apply J3|apply J4)⟩
 ·obtain ⟨hn60, ⟨hlL, hwL⟩, hlR, hwR⟩ := shortP_words hq
  have cG := fun W' (hb : Below W.heap.size W W') => given_any p W' (hL.below hb) (hR.below hb) (by omega) (by omega)
  have cRP := fun W' (hb : Below W.heap.size W W') => rcheckPanel_any p W' (by omega) (hL.below hb) (hR.below hb) (fun e he => by have := hwL e he; omega) (fun e he => by have := hwR e he; omega)
  unfold GIW at cG
  by_cases hz : panE p = 0
  ·have hok := panE_zero hz
   have hsm := shortP_small (n := 16) hq hok
   obtain ⟨n0, c0, two, hfew, hrl, hsl, hnear, hrnear, hrow, hbar⟩ := hsm.pick hz
   obtain ⟨K, M, hcnt⟩ := pan_cnt hok c0
   have har := area_in hok
   have cN := fun (vL vR : Value) W' hL hR => apiNet_any (vL := vL) (vR := vR) p W' (by omega) hL hR
   have cA := fun (vL vR : Value) W' hL hR => apiArea_any (vL := vL) (vR := vR) p W' (by omega) hL hR
   have cLt := fun (vL vR : Value) W' hL hR => apiLetters_any (vL := vL) (vR := vR) p W' (by omega) hL hR
   have cS := fun (vL vR : Value) W' hL hR => apiStrips_any (vL := vL) (vR := vR) p W' (by omega) hL hR
   have cR := fun (vL vR : Value) W' hL hR => apiRows_any (vL := vL) (vR := vR) p W' (by omega) hL hR
   have cC1 := fun (v : Value) W' h => rnet_sl (v := v) (netL p) W' h
   have cCn := fun (v : Value) W' h => apiCount_any (v := v) (netL p) W' h
   rw [n0, show onlyOk 0 (netL p) = netL p from rfl] at cN
   rw [n0, show onlyOk 0 (rowsL p) = rowsL p from rfl] at cR
   rw [hz, show onlyN 0 (areaS (strips p)) = areaS (strips p) from rfl] at cA
   rw [hz, show onlyOk 0 (strips p) = strips p from rfl] at cS
   rw [c0] at cC1
   rw [hcnt, c0] at cCn
   have hlt : ∃ a b c : Int, lettR p = #[.int .i64 a, .int .i64 b, .int .i64 c] ∧ b = ((cntU (stpL p.2.2.1 ++ stpL p.2.2.2) 66 : Nat) : Int) := ⟨_, _, _, if_pos hz, rfl⟩
   obtain ⟨l0, l1, l2, hlt, hl1⟩ := hlt
   rw [hlt, hz] at cLt
   rw [← hl1] at two
   rw [hz] at cRP
   simp only [sV] at cSh cG cRP cN cA cLt cS cR ⊢
   obtain ⟨N, hN⟩ : ∃ z, netL p = z := ⟨_, rfl⟩
   obtain ⟨S, hS⟩ : ∃ z, strips p = z := ⟨_, rfl⟩
   obtain ⟨R, hR'⟩ : ∃ z, rowsL p = z := ⟨_, rfl⟩
   rw [hN] at two hfew hbar cN cC1 cCn
   rw [hR'] at hrl hrnear hrow cR
   rw [hS] at two hrl hsl hnear hrow hbar har cA cS
   obtain ⟨AA, hAA⟩ : ∃ z, areaS S = z := ⟨_, rfl⟩
   rw [hAA] at two har cA
   obtain ⟨har1, har2⟩ := har
   have hb1 : -1000000000 ≤ l1 := by omega
   have hb2 : l1 ≤ 1000000000 := by omega
   have t2 : (2 * (N.length : Int) != AA + l1) = false := by rw [two]; simp
   have tR : ((R.length : Int) != (S.length : Int) + 1) = false := by rw [hrl]; simp
   have tS : (40 < S.length) = False := eq_false (by omega)
   have HAA := Lib.hid hAA
   have HSN := Lib.hid hnear
   have HRN := Lib.hid hrnear
   have HRL := Lib.hid hrl
   have HRW := Lib.hid hrow
   have HBR := Lib.hid hbar
   have HAN := Lib.hid (areaS_near hnear)
   clear hz hok hsm n0 c0 two hrl hnear hrnear hrow hbar hcnt hlt hl1 hN hS hR' hAA hq hwL hwR hL hR
   go_enter Tryz.func5, Tryz.ntmps5
   go_wp2_with fail
   refine (cAw _ (by (repeat first|exact J0|assumption|(apply J1;assumption)|apply J2|apply J3|apply J4))).mono ?_
   rintro e w1 ⟨rfl, hb1⟩
   replace hB1 := hB1.below (show Below _ _ w1 by (repeat first|exact J0|assumption|(apply J1;assumption)|apply J2|apply J3|apply J4))
   replace fhB1 := hB1.facts
   go_wp2_with fail
   refine (cSh _ (by (repeat first|exact J0|assumption|(apply J1;assumption)|apply J2|apply J3|apply J4))).mono ?_
   rintro e w2 ⟨rfl, hb2⟩
   replace hB1 := hB1.below (show Below _ _ w2 by (repeat first|exact J0|assumption|(apply J1;assumption)|apply J2|apply J3|apply J4))
   replace fhB1 := hB1.facts
   go_wp2_with fail
   refine (cRP _ (by (repeat first|exact J0|assumption|(apply J1;assumption)|apply J2|apply J3|apply J4))).mono ?_
   rintro e w3 ⟨rfl, hb3⟩
   replace hB1 := hB1.below (show Below _ _ w3 by (repeat first|exact J0|assumption|(apply J1;assumption)|apply J2|apply J3|apply J4))
   replace fhB1 := hB1.facts
   go_wp2_with fail
   refine (cG _ (by (repeat first|exact J0|assumption|(apply J1;assumption)|apply J2|apply J3|apply J4))).mono ?_
   rintro e w4 ⟨uL4, uR4, rfl, oL4, oR4, hb4⟩
   replace hB1 := hB1.below (show Below _ _ w4 by (repeat first|exact J0|assumption|(apply J1;assumption)|apply J2|apply J3|apply J4))
   replace fhB1 := hB1.facts
   go_wp2_with fail
   refine (cN _ _ _ (oL4.rd ec_len) (oR4.rd ec_len)).mono ?_
   rintro e w5 ⟨v5, rfl, hO5, hb5⟩
   replace hB1 := hB1.below (show Below _ _ w5 by (repeat first|exact J0|assumption|(apply J1;assumption)|apply J2|apply J3|apply J4))
   replace fhB1 := hB1.facts
   obtain ⟨A5, c5, rfl⟩ := hO5.shape
   go_wp2_with fail
   refine (cG _ (by (repeat first|exact J0|assumption|(apply J1;assumption)|apply J2|apply J3|apply J4))).mono ?_
   rintro e w6 ⟨uL6, uR6, rfl, oL6, oR6, hb6⟩
   replace hB1 := hB1.below (show Below _ _ w6 by (repeat first|exact J0|assumption|(apply J1;assumption)|apply J2|apply J3|apply J4))
   replace fhB1 := hB1.facts
   go_wp2_with fail
   refine (cA _ _ _ (oL6.rd ec_len) (oR6.rd ec_len)).mono ?_
   rintro e w7 ⟨rfl, hb7⟩
   replace hB1 := hB1.below (show Below _ _ w7 by (repeat first|exact J0|assumption|(apply J1;assumption)|apply J2|apply J3|apply J4))
   replace fhB1 := hB1.facts
   go_wp2_with fail
   refine (cG _ (by (repeat first|exact J0|assumption|(apply J1;assumption)|apply J2|apply J3|apply J4))).mono ?_
   rintro e w8 ⟨uL8, uR8, rfl, oL8, oR8, hb8⟩
   replace hB1 := hB1.below (show Below _ _ w8 by (repeat first|exact J0|assumption|(apply J1;assumption)|apply J2|apply J3|apply J4))
   replace fhB1 := hB1.facts
   go_wp2_with fail
   refine (cLt _ _ _ (oL8.rd ec_len) (oR8.rd ec_len)).mono ?_
   rintro e w9 ⟨rfl, hb9⟩
   replace hB1 := hB1.below (show Below _ _ w9 by (repeat first|exact J0|assumption|(apply J1;assumption)|apply J2|apply J3|apply J4))
   replace fhB1 := hB1.facts
   have hB9 := Blk.new w9 60 #[.int .i64 l0, .int .i64 l1, .int .i64 l2]
   have fB9 := hB9.facts
   go_wp2_with fail
   refine (cG _ (by (repeat first|exact J0|assumption|(apply J1;assumption)|apply J2|apply J3|apply J4))).mono ?_
   rintro e w10 ⟨uL10, uR10, rfl, oL10, oR10, hb10⟩
   replace hB1 := hB1.below (show Below _ _ w10 by (repeat first|exact J0|assumption|(apply J1;assumption)|apply J2|apply J3|apply J4))
   replace fhB1 := hB1.facts
   replace hB9 := hB9.below (show Below _ _ w10 by (repeat first|exact J0|assumption|(apply J1;assumption)|apply J2|apply J3|apply J4))
   replace fhB9 := hB9.facts
   go_wp2_with fail
   refine (cS _ _ _ (oL10.rd ec_len) (oR10.rd ec_len)).mono ?_
   rintro e w11 ⟨v11, rfl, hO11, hb11⟩
   replace hB1 := hB1.below (show Below _ _ w11 by (repeat first|exact J0|assumption|(apply J1;assumption)|apply J2|apply J3|apply J4))
   replace fhB1 := hB1.facts
   replace hB9 := hB9.below (show Below _ _ w11 by (repeat first|exact J0|assumption|(apply J1;assumption)|apply J2|apply J3|apply J4))
   replace fhB9 := hB9.facts
   obtain ⟨A11, c11, rfl⟩ := hO11.shape
   go_wp2_with fail
   refine (cG _ (by (repeat first|exact J0|assumption|(apply J1;assumption)|apply J2|apply J3|apply J4))).mono ?_
   rintro e w12 ⟨uL12, uR12, rfl, oL12, oR12, hb12⟩
   replace hB1 := hB1.below (show Below _ _ w12 by (repeat first|exact J0|assumption|(apply J1;assumption)|apply J2|apply J3|apply J4))
   replace fhB1 := hB1.facts
   replace hB9 := hB9.below (show Below _ _ w12 by (repeat first|exact J0|assumption|(apply J1;assumption)|apply J2|apply J3|apply J4))
   replace fhB9 := hB9.facts
   go_wp2_with fail
   refine (cR _ _ _ (oL12.rd ec_len) (oR12.rd ec_len)).mono ?_
   rintro e w13 ⟨v13, rfl, hO13, hb13⟩
   replace hB9 := hB9.below (show Below _ _ w13 by (repeat first|exact J0|assumption|(apply J1;assumption)|apply J2|apply J3|apply J4))
   replace fhB9 := hB9.facts
   obtain ⟨A13, c13, rfl⟩ := hO13.shape
   go_wp2_with fail
   refine (cC1 _ _ ((hO5.rd bc_len).below (by (repeat first|exact J0|assumption|(apply J1;assumption)|apply J2|apply J3|apply J4)))).mono ?_
   rintro e w14 ⟨rfl, hb14⟩
   replace hB9 := hB9.below (show Below _ _ w14 by (repeat first|exact J0|assumption|(apply J1;assumption)|apply J2|apply J3|apply J4))
   replace fhB9 := hB9.facts
   have sN14 := (hO5.rd bc_len).below (show Below w5.heap.size w5 w14 by (repeat first|exact J0|assumption|(apply J1;assumption)|apply J2|apply J3|apply J4))
   have sS14 := (hO11.rd trc_len).below (show Below w11.heap.size w11 w14 by (repeat first|exact J0|assumption|(apply J1;assumption)|apply J2|apply J3|apply J4))
   have sR14 := (hO13.rd kc_len).below (show Below w13.heap.size w13 w14 by (repeat first|exact J0|assumption|(apply J1;assumption)|apply J2|apply J3|apply J4))
   have hx014 : Below W.heap.size W w14 := by (repeat first|exact J0|assumption|(apply J1;assumption)|apply J2|apply J3|apply J4)
   have HX := Lib.hid hx014
   clear hb3 hb4 hb5 hb6 hb7 hb8 hb9 hb10 hb11 hb12 hb13 hb14 hx014 oL4 oR4 oL6 oR6 oL8 oR8 oL10 oR10 oL12 oR12 hO5 hO11 hO13
   have hE14 := Own.empty bc 3 w14 77
   go_wp2_with (at_builtin; refine wpList_appBL hE14 (sN14.alloc _) rfl _ _ rfl rfl rfl (by simp; omega) (by simp) ?_; intro v15 w15 hO15 hg15; have hb15 : Below w14.heap.size w14 w15 := bl_grown hg15 (bl_alloc bl_refl _) (fun k e => (hE14.lt k e).1); rw [List.nil_append] at hO15)
   refine (cCn _ _ (hO15.rd bc_len)).mono ?_
   rintro e w16 ⟨rfl, hb16⟩
   have hx16 : Below w14.heap.size w14 w16 := bl_then hb16 hb15
   have hB16 := Blk.new w16 70 #[.int .i64 K, .int .i64 N.length, .int .i64 M, .int .i64 1, .int .i64 0]
   have fB16 := hB16.facts
   go_upto_region 14 with fail
   obtain ⟨x16, hx⟩ : ∃ X, w16.alloc (.cells #[.int .i64 K, .int .i64 N.length, .int .i64 M, .int .i64 1, .int .i64 0] 70) = X := ⟨_, rfl⟩
   have hxx : Below w14.heap.size w14 x16 := by rw [← hx]; exact bl_alloc hx16 _
   rw [hx]
   have sN := sN14.below hxx
   have sS := sS14.below hxx
   have sR := sR14.below hxx
   have hx0 : Below W.heap.size W x16 := bl_then hxx HX.out
   obtain ⟨_, _, eN, _, _, rN⟩ := sN
   obtain ⟨rfl, rfl⟩ : A5 = _ ∧ c5 = _ := by simpa using eN
   obtain ⟨_, _, eS, _, _, rS⟩ := sS
   obtain ⟨rfl, rfl⟩ : A11 = _ ∧ c11 = _ := by simpa using eS
   obtain ⟨_, _, eR, _, _, rR⟩ := sR
   obtain ⟨rfl, rfl⟩ : A13 = _ ∧ c13 = _ := by simpa using eR
   clear hx hB1 hB9 hB16 fB1 fB9 fB16 hb15 hb16 hx16 hxx hE14 hO15 hg15 sN14 sS14 sR14 eN eS eR HX
   go_wp2
   go_loopw [15, 122] (fun s15 s122 wr => ∃ k : Nat, k ≤ S.length ∧ s122 = .int .i64 k ∧ s15 = .int .i64 (areaS (S.take k)) ∧ Below x16.heap.size x16 wr) (fun _ s _ => S.length - (intOf s).toNat)
   case atStart => exact ⟨0, Nat.zero_le _, rfl, rfl, bl_refl⟩
   case round =>
    obtain ⟨k, hk, rfl, rfl, hbk⟩ := hrel
    obtain ⟨wo, rfl⟩ : ∃ x, x = wr := ⟨_, rfl⟩
    have hl := HAN.out k hk
    by_cases hlt : k < S.length
    ·have hrl := HRL.out
     have h2 : k < R.length := by omega
     have h3 : k + 1 < R.length := by omega
     obtain ⟨b, off, rfl, hb, e0, e1, e2, e3⟩ := (rS.below hbk).strp hlt
     obtain ⟨br, offr, rfl, hbr, d0, d1⟩ := (rR.below hbk).knot h2
     obtain ⟨_, _, hee, _, d2, d3⟩ := (rR.below hbk).knot h3
     obtain ⟨rfl, rfl⟩ : br = _ ∧ offr = _ := by simpa using hee
     have hs := HSN.out _ (List.getElem_mem hlt)
     have hr0 := HRN.out _ (List.getElem_mem h2)
     have hr1 := HRN.out _ (List.getElem_mem h3)
     have hrw := HRW.out k hlt h2 h3
     have HT := Lib.hid (areaS_snoc hlt)
     obtain ⟨⟨x0, x1, x2, x3⟩, hx⟩ : ∃ z, S[k] = z := ⟨_, rfl⟩
     obtain ⟨⟨y0, y1⟩, hy⟩ : ∃ z, R[k] = z := ⟨_, rfl⟩
     obtain ⟨⟨z0, z1⟩, hz⟩ : ∃ z, R[k + 1] = z := ⟨_, rfl⟩
     rw [hx] at e0 e1 e2 e3 HT hs hrw
     rw [hy] at d0 d1 hr0 hrw
     rw [hz] at d2 d3 hr1 hrw
     unfold nearS at hs
     simp only at e0 e1 e2 e3 d0 d1 d2 d3 hs hr0 hr1 hrw
     obtain ⟨⟨_, _⟩, ⟨_, _⟩, ⟨_, _⟩, _, _⟩ := hs
     obtain ⟨⟨_, _⟩, _, _⟩ := hr0
     obtain ⟨⟨_, _⟩, _, _⟩ := hr1
     obtain ⟨q1, q2, q3, q4⟩ := hrw
     have t1 : (x0 < y0 - 1) = False := eq_false (by omega)
     have t3 : (y1 + 1 < x1) = False := eq_false (by omega)
     have t4 : (x2 + 1 < z0) = False := eq_false (by omega)
     have t5 : (z1 < x3 - 1) = False := eq_false (by omega)
     obtain ⟨m, hm⟩ : ∃ m, areaS (S.take k) = m := ⟨_, rfl⟩
     rw [hm] at hl HT
     rw [hm]
     obtain ⟨hl1, hl2⟩ := hl
     have hl3 : -102400000 ≤ m := by omega
     have hl4 : m ≤ 102400000 := by omega
     have hS7 := Blk.new wo 75 #[.int .i64 x0, .int .i64 x1, .int .i64 x2, .int .i64 x3]
     have dd0 := d0
     clear hx hy hz hm hl1 hl2 hrl q1 q2 q3 q4 hee
     go_upto_region 17 with fail
     obtain ⟨w17, hw17⟩ : ∃ X, wo.alloc (.cells #[.int .i64 x0, .int .i64 x1, .int .i64 x2, .int .i64 x3] 75) = X := ⟨_, rfl⟩
     have hb17 : Below wo.heap.size wo w17 := by rw [← hw17]; exact bl_alloc bl_refl _
     rw [hw17] at hS7 ⊢
     have fS7 := hS7.facts
     have hbr7 : br < w17.heap.size := Nat.lt_of_lt_of_le hbr hb17.size
     have f0 := (hb17.cell hbr).trans d0
     have f1 := (hb17.cell hbr).trans d1
     have f2 := (hb17.cell hbr).trans d2
     have f3 := (hb17.cell hbr).trans d3
     go_upto_region 18 with fail
     refine wp_region_ords [0, 1, 2, 3, 4, 5, 6, 7, 8, 9, 10, 11, 12, 13, 14, 15, 16, 17, 18, 19, 20, 21, 22, 23, 24, 25, 26, 27, 28, 29, 30, 31, 32, 33, 34, 35, 36, 37, 38, 39, 40, 41, 42, 43, 44, 45, 46, 47] [] [] (by kernel_rfl) (by kernel_rfl) (fun d _ _ _ _ h => by cases d <;> exact h) ?_
     simp only [List.map_cons, List.map_nil, List.getD_cons_zero, List.getD_cons_succ]
     repeat (go_big_quiet_step (fail))
     refine wpQuiet_nil ?_
     refine wpMid_nil ?_
     go_wp2
     go_roundw
     case rel => exact ⟨k + 1, by omega, by go_num, by rw [HT.out]; congr 1; simp only; omega, bl_then (by (repeat first|exact J0|assumption|(apply J1;assumption)|apply J2|apply J3|apply J4)) hbk⟩
     case measure => simp [intOf]; omega
    ·obtain rfl : k = S.length := by omega
     rw [List.take_length, HAA.out]
     clear hl hlt hk
     go_wp2
     go_loopw [198] (fun s198 wr => ∃ k : Nat, k ≤ N.length ∧ s198 = .int .i64 k ∧ Below x16.heap.size x16 wr) (fun s _ => N.length - (intOf s).toNat)
     case atStart => exact ⟨0, Nat.zero_le _, rfl, hbk⟩
     case round =>
      obtain ⟨j, hj, rfl, hbj⟩ := hrel
      obtain ⟨wi, rfl⟩ : ∃ x, x = wr := ⟨_, rfl⟩
      by_cases hlj : j < N.length
      ·obtain ⟨n, hn, e1, q1, q2, q3, _, q4, q5⟩ := HBR.out _ (List.getElem_mem hlj)
       obtain ⟨b, off, rfl, hb, d0, d1, d2⟩ := (rN.below hbj).bar hlj
       obtain ⟨bs, offs, rfl, hbs, g0, g1, g2, g3⟩ := (rS.below hbj).strp hn
       have hs := HSN.out _ (List.getElem_mem hn)
       obtain ⟨⟨x, y, c⟩, hx⟩ : ∃ z, N[j] = z := ⟨_, rfl⟩
       obtain ⟨⟨x0, x1, x2, x3⟩, hs0⟩ : ∃ z, S[n] = z := ⟨_, rfl⟩
       rw [hx] at d0 d1 d2 e1 q1 q2 q3 q4 q5
       rw [hs0] at g0 g1 g2 g3 q1 q2 q4 q5 hs
       unfold nearS at hs
       simp only at d0 d1 d2 g0 g1 g2 g3 e1 q1 q2 q3 q4 q5 hs
       subst e1
       obtain ⟨⟨_, _⟩, ⟨_, _⟩, ⟨_, _⟩, _, _⟩ := hs
       have hx1 : -100000 ≤ x := by omega
       have hx2 : x ≤ 100000 := by omega
       have hc1 : -1 ≤ c := by omega
       have hc2 : c ≤ 1 := by omega
       have t0 : ((n : Int) < 0) = False := eq_false (by omega)
       have t1 : (S.length ≤ n) = False := eq_false (by omega)
       have t3 : (x < x0) = False := eq_false (by omega)
       have t4 : (x1 < x) = False := eq_false (by omega)
       have t5 : (x + c < x2) = False := eq_false (by omega)
       have t6 : (x3 < x + c) = False := eq_false (by omega)
       have hB7 := Blk.new wi 77 #[.int .i64 x, .int .i64 (n : Int), .int .i64 c]
       clear hx hs0 q1 q2 q3 q4 q5
       go_upto_region 26 with fail
       obtain ⟨w27, hw27⟩ : ∃ X, wi.alloc (.cells #[.int .i64 x, .int .i64 (n : Int), .int .i64 c] 77) = X := ⟨_, rfl⟩
       have hb27 : Below wi.heap.size wi w27 := by rw [← hw27]; exact bl_alloc bl_refl _
       rw [hw27] at hB7 ⊢
       have fB7 := hB7.facts
       have hbs7 : bs < w27.heap.size := Nat.lt_of_lt_of_le hbs hb27.size
       have f0 := (hb27.cell hbs).trans g0
       have f1 := (hb27.cell hbs).trans g1
       have f2 := (hb27.cell hbs).trans g2
       have f3 := (hb27.cell hbs).trans g3
       refine wp_region_ords [0, 1, 2, 3, 4, 5, 6, 7, 8, 9, 10, 11, 12, 13, 14, 15, 16, 17, 18, 19, 20, 21, 22, 23, 24, 25, 26, 27, 28, 29, 30, 31, 32, 33, 34, 35, 36, 37, 38, 39, 40, 41, 42, 43, 44, 45, 46, 47, 48, 49, 50, 51, 52, 53, 54, 55, 56, 57, 58, 59, 60, 61, 62, 63] [] [] (by kernel_rfl) (by kernel_rfl) (fun d _ _ _ _ h => by cases d <;> exact h) ?_
       simp only [List.map_cons, List.map_nil, List.getD_cons_zero, List.getD_cons_succ]
       repeat (go_big_quiet_step (fail))
       refine wpQuiet_nil ?_
       refine wpMid_nil ?_
       go_wp2
       go_roundw
       case rel => exact ⟨j + 1, by omega, by go_num, bl_then (by (repeat first|exact J0|assumption|(apply J1;assumption)|apply J2|apply J3|apply J4)) hbj⟩
       case measure => simp [intOf]; omega
      ·obtain rfl : j = N.length := by omega
       go_wp2
       go_ret
       exact ⟨rfl, bl_then hbj hx0⟩
  ·obtain ⟨E, hE⟩ : ∃ z, panE p = z := ⟨_, rfl⟩
   rw [hE] at cRP hz
   simp only [sV] at cSh cRP ⊢
   have tz : (E != 0) = true := by simpa using hz
   clear hE hz cG hq hwL hwR hL hR
   go_enter Tryz.func5, Tryz.ntmps5
   go_wp2_with fail
   refine (cAw _ (by (repeat first|exact J0|assumption|(apply J1;assumption)|apply J2|apply J3|apply J4))).mono ?_
   rintro e w1 ⟨rfl, hb1⟩
   replace hB1 := hB1.below (show Below _ _ w1 by (repeat first|exact J0|assumption|(apply J1;assumption)|apply J2|apply J3|apply J4))
   replace fhB1 := hB1.facts
   go_wp2_with fail
   refine (cSh _ (by (repeat first|exact J0|assumption|(apply J1;assumption)|apply J2|apply J3|apply J4))).mono ?_
   rintro e w2 ⟨rfl, hb2⟩
   replace hB1 := hB1.below (show Below _ _ w2 by (repeat first|exact J0|assumption|(apply J1;assumption)|apply J2|apply J3|apply J4))
   replace fhB1 := hB1.facts
   go_wp2_with fail
   refine (cRP _ (by (repeat first|exact J0|assumption|(apply J1;assumption)|apply J2|apply J3|apply J4))).mono ?_
   rintro e w3 ⟨rfl, hb3⟩
   replace hB1 := hB1.below (show Below _ _ w3 by (repeat first|exact J0|assumption|(apply J1;assumption)|apply J2|apply J3|apply J4))
   replace fhB1 := hB1.facts
   go_wp2_with fail
   refine (cAw _ (by (repeat first|exact J0|assumption|(apply J1;assumption)|apply J2|apply J3|apply J4))).mono ?_
   rintro e w4 ⟨rfl, hb4⟩
   go_wp2
   go_ret
   exact ⟨rfl, by (repeat first|exact J0|assumption|(apply J1;assumption)|apply J2|apply J3|apply J4)⟩
end Go.Proofs.YtkkefahobjlagaaGreatDoor

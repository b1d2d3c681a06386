/- PanelCuts, walked. Conditions: the variables are laid. -/
import Derived.Test.YthkjgcldolnjaaaGreatDoorL37
import Derived.Test.YthkjgcldolnjaaaGreatDoorL40
import Derived.Test.YthkjgcldolnjaaaGreatDoorL49
import Derived.Test.YthkjgcldolnjaaaGreatDoorL35
import Derived.Test.YthkjgcldolnjaaaGreatDoorL45
namespace Go.Proofs.YthkjgcldolnjaaaGreatDoor
open Go.RowKit Go.ChangeMaps
set_option maxHeartbeats 4000000
set_option maxRecDepth 100000

attribute [local go_sem] Oper.semAt_some
theorem firstI_ab (a b : Int) : firstI [a, b] = if a = 0 then b else a := by
  show (if a = 0 then (if b = 0 then 0 else b) else a) = _
  split
  · split
    · rename_i h; exact h.symm
    · rfl
  · rfl
/-! # PanelCuts -/
theorem panelCuts_any {vL vR : Value} (p : Pan) (y : Int) (W : World) (hnm : p.1.length ≤ maxLen) (hL : SlE W vL p.2.2.1) (hR : SlE W vR p.2.2.2) (hLay : Lay W) :
    Calls Tryz.prog 8 #[.agg #[sV p.1, .int .i64 p.2.1, vL, vR], .int .i64 y] W (RV W (.bool true)) := by
  have cAw := fun W' (hb : Below W.heap.size W W') => awakeP_any W' (hLay.below hb)
  have cSh := fun W' (hb : Below W.heap.size W W') => shortP_any p 40 W' hnm (hL.below hb) (hR.below hb)
  obtain ⟨q, hq⟩ : ∃ q, shortP p 40 = q := ⟨_, rfl⟩
  rw [hq] at cSh
  obtain ⟨AL, cL, hvL, hLc, hLm, rL⟩ := id hL
  obtain ⟨AR, cR, hvR, hRc, hRm, rR⟩ := id hR
  subst hvL hvR
  have hB1 := Blk.new W 24 #[.string ⟨p.1.toArray⟩, .int .i64 p.2.1, .slice AL p.2.2.1.length cL, .slice AR p.2.2.2.length cR]
  have fB1 := hB1.facts
  clear rL rR hLc hLm hRc hRm
  cases q
  · unfold sV at cSh ⊢
    clear hq hL hR
    go_enter Tryz.func8, Tryz.ntmps8
    go_wp2_with fail
    refine (cAw _ (by (repeat first|exact J0|assumption|(apply J1;assumption)|apply J2|apply J3|apply J4))).mono ?_
    rintro e w1 ⟨rfl, hb1⟩
    replace hB1 := hB1.below (show Below _ _ w1 by (repeat first|exact J0|assumption|(apply J1;assumption)|apply J2|apply J3|apply J4))
    replace fhB1 := hB1.facts
    go_wp2_with fail
    refine (cSh _ (by (repeat first|exact J0|assumption|(apply J1;assumption)|apply J2|apply J3|apply J4))).mono ?_
    rintro e w2 ⟨rfl, hb2⟩
    go_wp2_with fail
    refine (cAw _ (by (repeat first|exact J0|assumption|(apply J1;assumption)|apply J2|apply J3|apply J4))).mono ?_
    rintro e w3 ⟨rfl, hb3⟩
    go_wp2
    go_ret
    exact ⟨rfl, by (repeat first|exact J0|assumption|(apply J1;assumption)|apply J2|apply J3|apply J4)⟩
  · obtain ⟨hn60, ⟨hlL, hwL⟩, hlR, hwR⟩ := shortP_words hq
    have cG := fun W' (hb : Below W.heap.size W W') => given_any p W' (hL.below hb) (hR.below hb) (by omega) (by omega)
    have cRP := fun W' (hb : Below W.heap.size W W') => rcheckPanel_any p W' (by omega) (hL.below hb) (hR.below hb) (fun e he => by have := hwL e he; omega) (fun e he => by have := hwR e he; omega)
    unfold GIW at cG
    by_cases hz : panE p = 0
    · have hok := panE_zero hz
      have hhr := hok.high
      have cH := fun W' (hb : Below W.heap.size W W') => rheight_any (vR := .slice AR p.2.2.2.length cR) p W' (hL.below hb) hok.left
      have cRg := fun W' => rrange_any y 1 (heightP p - 1) W'
      by_cases hrg : withinI y 1 (heightP p - 1) = 0
      · by_cases hs : splitI (outP p false) y < 0 ∨ splitI (outP p true) y < 0
        · have cCt := fun (a b : Value) W' h1 h2 => apiCut_rule2 (vL := a) (vR := b) p y W' (by omega) h1 h2 hz hrg hs
          have cRC := fun W' (hb : Below W.heap.size W W') => rCut_none p y W' (hL.below hb) (hR.below hb) hok hs
          have cW := fun W' => lwhn_any true 18 W'
          rw [show whenI true 18 = 18 from rfl] at cW
          have tEE : ((18 : Int) == 18) = true := rfl
          unfold RP2R at cRC
          obtain ⟨H, hH⟩ : ∃ z, heightP p = z := ⟨_, rfl⟩
          rw [hrg] at cRg
          rw [hH] at cRg cH hhr
          rw [hz] at cRP
          obtain ⟨hh1, hh2⟩ := hhr
          obtain ⟨Q, hQ⟩ : ∃ z, panZ = z := ⟨_, rfl⟩
          have cOw0 := fun (a b : Value) W' h1 h2 => rown_any (vL := a) (vR := b) Q W' h1 h2 (by rw [← hQ]; decide) (by rw [← hQ]; decide)
          have cS0 := fun (a b : Value) W' hL hR k1 k2 => samePanel_any (vL := a) (vR := b) (uL := .slice none 0 0) (uR := .slice none 0 0) Q panZ W' hL hR k1 k2
          rw [show eqP Q panZ = true by rw [← hQ]; exact eqP_refl _] at cS0
          have cOw1 := cOw0
          have cS1 := cS0
          unfold ROW at cOw0 cOw1
          unfold RP2 at cCt
          rw [hQ] at cCt
          simp only [sV] at cSh cG cRP cCt cH cRC cOw0 cOw1 cS0 cS1 ⊢
          clear hH hrg hs hz hok hq hwL hwR hL hR hQ
          go_enter Tryz.func8, Tryz.ntmps8
          go_wp2_with fail
          refine (cAw _ (by (repeat first|exact J0|assumption|(apply J1;assumption)|apply J2|apply J3|apply J4))).mono ?_
          rintro e w1 ⟨rfl, hb1⟩
          replace hB1 := hB1.below (show Below _ _ w1 by (repeat first|exact J0|assumption|(apply J1;assumption)|apply J2|apply J3|apply J4))
          replace fhB1 := hB1.facts
          go_wp2_with fail
          refine (cSh _ (by (repeat first|exact J0|assumption|(apply J1;assumption)|apply J2|apply J3|apply J4))).mono ?_
          rintro e w2 ⟨rfl, hb2⟩
          replace hB1 := hB1.below (show Below _ _ w2 by (repeat first|exact J0|assumption|(apply J1;assumption)|apply J2|apply J3|apply J4))
          replace fhB1 := hB1.facts
          go_wp2_with fail
          refine (cG _ (by (repeat first|exact J0|assumption|(apply J1;assumption)|apply J2|apply J3|apply J4))).mono ?_
          rintro e w3 ⟨uL3, uR3, rfl, oL3, oR3, hb3⟩
          replace hB1 := hB1.below (show Below _ _ w3 by (repeat first|exact J0|assumption|(apply J1;assumption)|apply J2|apply J3|apply J4))
          replace fhB1 := hB1.facts
          go_wp2_with fail
          refine (cCt _ _ _ (oL3.rd ec_len) (oR3.rd ec_len)).mono ?_
          rintro e w4 ⟨x1, x2, x3, x4, rfl, o1, o2, o3, o4, hb4⟩
          replace hB1 := hB1.below (show Below _ _ w4 by (repeat first|exact J0|assumption|(apply J1;assumption)|apply J2|apply J3|apply J4))
          replace fhB1 := hB1.facts
          obtain ⟨A1, c1, rfl⟩ := o1.shape
          obtain ⟨A2, c2, rfl⟩ := o2.shape
          obtain ⟨A3, c3, rfl⟩ := o3.shape
          obtain ⟨A4, c4, rfl⟩ := o4.shape
          have hB4 := Blk.new w4 74 #[.string ⟨Q.1.toArray⟩, .int .i64 Q.2.1, .slice A1 Q.2.2.1.length c1, .slice A2 Q.2.2.2.length c2, .string ⟨Q.1.toArray⟩, .int .i64 Q.2.1, .slice A3 Q.2.2.1.length c3, .slice A4 Q.2.2.2.length c4]
          have fB4 := hB4.facts
          go_wp2_with fail
          refine (cRP _ (by (repeat first|exact J0|assumption|(apply J1;assumption)|apply J2|apply J3|apply J4))).mono ?_
          rintro e w5 ⟨rfl, hb5⟩
          replace hB1 := hB1.below (show Below _ _ w5 by (repeat first|exact J0|assumption|(apply J1;assumption)|apply J2|apply J3|apply J4))
          replace fhB1 := hB1.facts
          replace hB4 := hB4.below (show Below _ _ w5 by (repeat first|exact J0|assumption|(apply J1;assumption)|apply J2|apply J3|apply J4))
          replace fhB4 := hB4.facts
          have hB8 := Blk.new w5 77 #[.string ⟨#[]⟩, .int .i64 0, .slice none 0 0, .slice none 0 0, .string ⟨#[]⟩, .int .i64 0, .slice none 0 0, .slice none 0 0]
          have q1 := (o1.rd ec_len).below (show Below w4.heap.size w4 w5 by (repeat first|exact J0|assumption|(apply J1;assumption)|apply J2|apply J3|apply J4))
          have q2 := (o2.rd ec_len).below (show Below w4.heap.size w4 w5 by (repeat first|exact J0|assumption|(apply J1;assumption)|apply J2|apply J3|apply J4))
          have q3 := (o3.rd ec_len).below (show Below w4.heap.size w4 w5 by (repeat first|exact J0|assumption|(apply J1;assumption)|apply J2|apply J3|apply J4))
          have q4 := (o4.rd ec_len).below (show Below w4.heap.size w4 w5 by (repeat first|exact J0|assumption|(apply J1;assumption)|apply J2|apply J3|apply J4))
          have hW5 : Below W.heap.size W w5 := by (repeat first|exact J0|assumption|(apply J1;assumption)|apply J2|apply J3|apply J4)
          have HW := Lib.hid hW5
          clear hb1 hb2 hb3 hb4 hb5 oL3 oR3 o1 o2 o3 o4 hW5
          go_upto_region 6 with fail
          obtain ⟨x6, hx6⟩ : ∃ X, w5.alloc (.cells #[.string ⟨#[]⟩, .int .i64 0, .slice none 0 0, .slice none 0 0, .string ⟨#[]⟩, .int .i64 0, .slice none 0 0, .slice none 0 0] 77) = X := ⟨_, rfl⟩
          have hb6 : Below w5.heap.size w5 x6 := by rw [← hx6]; exact bl_alloc bl_refl _
          rw [hx6] at hB8 ⊢
          obtain ⟨g8, hg8⟩ : ∃ X, w5.heap.size = X := ⟨_, rfl⟩
          have hg8' : g8 < x6.heap.size := by rw [← hg8]; exact hB8.lt
          have hg5 : w5.heap.size ≤ g8 := Nat.le_of_eq hg8
          have hB46 := hB4.below hb6
          have hB16 := hB1.below hb6
          rw [hg8] at hB8 ⊢
          clear hx6 hg8 hB1 hB4 fB1 fB4
          have fB46 := hB46.facts
          have fB16 := hB16.facts
          go_wp2_with fail
          refine (cH _ (bl_then hb6 HW.out)).mono ?_
          rintro e w7 ⟨rfl, hb7⟩
          replace hB16 := hB16.below (show Below _ _ w7 by (repeat first|exact J0|assumption|(apply J1;assumption)|apply J2|apply J3|apply J4))
          replace fhB16 := hB16.facts
          replace hB46 := hB46.below (show Below _ _ w7 by (repeat first|exact J0|assumption|(apply J1;assumption)|apply J2|apply J3|apply J4))
          replace fhB46 := hB46.facts
          replace hB8 := hB8.below (show Below _ _ w7 by (repeat first|exact J0|assumption|(apply J1;assumption)|apply J2|apply J3|apply J4))
          replace fhB8 := hB8.facts
          go_wp2_with fail
          refine (cRg _).mono ?_
          rintro e w8 ⟨rfl, hb8⟩
          replace hB16 := hB16.below (show Below _ _ w8 by (repeat first|exact J0|assumption|(apply J1;assumption)|apply J2|apply J3|apply J4))
          replace fhB16 := hB16.facts
          replace hB46 := hB46.below (show Below _ _ w8 by (repeat first|exact J0|assumption|(apply J1;assumption)|apply J2|apply J3|apply J4))
          replace fhB46 := hB46.facts
          replace hB8 := hB8.below (show Below _ _ w8 by (repeat first|exact J0|assumption|(apply J1;assumption)|apply J2|apply J3|apply J4))
          replace fhB8 := hB8.facts
          go_wp2_with fail
          refine (cRC _ (bl_then hb8 (bl_then hb7 (bl_then hb6 HW.out)))).mono ?_
          rintro e w9 ⟨z1, z2, z3, z4, rfl, r1, r2, r3, r4, hb9⟩
          replace hB46 := hB46.below (show Below _ _ w9 by (repeat first|exact J0|assumption|(apply J1;assumption)|apply J2|apply J3|apply J4))
          replace fhB46 := hB46.facts
          replace hB8 := hB8.below (show Below _ _ w9 by (repeat first|exact J0|assumption|(apply J1;assumption)|apply J2|apply J3|apply J4))
          replace fhB8 := hB8.facts
          obtain ⟨B1, d1, rfl⟩ := r1.shape
          obtain ⟨B2, d2, rfl⟩ := r2.shape
          obtain ⟨B3, d3, rfl⟩ := r3.shape
          obtain ⟨B4, d4, rfl⟩ := r4.shape
          go_upto_region 11 with (refine wpList_store_blk hB8 rfl _ _ _ rfl rfl rfl (by rfl) (by kernel_rfl) (by kernel_rfl) ?_; intro w10 hZ10 hc10)
          have hx9 : Below w5.heap.size w5 w9 := bl_then hb9 (bl_then hb8 (bl_then hb7 hb6))
          have hx10 : Below w5.heap.size w5 w10 := chg_bl hx9 hc10 hg5
          have hB410 := hB46.chg hc10 (by simp; omega)
          clear hB8 hB46 hB16 fhB46 fhB16 fhB8 fB46 fB16
          go_wp2_with fail
          refine (cW _).mono ?_
          rintro e w11 ⟨rfl, hb11⟩
          replace hB410 := hB410.below (show Below _ _ w11 by (repeat first|exact J0|assumption|(apply J1;assumption)|apply J2|apply J3|apply J4))
          replace fhB410 := hB410.facts
          replace hZ10 := hZ10.below (show Below _ _ w11 by (repeat first|exact J0|assumption|(apply J1;assumption)|apply J2|apply J3|apply J4))
          replace fhZ10 := hZ10.facts
          go_upto_region 16 with (refine wpList_store_blk hZ10 rfl _ _ _ rfl rfl rfl (by rfl) (by kernel_rfl) (by kernel_rfl) ?_; intro w12 hZ12 hc12)
          simp only [Act.put]
          have hx12 : Below w5.heap.size w5 w12 := chg_bl (bl_then hb11 hx10) hc12 hg5
          have hB412 := hB410.chg hc12 (by simp; omega)
          have p1 := q1.below hx12
          have p2 := q2.below hx12
          have p3 := q3.below hx12
          have p4 := q4.below hx12
          have fB412 := hB412.facts
          have fZ12 := hZ12.facts
          have HW12 := Lib.hid (bl_then hx12 HW.out)
          clear hx12 q1 q2 q3 q4
          refine wp_region_ords [0, 1, 2, 3, 4, 5, 7, 8] [(6, false), (9, false), (10, false), (11, false), (12, true), (13, true), (15, true), (16, true), (14, false)] [17, 18, 19] (by kernel_rfl) (by kernel_rfl) (fun d _ _ _ _ h => by cases d <;> exact h) ?_
          simp only [List.map_cons, List.map_nil, List.getD_cons_zero, List.getD_cons_succ]
          repeat (go_big_quiet_step (fail))
          refine wpQuiet_nil ?_
          refine wpMid_run rfl (fun K hK => ?_)
          go_simp
          refine (cOw0 _ _ _ (p1.below (by (repeat first|exact J0|assumption|(apply J1;assumption)|apply J2|apply J3|apply J4))) (p2.below (by (repeat first|exact J0|assumption|(apply J1;assumption)|apply J2|apply J3|apply J4)))).mono ?_
          rintro e w20 ⟨u1, u2, rfl, oX, oY, hb20⟩
          refine hK _ _ (by (repeat first|exact J0|assumption|(apply J1;assumption)|apply J2|apply J3|apply J4)) ?_
          clear hK K
          have hB412_w20 := hB412.below (show Below _ _ w20 by (repeat first|exact J0|assumption|(apply J1;assumption)|apply J2|apply J3|apply J4))
          have fhB412_w20 := hB412_w20.facts
          have hZ12_w20 := hZ12.below (show Below _ _ w20 by (repeat first|exact J0|assumption|(apply J1;assumption)|apply J2|apply J3|apply J4))
          have fhZ12_w20 := hZ12_w20.facts
          refine wpMid_run rfl (fun K hK => ?_)
          go_simp
          refine (cS0 _ _ _ (oX.rd ec_len) (oY.rd ec_len) Sl.nil_ Sl.nil_).mono ?_
          rintro e w21 ⟨rfl, hb21⟩
          refine hK _ _ (by (repeat first|exact J0|assumption|(apply J1;assumption)|apply J2|apply J3|apply J4)) ?_
          clear hK K
          have hB412_w21 := hB412.below (show Below _ _ w21 by (repeat first|exact J0|assumption|(apply J1;assumption)|apply J2|apply J3|apply J4))
          have fhB412_w21 := hB412_w21.facts
          have hZ12_w21 := hZ12.below (show Below _ _ w21 by (repeat first|exact J0|assumption|(apply J1;assumption)|apply J2|apply J3|apply J4))
          have fhZ12_w21 := hZ12_w21.facts
          refine wpMid_run rfl (fun K hK => ?_)
          go_simp
          refine hK _ _ (by (repeat first|exact J0|assumption|(apply J1;assumption)|apply J2|apply J3|apply J4)) ?_
          clear hK K
          refine wpMid_run rfl (fun K hK => ?_)
          go_simp
          refine hK _ _ (by (repeat first|exact J0|assumption|(apply J1;assumption)|apply J2|apply J3|apply J4)) ?_
          clear hK K
          refine wpMid_take rfl ?_
          intro K hK
          go_big_quiet_op
          go_big_quiet_on
          refine wpMid_take rfl ?_
          intro K hK
          go_big_quiet_op
          go_big_quiet_on
          refine wpMid_take rfl ?_
          intro K hK
          go_big_quiet_op
          go_big_quiet_on
          refine wpMid_take rfl ?_
          intro K hK
          go_big_quiet_op
          go_big_quiet_on
          refine wpMid_run rfl (fun K hK => ?_)
          go_simp
          refine (cOw1 _ _ _ (p3.below (by (repeat first|exact J0|assumption|(apply J1;assumption)|apply J2|apply J3|apply J4))) (p4.below (by (repeat first|exact J0|assumption|(apply J1;assumption)|apply J2|apply J3|apply J4)))).mono ?_
          rintro e w22 ⟨u3, u4, rfl, oZ, oU, hb22⟩
          refine hK _ _ (by (repeat first|exact J0|assumption|(apply J1;assumption)|apply J2|apply J3|apply J4)) ?_
          clear hK K
          have hB412_w22 := hB412.below (show Below _ _ w22 by (repeat first|exact J0|assumption|(apply J1;assumption)|apply J2|apply J3|apply J4))
          have fhB412_w22 := hB412_w22.facts
          have hZ12_w22 := hZ12.below (show Below _ _ w22 by (repeat first|exact J0|assumption|(apply J1;assumption)|apply J2|apply J3|apply J4))
          have fhZ12_w22 := hZ12_w22.facts
          refine wpMid_nil ?_
          go_wp2_with fail
          refine (cS1 _ _ _ (oZ.rd ec_len) (oU.rd ec_len) Sl.nil_ Sl.nil_).mono ?_
          rintro e w23 ⟨rfl, hb23⟩
          go_wp2
          go_ret
          exact ⟨rfl, bl_then (by (repeat first|exact J0|assumption|(apply J1;assumption)|apply J2|apply J3|apply J4)) HW12.out⟩
        · obtain ⟨i, hi⟩ : ∃ n : Nat, splitI (outP p false) y = n := ⟨(splitI (outP p false) y).toNat, by omega⟩
          obtain ⟨k, hk⟩ : ∃ n : Nat, splitI (outP p true) y = n := ⟨(splitI (outP p true) y).toNat, by omega⟩
          have hq' : shortP p 40 = true := hq
          have hsL : shortS p.2.2.1 40 = true := by unfold shortP at hq'; rw [Bool.and_eq_true, Bool.and_eq_true, Bool.and_eq_true] at hq'; exact hq'.2.2.1
          have hsR : shortS p.2.2.2 40 = true := by unfold shortP at hq'; rw [Bool.and_eq_true, Bool.and_eq_true, Bool.and_eq_true] at hq'; exact hq'.2.2.2
          have n1 := shortS_len hsL hok.left
          have n2 := shortS_len hsR hok.right
          have tl := hok.left.ltrs
          have tr := hok.right.ltrs
          have cCt := fun (a b : Value) W' h1 h2 => apiCut_main (vL := a) (vR := b) p y W' (by omega) h1 h2 hz hrg i k hi hk
          have cRC := fun W' (hb : Below W.heap.size W W') => rCut_some p y W' (hL.below hb) (hR.below hb) hok i k hi hk (by omega) (by omega)
          have cW := fun W' => lwhn_any false 18 W'
          rw [show whenI false 18 = 0 from rfl] at cW
          have g1 := pln_good ((stpL p.2.2.1).take i) (fun x hx => tl x (List.mem_of_mem_take hx))
          have g2 := pln_good ((stpL p.2.2.2).take k) (fun x hx => tr x (List.mem_of_mem_take hx))
          have g3 := pln_good ((stpL p.2.2.1).drop i) (fun x hx => tl x (List.mem_of_mem_drop hx))
          have g4 := pln_good ((stpL p.2.2.2).drop k) (fun x hx => tr x (List.mem_of_mem_drop hx))
          have m1 := refO_len ((stpL p.2.2.1).take i)
          have m2 := refO_len ((stpL p.2.2.2).take k)
          have m3 := refO_len ((stpL p.2.2.1).drop i)
          have m4 := refO_len ((stpL p.2.2.2).drop k)
          rw [refO_end, List.length_take] at m1 m2
          rw [refO_end, List.length_drop] at m3 m4
          have cPA := fun (a b : Value) W' h1 h2 => rcheckPanel_any (vL := a) (vR := b) (cutA p i k) W' (by show p.1.length ≤ 1000000; omega) h1 h2 (fun e he => by have := (g1 e he).2.1; omega) (fun e he => by have := (g2 e he).2.1; omega)
          have cPB := fun (a b : Value) W' h1 h2 => rcheckPanel_any (vL := a) (vR := b) (cutB p i k) W' (by show p.1.length ≤ 1000000; omega) h1 h2 (fun e he => by have := (g3 e he).2.1; omega) (fun e he => by have := (g4 e he).2.1; omega)
          have cFi : ∀ A c' W, Rd ic 1 W A [panE (cutA p i k), panE (cutB p i k)] → Calls Tryz.prog 35 #[.slice A 2 c'] W (RV W (.int .i64 (firstI [panE (cutA p i k), panE (cutB p i k)]))) := fun A c' W hr => lfst_any [panE (cutA p i k), panE (cutB p i k)] A c' W (by simp [maxLen]) hr
          have kA : (cutA p i k).2.2.1.length ≤ 100000 ∧ (cutA p i k).2.2.2.length ≤ 100000 := ⟨by show (plnL _).length ≤ 100000; omega, by show (plnL _).length ≤ 100000; omega⟩
          have kB : (cutB p i k).2.2.1.length ≤ 100000 ∧ (cutB p i k).2.2.2.length ≤ 100000 := ⟨by show (plnL _).length ≤ 100000; omega, by show (plnL _).length ≤ 100000; omega⟩
          have hfi : firstI [panE (cutA p i k), panE (cutB p i k)] = 0 ↔ (panE (cutA p i k) = 0 ∧ panE (cutB p i k) = 0) := by
            rw [firstI_ab]
            split
            · rename_i h; exact ⟨fun q => ⟨h, q⟩, fun q => q.2⟩
            · rename_i h; exact ⟨fun q => absurd q h, fun q => absurd q.1 h⟩
          unfold RP2R at cRC
          clear g1 g2 g3 g4 m1 m2 m3 m4 n1 n2 tl tr hsL hsR hq'
          obtain ⟨H, hH⟩ : ∃ z, heightP p = z := ⟨_, rfl⟩
          rw [hrg] at cRg
          rw [hH] at cRg cH hhr
          rw [hz] at cRP
          obtain ⟨hh1, hh2⟩ := hhr
          obtain ⟨CA, hCA⟩ : ∃ z, cutA p i k = z := ⟨_, rfl⟩
          obtain ⟨CB, hCB⟩ : ∃ z, cutB p i k = z := ⟨_, rfl⟩
          rw [hCA] at cCt cRC cPA cFi kA hfi
          rw [hCB] at cCt cRC cPB cFi kB hfi
          obtain ⟨EA, hEA⟩ : ∃ z, panE CA = z := ⟨_, rfl⟩
          obtain ⟨EB, hEB⟩ : ∃ z, panE CB = z := ⟨_, rfl⟩
          rw [hEA] at cPA cFi cCt hfi
          rw [hEB] at cPB cFi cCt hfi
          obtain ⟨FE, hFE⟩ : ∃ z, firstI [EA, EB] = z := ⟨_, rfl⟩
          rw [hFE] at cFi cCt hfi
          by_cases hf : FE = 0
          · obtain ⟨ha, hb0⟩ := hfi.1 hf
            rw [if_pos ⟨ha, hb0⟩, if_pos ⟨ha, hb0⟩, hf] at cCt
            rw [hf] at cFi
            have cOw0 := fun (a b : Value) W' h1 h2 => rown_any (vL := a) (vR := b) CA W' h1 h2 kA.1 kA.2
            have cOw1 := fun (a b : Value) W' h1 h2 => rown_any (vL := a) (vR := b) CB W' h1 h2 kB.1 kB.2
            have cS0 := fun (a b c d : Value) W' hL hR k1 k2 => samePanel_any (vL := a) (vR := b) (uL := c) (uR := d) CA CA W' hL hR k1 k2
            have cS1 := fun (a b c d : Value) W' hL hR k1 k2 => samePanel_any (vL := a) (vR := b) (uL := c) (uR := d) CB CB W' hL hR k1 k2
            rw [eqP_refl] at cS0 cS1
            unfold ROW at cOw0 cOw1
            unfold RP2 at cCt
            simp only [sV] at cSh cG cRP cCt cH cRC cPA cPB cOw0 cOw1 cS0 cS1 ⊢
            clear ha hb0 hf hfi hFE hEA hEB hCA hCB kA kB hi hk hs hH hrg hz hok hq hwL hwR hL hR
            go_enter Tryz.func8, Tryz.ntmps8
            go_wp2_with fail
            refine (cAw _ (by (repeat first|exact J0|assumption|(apply J1;assumption)|apply J2|apply J3|apply J4))).mono ?_
            rintro e w1 ⟨rfl, hb1⟩
            replace hB1 := hB1.below (show Below _ _ w1 by (repeat first|exact J0|assumption|(apply J1;assumption)|apply J2|apply J3|apply J4))
            replace fhB1 := hB1.facts
            go_wp2_with fail
            refine (cSh _ (by (repeat first|exact J0|assumption|(apply J1;assumption)|apply J2|apply J3|apply J4))).mono ?_
            rintro e w2 ⟨rfl, hb2⟩
            replace hB1 := hB1.below (show Below _ _ w2 by (repeat first|exact J0|assumption|(apply J1;assumption)|apply J2|apply J3|apply J4))
            replace fhB1 := hB1.facts
            go_wp2_with fail
            refine (cG _ (by (repeat first|exact J0|assumption|(apply J1;assumption)|apply J2|apply J3|apply J4))).mono ?_
            rintro e w3 ⟨uL3, uR3, rfl, oL3, oR3, hb3⟩
            replace hB1 := hB1.below (show Below _ _ w3 by (repeat first|exact J0|assumption|(apply J1;assumption)|apply J2|apply J3|apply J4))
            replace fhB1 := hB1.facts
            go_wp2_with fail
            refine (cCt _ _ _ (oL3.rd ec_len) (oR3.rd ec_len)).mono ?_
            rintro e w4 ⟨x1, x2, x3, x4, rfl, o1, o2, o3, o4, hb4⟩
            replace hB1 := hB1.below (show Below _ _ w4 by (repeat first|exact J0|assumption|(apply J1;assumption)|apply J2|apply J3|apply J4))
            replace fhB1 := hB1.facts
            obtain ⟨A1, c1, rfl⟩ := o1.shape
            obtain ⟨A2, c2, rfl⟩ := o2.shape
            obtain ⟨A3, c3, rfl⟩ := o3.shape
            obtain ⟨A4, c4, rfl⟩ := o4.shape
            have hB4 := Blk.new w4 74 #[.string ⟨CA.1.toArray⟩, .int .i64 CA.2.1, .slice A1 CA.2.2.1.length c1, .slice A2 CA.2.2.2.length c2, .string ⟨CB.1.toArray⟩, .int .i64 CB.2.1, .slice A3 CB.2.2.1.length c3, .slice A4 CB.2.2.2.length c4]
            have fB4 := hB4.facts
            go_wp2_with fail
            refine (cRP _ (by (repeat first|exact J0|assumption|(apply J1;assumption)|apply J2|apply J3|apply J4))).mono ?_
            rintro e w5 ⟨rfl, hb5⟩
            replace hB1 := hB1.below (show Below _ _ w5 by (repeat first|exact J0|assumption|(apply J1;assumption)|apply J2|apply J3|apply J4))
            replace fhB1 := hB1.facts
            replace hB4 := hB4.below (show Below _ _ w5 by (repeat first|exact J0|assumption|(apply J1;assumption)|apply J2|apply J3|apply J4))
            replace fhB4 := hB4.facts
            have hB8 := Blk.new w5 77 #[.string ⟨#[]⟩, .int .i64 0, .slice none 0 0, .slice none 0 0, .string ⟨#[]⟩, .int .i64 0, .slice none 0 0, .slice none 0 0]
            have q1 := (o1.rd ec_len).below (show Below w4.heap.size w4 w5 by (repeat first|exact J0|assumption|(apply J1;assumption)|apply J2|apply J3|apply J4))
            have q2 := (o2.rd ec_len).below (show Below w4.heap.size w4 w5 by (repeat first|exact J0|assumption|(apply J1;assumption)|apply J2|apply J3|apply J4))
            have q3 := (o3.rd ec_len).below (show Below w4.heap.size w4 w5 by (repeat first|exact J0|assumption|(apply J1;assumption)|apply J2|apply J3|apply J4))
            have q4 := (o4.rd ec_len).below (show Below w4.heap.size w4 w5 by (repeat first|exact J0|assumption|(apply J1;assumption)|apply J2|apply J3|apply J4))
            have hW5 : Below W.heap.size W w5 := by (repeat first|exact J0|assumption|(apply J1;assumption)|apply J2|apply J3|apply J4)
            have HW := Lib.hid hW5
            clear hb1 hb2 hb3 hb4 hb5 oL3 oR3 o1 o2 o3 o4 hW5
            go_upto_region 6 with fail
            obtain ⟨x6, hx6⟩ : ∃ X, w5.alloc (.cells #[.string ⟨#[]⟩, .int .i64 0, .slice none 0 0, .slice none 0 0, .string ⟨#[]⟩, .int .i64 0, .slice none 0 0, .slice none 0 0] 77) = X := ⟨_, rfl⟩
            have hb6 : Below w5.heap.size w5 x6 := by rw [← hx6]; exact bl_alloc bl_refl _
            rw [hx6] at hB8 ⊢
            obtain ⟨g8, hg8⟩ : ∃ X, w5.heap.size = X := ⟨_, rfl⟩
            have hg8' : g8 < x6.heap.size := by rw [← hg8]; exact hB8.lt
            have hg5 : w5.heap.size ≤ g8 := Nat.le_of_eq hg8
            have hB46 := hB4.below hb6
            have hB16 := hB1.below hb6
            rw [hg8] at hB8 ⊢
            clear hx6 hg8 hB1 hB4 fB1 fB4
            have fB46 := hB46.facts
            have fB16 := hB16.facts
            go_wp2_with fail
            refine (cH _ (bl_then hb6 HW.out)).mono ?_
            rintro e w7 ⟨rfl, hb7⟩
            replace hB16 := hB16.below (show Below _ _ w7 by (repeat first|exact J0|assumption|(apply J1;assumption)|apply J2|apply J3|apply J4))
            replace fhB16 := hB16.facts
            replace hB46 := hB46.below (show Below _ _ w7 by (repeat first|exact J0|assumption|(apply J1;assumption)|apply J2|apply J3|apply J4))
            replace fhB46 := hB46.facts
            replace hB8 := hB8.below (show Below _ _ w7 by (repeat first|exact J0|assumption|(apply J1;assumption)|apply J2|apply J3|apply J4))
            replace fhB8 := hB8.facts
            go_wp2_with fail
            refine (cRg _).mono ?_
            rintro e w8 ⟨rfl, hb8⟩
            replace hB16 := hB16.below (show Below _ _ w8 by (repeat first|exact J0|assumption|(apply J1;assumption)|apply J2|apply J3|apply J4))
            replace fhB16 := hB16.facts
            replace hB46 := hB46.below (show Below _ _ w8 by (repeat first|exact J0|assumption|(apply J1;assumption)|apply J2|apply J3|apply J4))
            replace fhB46 := hB46.facts
            replace hB8 := hB8.below (show Below _ _ w8 by (repeat first|exact J0|assumption|(apply J1;assumption)|apply J2|apply J3|apply J4))
            replace fhB8 := hB8.facts
            go_wp2_with fail
            refine (cRC _ (bl_then hb8 (bl_then hb7 (bl_then hb6 HW.out)))).mono ?_
            rintro e w9 ⟨z1, z2, z3, z4, rfl, r1, r2, r3, r4, hb9⟩
            replace hB46 := hB46.below (show Below _ _ w9 by (repeat first|exact J0|assumption|(apply J1;assumption)|apply J2|apply J3|apply J4))
            replace fhB46 := hB46.facts
            replace hB8 := hB8.below (show Below _ _ w9 by (repeat first|exact J0|assumption|(apply J1;assumption)|apply J2|apply J3|apply J4))
            replace fhB8 := hB8.facts
            obtain ⟨B1, d1, rfl⟩ := r1.shape
            obtain ⟨B2, d2, rfl⟩ := r2.shape
            obtain ⟨B3, d3, rfl⟩ := r3.shape
            obtain ⟨B4, d4, rfl⟩ := r4.shape
            go_upto_region 11 with (refine wpList_store_blk hB8 rfl _ _ _ rfl rfl rfl (by rfl) (by kernel_rfl) (by kernel_rfl) ?_; intro w10 hZ10 hc10)
            have hx9 : Below w5.heap.size w5 w9 := bl_then hb9 (bl_then hb8 (bl_then hb7 hb6))
            have hx10 : Below w5.heap.size w5 w10 := chg_bl hx9 hc10 hg5
            have hB410 := hB46.chg hc10 (by simp; omega)
            have hB8c := hB8
            clear hB8 hB46 hB16 fhB46 fhB16 fhB8 fB46 fB16
            go_wp2_with fail
            refine (cW _).mono ?_
            rintro e w11 ⟨rfl, hb11⟩
            replace hB410 := hB410.below (show Below _ _ w11 by (repeat first|exact J0|assumption|(apply J1;assumption)|apply J2|apply J3|apply J4))
            replace fhB410 := hB410.facts
            replace hZ10 := hZ10.below (show Below _ _ w11 by (repeat first|exact J0|assumption|(apply J1;assumption)|apply J2|apply J3|apply J4))
            replace fhZ10 := hZ10.facts
            have hx11 : Below w5.heap.size w5 w11 := bl_then hb11 hx10
            have t1 := ((r1.pastC hB8c (by decide) hc10).rd ec_len).below hb11
            have t2 := ((r2.pastC hB8c (by decide) hc10).rd ec_len).below hb11
            have t3 := ((r3.pastC hB8c (by decide) hc10).rd ec_len).below hb11
            have t4 := ((r4.pastC hB8c (by decide) hc10).rd ec_len).below hb11
            clear r1 r2 r3 r4 hB8c hb11 hc10 hx9 hx10 hb9 hb8 hb7 hb6
            go_upto_region 13 with fail
            refine wp_region_ords [0, 1, 3, 4] [(2, false)] [5, 6, 7, 8] (by kernel_rfl) (by kernel_rfl) (fun d _ _ _ _ h => by cases d <;> exact h) ?_
            simp only [List.map_cons, List.map_nil, List.getD_cons_zero, List.getD_cons_succ]
            repeat (go_big_quiet_step (fail))
            refine wpQuiet_nil ?_
            refine wpMid_run rfl (fun K hK => ?_)
            go_simp
            refine (cPA _ _ _ (t1.below (by (repeat first|exact J0|assumption|(apply J1;assumption)|apply J2|apply J3|apply J4))) (t2.below (by (repeat first|exact J0|assumption|(apply J1;assumption)|apply J2|apply J3|apply J4)))).mono ?_
            rintro e w13 ⟨rfl, hb13⟩
            refine hK _ _ (by (repeat first|exact J0|assumption|(apply J1;assumption)|apply J2|apply J3|apply J4)) ?_
            clear hK K
            have hB410_w13 := hB410.below (show Below _ _ w13 by (repeat first|exact J0|assumption|(apply J1;assumption)|apply J2|apply J3|apply J4))
            have fhB410_w13 := hB410_w13.facts
            have hZ10_w13 := hZ10.below (show Below _ _ w13 by (repeat first|exact J0|assumption|(apply J1;assumption)|apply J2|apply J3|apply J4))
            have fhZ10_w13 := hZ10_w13.facts
            refine wpMid_nil ?_
            go_wp2_with fail
            refine (cPB _ _ _ (t3.below (by (repeat first|exact J0|assumption|(apply J1;assumption)|apply J2|apply J3|apply J4))) (t4.below (by (repeat first|exact J0|assumption|(apply J1;assumption)|apply J2|apply J3|apply J4)))).mono ?_
            rintro e w14 ⟨rfl, hb14⟩
            go_wp2_with fail
            refine (cFi _ _ _ (Rd.ints2 ?xa ?xb ?xc)).mono ?_
            case xa => go_simp
            case xb => go_simp
            case xc => go_simp
            rintro e w15 ⟨rfl, hb15⟩
            have hy15 : Below w11.heap.size w11 w15 := by (repeat first|exact J0|assumption|(apply J1;assumption)|apply J2|apply J3|apply J4)
            have hx15 : Below w5.heap.size w5 w15 := bl_then hy15 hx11
            have hB415 := hB410.below hy15
            have hZ15 := hZ10.below hy15
            have t1c := t1.below hy15
            have t2c := t2.below hy15
            have t3c := t3.below hy15
            have t4c := t4.below hy15
            clear hy15 hb13 hb14 hb15 hx11 hB410 hZ10 t1 t2 t3 t4
            go_upto_region 16 with fail
            have hx12 := hx15
            have hB412 := hB415
            have hZ12 := hZ15
            clear hx15 hB415 hZ15
            have p1 := q1.below hx12
            have p2 := q2.below hx12
            have p3 := q3.below hx12
            have p4 := q4.below hx12
            have fB412 := hB412.facts
            have fZ12 := hZ12.facts
            have HW12 := Lib.hid (bl_then hx12 HW.out)
            clear hx12 q1 q2 q3 q4
            refine wp_region_ords [0, 1, 2, 3, 4, 5, 7, 8] [(6, false), (9, false), (10, false), (11, false), (12, true), (13, true), (15, true), (16, true), (14, false)] [17, 18, 19] (by kernel_rfl) (by kernel_rfl) (fun d _ _ _ _ h => by cases d <;> exact h) ?_
            simp only [List.map_cons, List.map_nil, List.getD_cons_zero, List.getD_cons_succ]
            repeat (go_big_quiet_step (fail))
            refine wpQuiet_nil ?_
            refine wpMid_run rfl (fun K hK => ?_)
            go_simp
            refine (cOw0 _ _ _ (p1.below (by (repeat first|exact J0|assumption|(apply J1;assumption)|apply J2|apply J3|apply J4))) (p2.below (by (repeat first|exact J0|assumption|(apply J1;assumption)|apply J2|apply J3|apply J4)))).mono ?_
            rintro e w20 ⟨u1, u2, rfl, oX, oY, hb20⟩
            refine hK _ _ (by (repeat first|exact J0|assumption|(apply J1;assumption)|apply J2|apply J3|apply J4)) ?_
            clear hK K
            have hB412_w20 := hB412.below (show Below _ _ w20 by (repeat first|exact J0|assumption|(apply J1;assumption)|apply J2|apply J3|apply J4))
            have fhB412_w20 := hB412_w20.facts
            have hZ12_w20 := hZ12.below (show Below _ _ w20 by (repeat first|exact J0|assumption|(apply J1;assumption)|apply J2|apply J3|apply J4))
            have fhZ12_w20 := hZ12_w20.facts
            refine wpMid_run rfl (fun K hK => ?_)
            go_simp
            refine (cS0 _ _ _ _ _ (oX.rd ec_len) (oY.rd ec_len) (t1c.below (by (repeat first|exact J0|assumption|(apply J1;assumption)|apply J2|apply J3|apply J4))) (t2c.below (by (repeat first|exact J0|assumption|(apply J1;assumption)|apply J2|apply J3|apply J4)))).mono ?_
            rintro e w21 ⟨rfl, hb21⟩
            refine hK _ _ (by (repeat first|exact J0|assumption|(apply J1;assumption)|apply J2|apply J3|apply J4)) ?_
            clear hK K
            have hB412_w21 := hB412.below (show Below _ _ w21 by (repeat first|exact J0|assumption|(apply J1;assumption)|apply J2|apply J3|apply J4))
            have fhB412_w21 := hB412_w21.facts
            have hZ12_w21 := hZ12.below (show Below _ _ w21 by (repeat first|exact J0|assumption|(apply J1;assumption)|apply J2|apply J3|apply J4))
            have fhZ12_w21 := hZ12_w21.facts
            refine wpMid_run rfl (fun K hK => ?_)
            go_simp
            refine hK _ _ (by (repeat first|exact J0|assumption|(apply J1;assumption)|apply J2|apply J3|apply J4)) ?_
            clear hK K
            refine wpMid_run rfl (fun K hK => ?_)
            go_simp
            refine hK _ _ (by (repeat first|exact J0|assumption|(apply J1;assumption)|apply J2|apply J3|apply J4)) ?_
            clear hK K
            refine wpMid_take rfl ?_
            intro K hK
            go_big_quiet_op
            go_big_quiet_on
            refine wpMid_take rfl ?_
            intro K hK
            go_big_quiet_op
            go_big_quiet_on
            refine wpMid_take rfl ?_
            intro K hK
            go_big_quiet_op
            go_big_quiet_on
            refine wpMid_take rfl ?_
            intro K hK
            go_big_quiet_op
            go_big_quiet_on
            refine wpMid_run rfl (fun K hK => ?_)
            go_simp
            refine (cOw1 _ _ _ (p3.below (by (repeat first|exact J0|assumption|(apply J1;assumption)|apply J2|apply J3|apply J4))) (p4.below (by (repeat first|exact J0|assumption|(apply J1;assumption)|apply J2|apply J3|apply J4)))).mono ?_
            rintro e w22 ⟨u3, u4, rfl, oZ, oU, hb22⟩
            refine hK _ _ (by (repeat first|exact J0|assumption|(apply J1;assumption)|apply J2|apply J3|apply J4)) ?_
            clear hK K
            have hB412_w22 := hB412.below (show Below _ _ w22 by (repeat first|exact J0|assumption|(apply J1;assumption)|apply J2|apply J3|apply J4))
            have fhB412_w22 := hB412_w22.facts
            have hZ12_w22 := hZ12.below (show Below _ _ w22 by (repeat first|exact J0|assumption|(apply J1;assumption)|apply J2|apply J3|apply J4))
            have fhZ12_w22 := hZ12_w22.facts
            refine wpMid_nil ?_
            go_wp2_with fail
            refine (cS1 _ _ _ _ _ (oZ.rd ec_len) (oU.rd ec_len) (t3c.below (by (repeat first|exact J0|assumption|(apply J1;assumption)|apply J2|apply J3|apply J4))) (t4c.below (by (repeat first|exact J0|assumption|(apply J1;assumption)|apply J2|apply J3|apply J4)))).mono ?_
            rintro e w23 ⟨rfl, hb23⟩
            go_wp2
            go_ret
            exact ⟨rfl, bl_then (by (repeat first|exact J0|assumption|(apply J1;assumption)|apply J2|apply J3|apply J4)) HW12.out⟩
          · have hn : ¬ (EA = 0 ∧ EB = 0) := fun h => hf (hfi.2 h)
            rw [if_neg hn, if_neg hn] at cCt
            have tf : (FE != 0) = true := by simpa using hf
            have tEE : (FE == FE) = true := beq_self_eq_true FE
            obtain ⟨Q, hQ⟩ : ∃ z, panZ = z := ⟨_, rfl⟩
            have cOw0 := fun (a b : Value) W' h1 h2 => rown_any (vL := a) (vR := b) Q W' h1 h2 (by rw [← hQ]; decide) (by rw [← hQ]; decide)
            have cS0 := fun (a b : Value) W' hL hR k1 k2 => samePanel_any (vL := a) (vR := b) (uL := .slice none 0 0) (uR := .slice none 0 0) Q panZ W' hL hR k1 k2
            rw [show eqP Q panZ = true by rw [← hQ]; exact eqP_refl _] at cS0
            have cOw1 := cOw0
            have cS1 := cS0
            unfold ROW at cOw0 cOw1
            unfold RP2 at cCt
            rw [hQ] at cCt
            simp only [sV] at cSh cG cRP cCt cH cRC cPA cPB cOw0 cOw1 cS0 cS1 ⊢
            clear hn hf hfi hFE hEA hEB hCA hCB kA kB hi hk hs hH hrg hz hok hq hwL hwR hL hR hQ
            go_enter Tryz.func8, Tryz.ntmps8
            go_wp2_with fail
            refine (cAw _ (by (repeat first|exact J0|assumption|(apply J1;assumption)|apply J2|apply J3|apply J4))).mono ?_
            rintro e w1 ⟨rfl, hb1⟩
            replace hB1 := hB1.below (show Below _ _ w1 by (repeat first|exact J0|assumption|(apply J1;assumption)|apply J2|apply J3|apply J4))
            replace fhB1 := hB1.facts
            go_wp2_with fail
            refine (cSh _ (by (repeat first|exact J0|assumption|(apply J1;assumption)|apply J2|apply J3|apply J4))).mono ?_
            rintro e w2 ⟨rfl, hb2⟩
            replace hB1 := hB1.below (show Below _ _ w2 by (repeat first|exact J0|assumption|(apply J1;assumption)|apply J2|apply J3|apply J4))
            replace fhB1 := hB1.facts
            go_wp2_with fail
            refine (cG _ (by (repeat first|exact J0|assumption|(apply J1;assumption)|apply J2|apply J3|apply J4))).mono ?_
            rintro e w3 ⟨uL3, uR3, rfl, oL3, oR3, hb3⟩
            replace hB1 := hB1.below (show Below _ _ w3 by (repeat first|exact J0|assumption|(apply J1;assumption)|apply J2|apply J3|apply J4))
            replace fhB1 := hB1.facts
            go_wp2_with fail
            refine (cCt _ _ _ (oL3.rd ec_len) (oR3.rd ec_len)).mono ?_
            rintro e w4 ⟨x1, x2, x3, x4, rfl, o1, o2, o3, o4, hb4⟩
            replace hB1 := hB1.below (show Below _ _ w4 by (repeat first|exact J0|assumption|(apply J1;assumption)|apply J2|apply J3|apply J4))
            replace fhB1 := hB1.facts
            obtain ⟨A1, c1, rfl⟩ := o1.shape
            obtain ⟨A2, c2, rfl⟩ := o2.shape
            obtain ⟨A3, c3, rfl⟩ := o3.shape
            obtain ⟨A4, c4, rfl⟩ := o4.shape
            have hB4 := Blk.new w4 74 #[.string ⟨Q.1.toArray⟩, .int .i64 Q.2.1, .slice A1 Q.2.2.1.length c1, .slice A2 Q.2.2.2.length c2, .string ⟨Q.1.toArray⟩, .int .i64 Q.2.1, .slice A3 Q.2.2.1.length c3, .slice A4 Q.2.2.2.length c4]
            have fB4 := hB4.facts
            go_wp2_with fail
            refine (cRP _ (by (repeat first|exact J0|assumption|(apply J1;assumption)|apply J2|apply J3|apply J4))).mono ?_
            rintro e w5 ⟨rfl, hb5⟩
            replace hB1 := hB1.below (show Below _ _ w5 by (repeat first|exact J0|assumption|(apply J1;assumption)|apply J2|apply J3|apply J4))
            replace fhB1 := hB1.facts
            replace hB4 := hB4.below (show Below _ _ w5 by (repeat first|exact J0|assumption|(apply J1;assumption)|apply J2|apply J3|apply J4))
            replace fhB4 := hB4.facts
            have hB8 := Blk.new w5 77 #[.string ⟨#[]⟩, .int .i64 0, .slice none 0 0, .slice none 0 0, .string ⟨#[]⟩, .int .i64 0, .slice none 0 0, .slice none 0 0]
            have q1 := (o1.rd ec_len).below (show Below w4.heap.size w4 w5 by (repeat first|exact J0|assumption|(apply J1;assumption)|apply J2|apply J3|apply J4))
            have q2 := (o2.rd ec_len).below (show Below w4.heap.size w4 w5 by (repeat first|exact J0|assumption|(apply J1;assumption)|apply J2|apply J3|apply J4))
            have q3 := (o3.rd ec_len).below (show Below w4.heap.size w4 w5 by (repeat first|exact J0|assumption|(apply J1;assumption)|apply J2|apply J3|apply J4))
            have q4 := (o4.rd ec_len).below (show Below w4.heap.size w4 w5 by (repeat first|exact J0|assumption|(apply J1;assumption)|apply J2|apply J3|apply J4))
            have hW5 : Below W.heap.size W w5 := by (repeat first|exact J0|assumption|(apply J1;assumption)|apply J2|apply J3|apply J4)
            have HW := Lib.hid hW5
            clear hb1 hb2 hb3 hb4 hb5 oL3 oR3 o1 o2 o3 o4 hW5
            go_upto_region 6 with fail
            obtain ⟨x6, hx6⟩ : ∃ X, w5.alloc (.cells #[.string ⟨#[]⟩, .int .i64 0, .slice none 0 0, .slice none 0 0, .string ⟨#[]⟩, .int .i64 0, .slice none 0 0, .slice none 0 0] 77) = X := ⟨_, rfl⟩
            have hb6 : Below w5.heap.size w5 x6 := by rw [← hx6]; exact bl_alloc bl_refl _
            rw [hx6] at hB8 ⊢
            obtain ⟨g8, hg8⟩ : ∃ X, w5.heap.size = X := ⟨_, rfl⟩
            have hg8' : g8 < x6.heap.size := by rw [← hg8]; exact hB8.lt
            have hg5 : w5.heap.size ≤ g8 := Nat.le_of_eq hg8
            have hB46 := hB4.below hb6
            have hB16 := hB1.below hb6
            rw [hg8] at hB8 ⊢
            clear hx6 hg8 hB1 hB4 fB1 fB4
            have fB46 := hB46.facts
            have fB16 := hB16.facts
            go_wp2_with fail
            refine (cH _ (bl_then hb6 HW.out)).mono ?_
            rintro e w7 ⟨rfl, hb7⟩
            replace hB16 := hB16.below (show Below _ _ w7 by (repeat first|exact J0|assumption|(apply J1;assumption)|apply J2|apply J3|apply J4))
            replace fhB16 := hB16.facts
            replace hB46 := hB46.below (show Below _ _ w7 by (repeat first|exact J0|assumption|(apply J1;assumption)|apply J2|apply J3|apply J4))
            replace fhB46 := hB46.facts
            replace hB8 := hB8.below (show Below _ _ w7 by (repeat first|exact J0|assumption|(apply J1;assumption)|apply J2|apply J3|apply J4))
            replace fhB8 := hB8.facts
            go_wp2_with fail
            refine (cRg _).mono ?_
            rintro e w8 ⟨rfl, hb8⟩
            replace hB16 := hB16.below (show Below _ _ w8 by (repeat first|exact J0|assumption|(apply J1;assumption)|apply J2|apply J3|apply J4))
            replace fhB16 := hB16.facts
            replace hB46 := hB46.below (show Below _ _ w8 by (repeat first|exact J0|assumption|(apply J1;assumption)|apply J2|apply J3|apply J4))
            replace fhB46 := hB46.facts
            replace hB8 := hB8.below (show Below _ _ w8 by (repeat first|exact J0|assumption|(apply J1;assumption)|apply J2|apply J3|apply J4))
            replace fhB8 := hB8.facts
            go_wp2_with fail
            refine (cRC _ (bl_then hb8 (bl_then hb7 (bl_then hb6 HW.out)))).mono ?_
            rintro e w9 ⟨z1, z2, z3, z4, rfl, r1, r2, r3, r4, hb9⟩
            replace hB46 := hB46.below (show Below _ _ w9 by (repeat first|exact J0|assumption|(apply J1;assumption)|apply J2|apply J3|apply J4))
            replace fhB46 := hB46.facts
            replace hB8 := hB8.below (show Below _ _ w9 by (repeat first|exact J0|assumption|(apply J1;assumption)|apply J2|apply J3|apply J4))
            replace fhB8 := hB8.facts
            obtain ⟨B1, d1, rfl⟩ := r1.shape
            obtain ⟨B2, d2, rfl⟩ := r2.shape
            obtain ⟨B3, d3, rfl⟩ := r3.shape
            obtain ⟨B4, d4, rfl⟩ := r4.shape
            go_upto_region 11 with (refine wpList_store_blk hB8 rfl _ _ _ rfl rfl rfl (by rfl) (by kernel_rfl) (by kernel_rfl) ?_; intro w10 hZ10 hc10)
            have hx9 : Below w5.heap.size w5 w9 := bl_then hb9 (bl_then hb8 (bl_then hb7 hb6))
            have hx10 : Below w5.heap.size w5 w10 := chg_bl hx9 hc10 hg5
            have hB410 := hB46.chg hc10 (by simp; omega)
            have hB8c := hB8
            clear hB8 hB46 hB16 fhB46 fhB16 fhB8 fB46 fB16
            go_wp2_with fail
            refine (cW _).mono ?_
            rintro e w11 ⟨rfl, hb11⟩
            replace hB410 := hB410.below (show Below _ _ w11 by (repeat first|exact J0|assumption|(apply J1;assumption)|apply J2|apply J3|apply J4))
            replace fhB410 := hB410.facts
            replace hZ10 := hZ10.below (show Below _ _ w11 by (repeat first|exact J0|assumption|(apply J1;assumption)|apply J2|apply J3|apply J4))
            replace fhZ10 := hZ10.facts
            have hx11 : Below w5.heap.size w5 w11 := bl_then hb11 hx10
            have t1 := ((r1.pastC hB8c (by decide) hc10).rd ec_len).below hb11
            have t2 := ((r2.pastC hB8c (by decide) hc10).rd ec_len).below hb11
            have t3 := ((r3.pastC hB8c (by decide) hc10).rd ec_len).below hb11
            have t4 := ((r4.pastC hB8c (by decide) hc10).rd ec_len).below hb11
            clear r1 r2 r3 r4 hB8c hb11 hc10 hx9 hx10 hb9 hb8 hb7 hb6
            go_upto_region 13 with fail
            refine wp_region_ords [0, 1, 3, 4] [(2, false)] [5, 6, 7, 8] (by kernel_rfl) (by kernel_rfl) (fun d _ _ _ _ h => by cases d <;> exact h) ?_
            simp only [List.map_cons, List.map_nil, List.getD_cons_zero, List.getD_cons_succ]
            repeat (go_big_quiet_step (fail))
            refine wpQuiet_nil ?_
            refine wpMid_run rfl (fun K hK => ?_)
            go_simp
            refine (cPA _ _ _ (t1.below (by (repeat first|exact J0|assumption|(apply J1;assumption)|apply J2|apply J3|apply J4))) (t2.below (by (repeat first|exact J0|assumption|(apply J1;assumption)|apply J2|apply J3|apply J4)))).mono ?_
            rintro e w13 ⟨rfl, hb13⟩
            refine hK _ _ (by (repeat first|exact J0|assumption|(apply J1;assumption)|apply J2|apply J3|apply J4)) ?_
            clear hK K
            have hB410_w13 := hB410.below (show Below _ _ w13 by (repeat first|exact J0|assumption|(apply J1;assumption)|apply J2|apply J3|apply J4))
            have fhB410_w13 := hB410_w13.facts
            have hZ10_w13 := hZ10.below (show Below _ _ w13 by (repeat first|exact J0|assumption|(apply J1;assumption)|apply J2|apply J3|apply J4))
            have fhZ10_w13 := hZ10_w13.facts
            refine wpMid_nil ?_
            go_wp2_with fail
            refine (cPB _ _ _ (t3.below (by (repeat first|exact J0|assumption|(apply J1;assumption)|apply J2|apply J3|apply J4))) (t4.below (by (repeat first|exact J0|assumption|(apply J1;assumption)|apply J2|apply J3|apply J4)))).mono ?_
            rintro e w14 ⟨rfl, hb14⟩
            go_wp2_with fail
            refine (cFi _ _ _ (Rd.ints2 ?xa ?xb ?xc)).mono ?_
            case xa => go_simp
            case xb => go_simp
            case xc => go_simp
            rintro e w15 ⟨rfl, hb15⟩
            have hy15 : Below w11.heap.size w11 w15 := by (repeat first|exact J0|assumption|(apply J1;assumption)|apply J2|apply J3|apply J4)
            have hx15 : Below w5.heap.size w5 w15 := bl_then hy15 hx11
            have hB415 := hB410.below hy15
            have hZ15 := hZ10.below hy15
            have t1c := t1.below hy15
            have t2c := t2.below hy15
            have t3c := t3.below hy15
            have t4c := t4.below hy15
            clear hy15 hb13 hb14 hb15 hx11 hB410 hZ10 t1 t2 t3 t4
            go_upto_region 16 with (refine wpList_store_blk hZ15 rfl _ _ _ rfl rfl rfl (by rfl) (by kernel_rfl) (by kernel_rfl) ?_; intro w12 hZ12 hc12)
            simp only [Act.put]
            have hx12 : Below w5.heap.size w5 w12 := chg_bl hx15 hc12 hg5
            have hB412 := hB415.chg hc12 (by simp; omega)
            have p1 := q1.below hx12
            have p2 := q2.below hx12
            have p3 := q3.below hx12
            have p4 := q4.below hx12
            have fB412 := hB412.facts
            have fZ12 := hZ12.facts
            have HW12 := Lib.hid (bl_then hx12 HW.out)
            clear hx12 q1 q2 q3 q4
            refine wp_region_ords [0, 1, 2, 3, 4, 5, 7, 8] [(6, false), (9, false), (10, false), (11, false), (12, true), (13, true), (15, true), (16, true), (14, false)] [17, 18, 19] (by kernel_rfl) (by kernel_rfl) (fun d _ _ _ _ h => by cases d <;> exact h) ?_
            simp only [List.map_cons, List.map_nil, List.getD_cons_zero, List.getD_cons_succ]
            repeat (go_big_quiet_step (fail))
            refine wpQuiet_nil ?_
            refine wpMid_run rfl (fun K hK => ?_)
            go_simp
            refine (cOw0 _ _ _ (p1.below (by (repeat first|exact J0|assumption|(apply J1;assumption)|apply J2|apply J3|apply J4))) (p2.below (by (repeat first|exact J0|assumption|(apply J1;assumption)|apply J2|apply J3|apply J4)))).mono ?_
            rintro e w20 ⟨u1, u2, rfl, oX, oY, hb20⟩
            refine hK _ _ (by (repeat first|exact J0|assumption|(apply J1;assumption)|apply J2|apply J3|apply J4)) ?_
            clear hK K
            have hB412_w20 := hB412.below (show Below _ _ w20 by (repeat first|exact J0|assumption|(apply J1;assumption)|apply J2|apply J3|apply J4))
            have fhB412_w20 := hB412_w20.facts
            have hZ12_w20 := hZ12.below (show Below _ _ w20 by (repeat first|exact J0|assumption|(apply J1;assumption)|apply J2|apply J3|apply J4))
            have fhZ12_w20 := hZ12_w20.facts
            refine wpMid_run rfl (fun K hK => ?_)
            go_simp
            refine (cS0 _ _ _ (oX.rd ec_len) (oY.rd ec_len) Sl.nil_ Sl.nil_).mono ?_
            rintro e w21 ⟨rfl, hb21⟩
            refine hK _ _ (by (repeat first|exact J0|assumption|(apply J1;assumption)|apply J2|apply J3|apply J4)) ?_
            clear hK K
            have hB412_w21 := hB412.below (show Below _ _ w21 by (repeat first|exact J0|assumption|(apply J1;assumption)|apply J2|apply J3|apply J4))
            have fhB412_w21 := hB412_w21.facts
            have hZ12_w21 := hZ12.below (show Below _ _ w21 by (repeat first|exact J0|assumption|(apply J1;assumption)|apply J2|apply J3|apply J4))
            have fhZ12_w21 := hZ12_w21.facts
            refine wpMid_run rfl (fun K hK => ?_)
            go_simp
            refine hK _ _ (by (repeat first|exact J0|assumption|(apply J1;assumption)|apply J2|apply J3|apply J4)) ?_
            clear hK K
            refine wpMid_run rfl (fun K hK => ?_)
            go_simp
            refine hK _ _ (by (repeat first|exact J0|assumption|(apply J1;assumption)|apply J2|apply J3|apply J4)) ?_
            clear hK K
            refine wpMid_take rfl ?_
            intro K hK
            go_big_quiet_op
            go_big_quiet_on
            refine wpMid_take rfl ?_
            intro K hK
            go_big_quiet_op
            go_big_quiet_on
            refine wpMid_take rfl ?_
            intro K hK
            go_big_quiet_op
            go_big_quiet_on
            refine wpMid_take rfl ?_
            intro K hK
            go_big_quiet_op
            go_big_quiet_on
            refine wpMid_run rfl (fun K hK => ?_)
            go_simp
            refine (cOw1 _ _ _ (p3.below (by (repeat first|exact J0|assumption|(apply J1;assumption)|apply J2|apply J3|apply J4))) (p4.below (by (repeat first|exact J0|assumption|(apply J1;assumption)|apply J2|apply J3|apply J4)))).mono ?_
            rintro e w22 ⟨u3, u4, rfl, oZ, oU, hb22⟩
            refine hK _ _ (by (repeat first|exact J0|assumption|(apply J1;assumption)|apply J2|apply J3|apply J4)) ?_
            clear hK K
            have hB412_w22 := hB412.below (show Below _ _ w22 by (repeat first|exact J0|assumption|(apply J1;assumption)|apply J2|apply J3|apply J4))
            have fhB412_w22 := hB412_w22.facts
            have hZ12_w22 := hZ12.below (show Below _ _ w22 by (repeat first|exact J0|assumption|(apply J1;assumption)|apply J2|apply J3|apply J4))
            have fhZ12_w22 := hZ12_w22.facts
            refine wpMid_nil ?_
            go_wp2_with fail
            refine (cS1 _ _ _ (oZ.rd ec_len) (oU.rd ec_len) Sl.nil_ Sl.nil_).mono ?_
            rintro e w23 ⟨rfl, hb23⟩
            go_wp2
            go_ret
            exact ⟨rfl, bl_then (by (repeat first|exact J0|assumption|(apply J1;assumption)|apply J2|apply J3|apply J4)) HW12.out⟩
      · have cCt := fun (a b : Value) W' h1 h2 => apiCut_range (vL := a) (vR := b) p y W' (by omega) h1 h2 hz hrg
        obtain ⟨Q, hQ⟩ : ∃ z, panZ = z := ⟨_, rfl⟩
        have cOw0 := fun (a b : Value) W' h1 h2 => rown_any (vL := a) (vR := b) Q W' h1 h2 (by rw [← hQ]; decide) (by rw [← hQ]; decide)
        have cS0 := fun (a b : Value) W' hL hR k1 k2 => samePanel_any (vL := a) (vR := b) (uL := .slice none 0 0) (uR := .slice none 0 0) Q panZ W' hL hR k1 k2
        rw [show eqP Q panZ = true by rw [← hQ]; exact eqP_refl _] at cS0
        have cOw1 := cOw0
        have cS1 := cS0
        unfold ROW at cOw0 cOw1
        unfold RP2 at cCt
        rw [hQ] at cCt
        obtain ⟨E, hE⟩ : ∃ z, withinI y 1 (heightP p - 1) = z := ⟨_, rfl⟩
        obtain ⟨H, hH⟩ : ∃ z, heightP p = z := ⟨_, rfl⟩
        rw [hE] at cRg cCt hrg
        rw [hH] at cRg cH hhr
        rw [hz] at cRP
        have tz : (E == 0) = false := beq_false_of_ne hrg
        have tz2 : (E != 0) = true := by simpa using hrg
        have tEE : (E == E) = true := beq_self_eq_true E
        obtain ⟨hh1, hh2⟩ := hhr
        simp only [sV] at cSh cG cRP cCt cH cOw0 cOw1 cS0 cS1 ⊢
        clear hE hH hrg hz hok hq hwL hwR hL hR hQ
        go_enter Tryz.func8, Tryz.ntmps8
        go_wp2_with fail
        refine (cAw _ (by (repeat first|exact J0|assumption|(apply J1;assumption)|apply J2|apply J3|apply J4))).mono ?_
        rintro e w1 ⟨rfl, hb1⟩
        replace hB1 := hB1.below (show Below _ _ w1 by (repeat first|exact J0|assumption|(apply J1;assumption)|apply J2|apply J3|apply J4))
        replace fhB1 := hB1.facts
        go_wp2_with fail
        refine (cSh _ (by (repeat first|exact J0|assumption|(apply J1;assumption)|apply J2|apply J3|apply J4))).mono ?_
        rintro e w2 ⟨rfl, hb2⟩
        replace hB1 := hB1.below (show Below _ _ w2 by (repeat first|exact J0|assumption|(apply J1;assumption)|apply J2|apply J3|apply J4))
        replace fhB1 := hB1.facts
        go_wp2_with fail
        refine (cG _ (by (repeat first|exact J0|assumption|(apply J1;assumption)|apply J2|apply J3|apply J4))).mono ?_
        rintro e w3 ⟨uL3, uR3, rfl, oL3, oR3, hb3⟩
        replace hB1 := hB1.below (show Below _ _ w3 by (repeat first|exact J0|assumption|(apply J1;assumption)|apply J2|apply J3|apply J4))
        replace fhB1 := hB1.facts
        go_wp2_with fail
        refine (cCt _ _ _ (oL3.rd ec_len) (oR3.rd ec_len)).mono ?_
        rintro e w4 ⟨x1, x2, x3, x4, rfl, o1, o2, o3, o4, hb4⟩
        replace hB1 := hB1.below (show Below _ _ w4 by (repeat first|exact J0|assumption|(apply J1;assumption)|apply J2|apply J3|apply J4))
        replace fhB1 := hB1.facts
        obtain ⟨A1, c1, rfl⟩ := o1.shape
        obtain ⟨A2, c2, rfl⟩ := o2.shape
        obtain ⟨A3, c3, rfl⟩ := o3.shape
        obtain ⟨A4, c4, rfl⟩ := o4.shape
        have hB4 := Blk.new w4 74 #[.string ⟨Q.1.toArray⟩, .int .i64 Q.2.1, .slice A1 Q.2.2.1.length c1, .slice A2 Q.2.2.2.length c2, .string ⟨Q.1.toArray⟩, .int .i64 Q.2.1, .slice A3 Q.2.2.1.length c3, .slice A4 Q.2.2.2.length c4]
        have fB4 := hB4.facts
        go_wp2_with fail
        refine (cRP _ (by (repeat first|exact J0|assumption|(apply J1;assumption)|apply J2|apply J3|apply J4))).mono ?_
        rintro e w5 ⟨rfl, hb5⟩
        replace hB1 := hB1.below (show Below _ _ w5 by (repeat first|exact J0|assumption|(apply J1;assumption)|apply J2|apply J3|apply J4))
        replace fhB1 := hB1.facts
        replace hB4 := hB4.below (show Below _ _ w5 by (repeat first|exact J0|assumption|(apply J1;assumption)|apply J2|apply J3|apply J4))
        replace fhB4 := hB4.facts
        have hB8 := Blk.new w5 77 #[.string ⟨#[]⟩, .int .i64 0, .slice none 0 0, .slice none 0 0, .string ⟨#[]⟩, .int .i64 0, .slice none 0 0, .slice none 0 0]
        have q1 := (o1.rd ec_len).below (show Below w4.heap.size w4 w5 by (repeat first|exact J0|assumption|(apply J1;assumption)|apply J2|apply J3|apply J4))
        have q2 := (o2.rd ec_len).below (show Below w4.heap.size w4 w5 by (repeat first|exact J0|assumption|(apply J1;assumption)|apply J2|apply J3|apply J4))
        have q3 := (o3.rd ec_len).below (show Below w4.heap.size w4 w5 by (repeat first|exact J0|assumption|(apply J1;assumption)|apply J2|apply J3|apply J4))
        have q4 := (o4.rd ec_len).below (show Below w4.heap.size w4 w5 by (repeat first|exact J0|assumption|(apply J1;assumption)|apply J2|apply J3|apply J4))
        have hW5 : Below W.heap.size W w5 := by (repeat first|exact J0|assumption|(apply J1;assumption)|apply J2|apply J3|apply J4)
        have HW := Lib.hid hW5
        clear hb1 hb2 hb3 hb4 hb5 oL3 oR3 o1 o2 o3 o4 hW5
        go_upto_region 6 with fail
        obtain ⟨x6, hx6⟩ : ∃ X, w5.alloc (.cells #[.string ⟨#[]⟩, .int .i64 0, .slice none 0 0, .slice none 0 0, .string ⟨#[]⟩, .int .i64 0, .slice none 0 0, .slice none 0 0] 77) = X := ⟨_, rfl⟩
        have hb6 : Below w5.heap.size w5 x6 := by rw [← hx6]; exact bl_alloc bl_refl _
        rw [hx6] at hB8 ⊢
        obtain ⟨g8, hg8⟩ : ∃ X, w5.heap.size = X := ⟨_, rfl⟩
        have hg8' : g8 < x6.heap.size := by rw [← hg8]; exact hB8.lt
        have hg5 : w5.heap.size ≤ g8 := Nat.le_of_eq hg8
        have hB46 := hB4.below hb6
        have hB16 := hB1.below hb6
        rw [hg8] at hB8 ⊢
        clear hx6 hg8 hB1 hB4 fB1 fB4
        have fB46 := hB46.facts
        have fB16 := hB16.facts
        go_wp2_with fail
        refine (cH _ (bl_then hb6 HW.out)).mono ?_
        rintro e w7 ⟨rfl, hb7⟩
        replace hB16 := hB16.below (show Below _ _ w7 by (repeat first|exact J0|assumption|(apply J1;assumption)|apply J2|apply J3|apply J4))
        replace fhB16 := hB16.facts
        replace hB46 := hB46.below (show Below _ _ w7 by (repeat first|exact J0|assumption|(apply J1;assumption)|apply J2|apply J3|apply J4))
        replace fhB46 := hB46.facts
        replace hB8 := hB8.below (show Below _ _ w7 by (repeat first|exact J0|assumption|(apply J1;assumption)|apply J2|apply J3|apply J4))
        replace fhB8 := hB8.facts
        go_wp2_with fail
        refine (cRg _).mono ?_
        rintro e w8 ⟨rfl, hb8⟩
        replace hB16 := hB16.below (show Below _ _ w8 by (repeat first|exact J0|assumption|(apply J1;assumption)|apply J2|apply J3|apply J4))
        replace fhB16 := hB16.facts
        replace hB46 := hB46.below (show Below _ _ w8 by (repeat first|exact J0|assumption|(apply J1;assumption)|apply J2|apply J3|apply J4))
        replace fhB46 := hB46.facts
        replace hB8 := hB8.below (show Below _ _ w8 by (repeat first|exact J0|assumption|(apply J1;assumption)|apply J2|apply J3|apply J4))
        replace fhB8 := hB8.facts
        go_upto_region 16 with (refine wpList_store_blk hB8 rfl _ _ _ rfl rfl rfl (by rfl) (by kernel_rfl) (by kernel_rfl) ?_; intro w12 hZ12 hc12)
        simp only [Act.put]
        have hx12 : Below w5.heap.size w5 w12 := chg_bl (bl_then hb8 (bl_then hb7 hb6)) hc12 hg5
        have hB412 := hB46.chg hc12 (by simp; omega)
        have p1 := q1.below hx12
        have p2 := q2.below hx12
        have p3 := q3.below hx12
        have p4 := q4.below hx12
        have fB412 := hB412.facts
        have fZ12 := hZ12.facts
        have HW12 := Lib.hid (bl_then hx12 HW.out)
        clear hx12 q1 q2 q3 q4
        refine wp_region_ords [0, 1, 2, 3, 4, 5, 7, 8] [(6, false), (9, false), (10, false), (11, false), (12, true), (13, true), (15, true), (16, true), (14, false)] [17, 18, 19] (by kernel_rfl) (by kernel_rfl) (fun d _ _ _ _ h => by cases d <;> exact h) ?_
        simp only [List.map_cons, List.map_nil, List.getD_cons_zero, List.getD_cons_succ]
        repeat (go_big_quiet_step (fail))
        refine wpQuiet_nil ?_
        refine wpMid_run rfl (fun K hK => ?_)
        go_simp
        refine (cOw0 _ _ _ (p1.below (by (repeat first|exact J0|assumption|(apply J1;assumption)|apply J2|apply J3|apply J4))) (p2.below (by (repeat first|exact J0|assumption|(apply J1;assumption)|apply J2|apply J3|apply J4)))).mono ?_
        rintro e w20 ⟨u1, u2, rfl, oX, oY, hb20⟩
        refine hK _ _ (by (repeat first|exact J0|assumption|(apply J1;assumption)|apply J2|apply J3|apply J4)) ?_
        clear hK K
        have hB412_w20 := hB412.below (show Below _ _ w20 by (repeat first|exact J0|assumption|(apply J1;assumption)|apply J2|apply J3|apply J4))
        have fhB412_w20 := hB412_w20.facts
        have hZ12_w20 := hZ12.below (show Below _ _ w20 by (repeat first|exact J0|assumption|(apply J1;assumption)|apply J2|apply J3|apply J4))
        have fhZ12_w20 := hZ12_w20.facts
        refine wpMid_run rfl (fun K hK => ?_)
        go_simp
        refine (cS0 _ _ _ (oX.rd ec_len) (oY.rd ec_len) Sl.nil_ Sl.nil_).mono ?_
        rintro e w21 ⟨rfl, hb21⟩
        refine hK _ _ (by (repeat first|exact J0|assumption|(apply J1;assumption)|apply J2|apply J3|apply J4)) ?_
        clear hK K
        have hB412_w21 := hB412.below (show Below _ _ w21 by (repeat first|exact J0|assumption|(apply J1;assumption)|apply J2|apply J3|apply J4))
        have fhB412_w21 := hB412_w21.facts
        have hZ12_w21 := hZ12.below (show Below _ _ w21 by (repeat first|exact J0|assumption|(apply J1;assumption)|apply J2|apply J3|apply J4))
        have fhZ12_w21 := hZ12_w21.facts
        refine wpMid_run rfl (fun K hK => ?_)
        go_simp
        refine hK _ _ (by (repeat first|exact J0|assumption|(apply J1;assumption)|apply J2|apply J3|apply J4)) ?_
        clear hK K
        refine wpMid_run rfl (fun K hK => ?_)
        go_simp
        refine hK _ _ (by (repeat first|exact J0|assumption|(apply J1;assumption)|apply J2|apply J3|apply J4)) ?_
        clear hK K
        refine wpMid_take rfl ?_
        intro K hK
        go_big_quiet_op
        go_big_quiet_on
        refine wpMid_take rfl ?_
        intro K hK
        go_big_quiet_op
        go_big_quiet_on
        refine wpMid_take rfl ?_
        intro K hK
        go_big_quiet_op
        go_big_quiet_on
        refine wpMid_take rfl ?_
        intro K hK
        go_big_quiet_op
        go_big_quiet_on
        refine wpMid_run rfl (fun K hK => ?_)
        go_simp
        refine (cOw1 _ _ _ (p3.below (by (repeat first|exact J0|assumption|(apply J1;assumption)|apply J2|apply J3|apply J4))) (p4.below (by (repeat first|exact J0|assumption|(apply J1;assumption)|apply J2|apply J3|apply J4)))).mono ?_
        rintro e w22 ⟨u3, u4, rfl, oZ, oU, hb22⟩
        refine hK _ _ (by (repeat first|exact J0|assumption|(apply J1;assumption)|apply J2|apply J3|apply J4)) ?_
        clear hK K
        have hB412_w22 := hB412.below (show Below _ _ w22 by (repeat first|exact J0|assumption|(apply J1;assumption)|apply J2|apply J3|apply J4))
        have fhB412_w22 := hB412_w22.facts
        have hZ12_w22 := hZ12.below (show Below _ _ w22 by (repeat first|exact J0|assumption|(apply J1;assumption)|apply J2|apply J3|apply J4))
        have fhZ12_w22 := hZ12_w22.facts
        refine wpMid_nil ?_
        go_wp2_with fail
        refine (cS1 _ _ _ (oZ.rd ec_len) (oU.rd ec_len) Sl.nil_ Sl.nil_).mono ?_
        rintro e w23 ⟨rfl, hb23⟩
        go_wp2
        go_ret
        exact ⟨rfl, bl_then (by (repeat first|exact J0|assumption|(apply J1;assumption)|apply J2|apply J3|apply J4)) HW12.out⟩
    · have cCt := fun (a b : Value) W' h1 h2 => apiCut_bad (vL := a) (vR := b) p y W' (by omega) h1 h2 hz
      obtain ⟨Q, hQ⟩ : ∃ z, panZ = z := ⟨_, rfl⟩
      have cOw0 := fun (a b : Value) W' h1 h2 => rown_any (vL := a) (vR := b) Q W' h1 h2 (by rw [← hQ]; decide) (by rw [← hQ]; decide)
      have cS0 := fun (a b : Value) W' hL hR k1 k2 => samePanel_any (vL := a) (vR := b) (uL := .slice none 0 0) (uR := .slice none 0 0) Q panZ W' hL hR k1 k2
      rw [show eqP Q panZ = true by rw [← hQ]; exact eqP_refl _] at cS0
      have cOw1 := cOw0
      have cS1 := cS0
      unfold ROW at cOw0 cOw1
      unfold RP2 at cCt
      rw [hQ] at cCt
      obtain ⟨E, hE⟩ : ∃ z, panE p = z := ⟨_, rfl⟩
      rw [hE] at cRP cCt hz
      have tz : (E == 0) = false := beq_false_of_ne hz
      have tz2 : (E != 0) = true := by simpa using hz
      have tEE : (E == E) = true := beq_self_eq_true E
      simp only [sV] at cSh cG cRP cCt cOw0 cOw1 cS0 cS1 ⊢
      clear hE hz hq hwL hwR hL hR hQ
      go_enter Tryz.func8, Tryz.ntmps8
      go_wp2_with fail
      refine (cAw _ (by (repeat first|exact J0|assumption|(apply J1;assumption)|apply J2|apply J3|apply J4))).mono ?_
      rintro e w1 ⟨rfl, hb1⟩
      replace hB1 := hB1.below (show Below _ _ w1 by (repeat first|exact J0|assumption|(apply J1;assumption)|apply J2|apply J3|apply J4))
      replace fhB1 := hB1.facts
      go_wp2_with fail
      refine (cSh _ (by (repeat first|exact J0|assumption|(apply J1;assumption)|apply J2|apply J3|apply J4))).mono ?_
      rintro e w2 ⟨rfl, hb2⟩
      replace hB1 := hB1.below (show Below _ _ w2 by (repeat first|exact J0|assumption|(apply J1;assumption)|apply J2|apply J3|apply J4))
      replace fhB1 := hB1.facts
      go_wp2_with fail
      refine (cG _ (by (repeat first|exact J0|assumption|(apply J1;assumption)|apply J2|apply J3|apply J4))).mono ?_
      rintro e w3 ⟨uL3, uR3, rfl, oL3, oR3, hb3⟩
      replace hB1 := hB1.below (show Below _ _ w3 by (repeat first|exact J0|assumption|(apply J1;assumption)|apply J2|apply J3|apply J4))
      replace fhB1 := hB1.facts
      go_wp2_with fail
      refine (cCt _ _ _ (oL3.rd ec_len) (oR3.rd ec_len)).mono ?_
      rintro e w4 ⟨x1, x2, x3, x4, rfl, o1, o2, o3, o4, hb4⟩
      replace hB1 := hB1.below (show Below _ _ w4 by (repeat first|exact J0|assumption|(apply J1;assumption)|apply J2|apply J3|apply J4))
      replace fhB1 := hB1.facts
      obtain ⟨A1, c1, rfl⟩ := o1.shape
      obtain ⟨A2, c2, rfl⟩ := o2.shape
      obtain ⟨A3, c3, rfl⟩ := o3.shape
      obtain ⟨A4, c4, rfl⟩ := o4.shape
      have hB4 := Blk.new w4 74 #[.string ⟨Q.1.toArray⟩, .int .i64 Q.2.1, .slice A1 Q.2.2.1.length c1, .slice A2 Q.2.2.2.length c2, .string ⟨Q.1.toArray⟩, .int .i64 Q.2.1, .slice A3 Q.2.2.1.length c3, .slice A4 Q.2.2.2.length c4]
      have fB4 := hB4.facts
      go_wp2_with fail
      refine (cRP _ (by (repeat first|exact J0|assumption|(apply J1;assumption)|apply J2|apply J3|apply J4))).mono ?_
      rintro e w5 ⟨rfl, hb5⟩
      replace hB1 := hB1.below (show Below _ _ w5 by (repeat first|exact J0|assumption|(apply J1;assumption)|apply J2|apply J3|apply J4))
      replace fhB1 := hB1.facts
      replace hB4 := hB4.below (show Below _ _ w5 by (repeat first|exact J0|assumption|(apply J1;assumption)|apply J2|apply J3|apply J4))
      replace fhB4 := hB4.facts
      have hB8 := Blk.new w5 77 #[.string ⟨#[]⟩, .int .i64 0, .slice none 0 0, .slice none 0 0, .string ⟨#[]⟩, .int .i64 0, .slice none 0 0, .slice none 0 0]
      have q1 := (o1.rd ec_len).below (show Below w4.heap.size w4 w5 by (repeat first|exact J0|assumption|(apply J1;assumption)|apply J2|apply J3|apply J4))
      have q2 := (o2.rd ec_len).below (show Below w4.heap.size w4 w5 by (repeat first|exact J0|assumption|(apply J1;assumption)|apply J2|apply J3|apply J4))
      have q3 := (o3.rd ec_len).below (show Below w4.heap.size w4 w5 by (repeat first|exact J0|assumption|(apply J1;assumption)|apply J2|apply J3|apply J4))
      have q4 := (o4.rd ec_len).below (show Below w4.heap.size w4 w5 by (repeat first|exact J0|assumption|(apply J1;assumption)|apply J2|apply J3|apply J4))
      have hW5 : Below W.heap.size W w5 := by (repeat first|exact J0|assumption|(apply J1;assumption)|apply J2|apply J3|apply J4)
      have HW := Lib.hid hW5
      clear hb1 hb2 hb3 hb4 hb5 oL3 oR3 o1 o2 o3 o4 hW5
      go_upto_region 6 with fail
      obtain ⟨x6, hx6⟩ : ∃ X, w5.alloc (.cells #[.string ⟨#[]⟩, .int .i64 0, .slice none 0 0, .slice none 0 0, .string ⟨#[]⟩, .int .i64 0, .slice none 0 0, .slice none 0 0] 77) = X := ⟨_, rfl⟩
      have hb6 : Below w5.heap.size w5 x6 := by rw [← hx6]; exact bl_alloc bl_refl _
      rw [hx6] at hB8 ⊢
      obtain ⟨g8, hg8⟩ : ∃ X, w5.heap.size = X := ⟨_, rfl⟩
      have hg8' : g8 < x6.heap.size := by rw [← hg8]; exact hB8.lt
      have hg5 : w5.heap.size ≤ g8 := Nat.le_of_eq hg8
      have hB46 := hB4.below hb6
      have hB16 := hB1.below hb6
      rw [hg8] at hB8 ⊢
      clear hx6 hg8 hB1 hB4 fB1 fB4
      have fB46 := hB46.facts
      have fB16 := hB16.facts
      go_upto_region 16 with (refine wpList_store_blk hB8 rfl _ _ _ rfl rfl rfl (by rfl) (by kernel_rfl) (by kernel_rfl) ?_; intro w12 hZ12 hc12)
      simp only [Act.put]
      have hx12 : Below w5.heap.size w5 w12 := chg_bl hb6 hc12 hg5
      have hB412 := hB46.chg hc12 (by simp; omega)
      have p1 := q1.below hx12
      have p2 := q2.below hx12
      have p3 := q3.below hx12
      have p4 := q4.below hx12
      have fB412 := hB412.facts
      have fZ12 := hZ12.facts
      have HW12 := Lib.hid (bl_then hx12 HW.out)
      clear hx12 q1 q2 q3 q4
      refine wp_region_ords [0, 1, 2, 3, 4, 5, 7, 8] [(6, false), (9, false), (10, false), (11, false), (12, true), (13, true), (15, true), (16, true), (14, false)] [17, 18, 19] (by kernel_rfl) (by kernel_rfl) (fun d _ _ _ _ h => by cases d <;> exact h) ?_
      simp only [List.map_cons, List.map_nil, List.getD_cons_zero, List.getD_cons_succ]
      repeat (go_big_quiet_step (fail))
      refine wpQuiet_nil ?_
      refine wpMid_run rfl (fun K hK => ?_)
      go_simp
      refine (cOw0 _ _ _ (p1.below (by (repeat first|exact J0|assumption|(apply J1;assumption)|apply J2|apply J3|apply J4))) (p2.below (by (repeat first|exact J0|assumption|(apply J1;assumption)|apply J2|apply J3|apply J4)))).mono ?_
      rintro e w20 ⟨u1, u2, rfl, oX, oY, hb20⟩
      refine hK _ _ (by (repeat first|exact J0|assumption|(apply J1;assumption)|apply J2|apply J3|apply J4)) ?_
      clear hK K
      have hB412_w20 := hB412.below (show Below _ _ w20 by (repeat first|exact J0|assumption|(apply J1;assumption)|apply J2|apply J3|apply J4))
      have fhB412_w20 := hB412_w20.facts
      have hZ12_w20 := hZ12.below (show Below _ _ w20 by (repeat first|exact J0|assumption|(apply J1;assumption)|apply J2|apply J3|apply J4))
      have fhZ12_w20 := hZ12_w20.facts
      refine wpMid_run rfl (fun K hK => ?_)
      go_simp
      refine (cS0 _ _ _ (oX.rd ec_len) (oY.rd ec_len) Sl.nil_ Sl.nil_).mono ?_
      rintro e w21 ⟨rfl, hb21⟩
      refine hK _ _ (by (repeat first|exact J0|assumption|(apply J1;assumption)|apply J2|apply J3|apply J4)) ?_
      clear hK K
      have hB412_w21 := hB412.below (show Below _ _ w21 by (repeat first|exact J0|assumption|(apply J1;assumption)|apply J2|apply J3|apply J4))
      have fhB412_w21 := hB412_w21.facts
      have hZ12_w21 := hZ12.below (show Below _ _ w21 by (repeat first|exact J0|assumption|(apply J1;assumption)|apply J2|apply J3|apply J4))
      have fhZ12_w21 := hZ12_w21.facts
      refine wpMid_run rfl (fun K hK => ?_)
      go_simp
      refine hK _ _ (by (repeat first|exact J0|assumption|(apply J1;assumption)|apply J2|apply J3|apply J4)) ?_
      clear hK K
      refine wpMid_run rfl (fun K hK => ?_)
      go_simp
      refine hK _ _ (by (repeat first|exact J0|assumption|(apply J1;assumption)|apply J2|apply J3|apply J4)) ?_
      clear hK K
      refine wpMid_take rfl ?_
      intro K hK
      go_big_quiet_op
      go_big_quiet_on
      refine wpMid_take rfl ?_
      intro K hK
      go_big_quiet_op
      go_big_quiet_on
      refine wpMid_take rfl ?_
      intro K hK
      go_big_quiet_op
      go_big_quiet_on
      refine wpMid_take rfl ?_
      intro K hK
      go_big_quiet_op
      go_big_quiet_on
      refine wpMid_run rfl (fun K hK => ?_)
      go_simp
      refine (cOw1 _ _ _ (p3.below (by (repeat first|exact J0|assumption|(apply J1;assumption)|apply J2|apply J3|apply J4))) (p4.below (by (repeat first|exact J0|assumption|(apply J1;assumption)|apply J2|apply J3|apply J4)))).mono ?_
      rintro e w22 ⟨u3, u4, rfl, oZ, oU, hb22⟩
      refine hK _ _ (by (repeat first|exact J0|assumption|(apply J1;assumption)|apply J2|apply J3|apply J4)) ?_
      clear hK K
      have hB412_w22 := hB412.below (show Below _ _ w22 by (repeat first|exact J0|assumption|(apply J1;assumption)|apply J2|apply J3|apply J4))
      have fhB412_w22 := hB412_w22.facts
      have hZ12_w22 := hZ12.below (show Below _ _ w22 by (repeat first|exact J0|assumption|(apply J1;assumption)|apply J2|apply J3|apply J4))
      have fhZ12_w22 := hZ12_w22.facts
      refine wpMid_nil ?_
      go_wp2_with fail
      refine (cS1 _ _ _ (oZ.rd ec_len) (oU.rd ec_len) Sl.nil_ Sl.nil_).mono ?_
      rintro e w23 ⟨rfl, hb23⟩
      go_wp2
      go_ret
      exact ⟨rfl, bl_then (by (repeat first|exact J0|assumption|(apply J1;assumption)|apply J2|apply J3|apply J4)) HW12.out⟩
end Go.Proofs.YthkjgcldolnjaaaGreatDoor

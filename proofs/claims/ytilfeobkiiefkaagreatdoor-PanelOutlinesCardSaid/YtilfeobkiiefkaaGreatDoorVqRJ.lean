/- PanelOutlines, walked. Conditions: the variables are laid. -/
import Derived.Test.YtilfeobkiiefkaaGreatDoorG40
import Derived.Test.YtilfeobkiiefkaaGreatDoorG46
import Derived.Test.YtilfeobkiiefkaaGreatDoorG44
import Derived.Test.YtilfeobkiiefkaaGreatDoorOrdoJ
namespace Go.Proofs.YtilfeobkiiefkaaGreatDoor
open Go.RowKit Go.ChangeMaps
set_option maxHeartbeats 4000000
set_option maxRecDepth 100000

attribute [local go_sem] Oper.semAt_some
/-! # PanelOutlines -/
theorem eqin_knotS (d : Nat) (x y : Int) (w : World) : (Op.equalIn (d + 2) 46 (.agg #[.int .i64 x, .int .i64 y]) (.agg #[.int .i64 x, .int .i64 y])).run Tryz.prog w = .ok true w := by
  have he : ∀ (a : Int) (w : World), (Op.equalIn (d + 1) 3 (.int .i64 a) (.int .i64 a)).run Tryz.prog w = .ok (a == a) w := fun a w => run_equalIn_int w d 3 .i64 .i64 a a (by kernel_rfl)
  simp [go_sem, he]
theorem eqin_four (d : Nat) (a b c e f g h k : Int) (w : World) : (Op.equalIn (d + 3) 47 (.agg #[.int .i64 a, .int .i64 b, .int .i64 c, .int .i64 e, .int .i64 f, .int .i64 g, .int .i64 h, .int .i64 k]) (.agg #[.int .i64 a, .int .i64 b, .int .i64 c, .int .i64 e, .int .i64 f, .int .i64 g, .int .i64 h, .int .i64 k])).run Tryz.prog w = .ok true w := by
  have hr : List.range 4 = [0, 1, 2, 3] := rfl
  have hc : Tryz.prog.cellsOf 46 = 2 := by kernel_rfl
  have h0 : ∀ (w : World), (part 46 #[.int .i64 a, .int .i64 b, .int .i64 c, .int .i64 e, .int .i64 f, .int .i64 g, .int .i64 h, .int .i64 k] 0).run Tryz.prog w = .ok (.agg #[.int .i64 a, .int .i64 b]) w := fun w => by kernel_rfl
  have h1 : ∀ (w : World), (part 46 #[.int .i64 a, .int .i64 b, .int .i64 c, .int .i64 e, .int .i64 f, .int .i64 g, .int .i64 h, .int .i64 k] 2).run Tryz.prog w = .ok (.agg #[.int .i64 c, .int .i64 e]) w := fun w => by kernel_rfl
  have h2 : ∀ (w : World), (part 46 #[.int .i64 a, .int .i64 b, .int .i64 c, .int .i64 e, .int .i64 f, .int .i64 g, .int .i64 h, .int .i64 k] 4).run Tryz.prog w = .ok (.agg #[.int .i64 f, .int .i64 g]) w := fun w => by kernel_rfl
  have h3 : ∀ (w : World), (part 46 #[.int .i64 a, .int .i64 b, .int .i64 c, .int .i64 e, .int .i64 f, .int .i64 g, .int .i64 h, .int .i64 k] 6).run Tryz.prog w = .ok (.agg #[.int .i64 h, .int .i64 k]) w := fun w => by kernel_rfl
  obtain ⟨i, hinf⟩ : ∃ i, Tryz.prog.info? 46 = some i := Option.isSome_iff_exists.1 (by kernel_rfl)
  rw [run_equalIn_array w (d + 2) (e := 46) (n := 4) (i := i) _ _ (by kernel_rfl) hinf, hr, hc]
  simp [Op.eqItems, Sem.run_bind, h0, h1, h2, h3, eqin_knotS]
theorem eqin_three (d : Nat) (a b c : Int) (w : World) : (Op.equalIn (d + 2) 53 (.agg #[.int .i64 a, .int .i64 b, .int .i64 c]) (.agg #[.int .i64 a, .int .i64 b, .int .i64 c])).run Tryz.prog w = .ok true w := by
  have hr : List.range 3 = [0, 1, 2] := rfl
  have hc : Tryz.prog.cellsOf 3 = 1 := by kernel_rfl
  have h0 : ∀ (w : World), (part 3 #[.int .i64 a, .int .i64 b, .int .i64 c] 0).run Tryz.prog w = .ok (.int .i64 a) w := fun w => by kernel_rfl
  have h1 : ∀ (w : World), (part 3 #[.int .i64 a, .int .i64 b, .int .i64 c] 1).run Tryz.prog w = .ok (.int .i64 b) w := fun w => by kernel_rfl
  have h2 : ∀ (w : World), (part 3 #[.int .i64 a, .int .i64 b, .int .i64 c] 2).run Tryz.prog w = .ok (.int .i64 c) w := fun w => by kernel_rfl
  have he : ∀ (a : Int) (w : World), (Op.equalIn (d + 1) 3 (.int .i64 a) (.int .i64 a)).run Tryz.prog w = .ok (a == a) w := fun a w => run_equalIn_int w d 3 .i64 .i64 a a (by kernel_rfl)
  obtain ⟨i, hinf⟩ : ∃ i, Tryz.prog.info? 3 = some i := Option.isSome_iff_exists.1 (by kernel_rfl)
  rw [run_equalIn_array w (d + 1) (e := 3) (n := 3) (i := i) _ _ (by kernel_rfl) hinf, hr, hc]
  simp [Op.eqItems, Sem.run_bind, h0, h1, h2, he]
@[go_sem] theorem eq_four (a b c e f g h k : Int) (w : World) : (Op.equalIn 10000 47 (.agg #[.int .i64 a, .int .i64 b, .int .i64 c, .int .i64 e, .int .i64 f, .int .i64 g, .int .i64 h, .int .i64 k]) (.agg #[.int .i64 a, .int .i64 b, .int .i64 c, .int .i64 e, .int .i64 f, .int .i64 g, .int .i64 h, .int .i64 k])).run Tryz.prog w = .ok true w := eqin_four 9997 a b c e f g h k w
@[go_sem] theorem eq_three (a b c : Int) (w : World) : (Op.equalIn 10000 53 (.agg #[.int .i64 a, .int .i64 b, .int .i64 c]) (.agg #[.int .i64 a, .int .i64 b, .int .i64 c])).run Tryz.prog w = .ok true w := eqin_three 9998 a b c w
theorem panelOutlines_any {vL vR : Value} (p : Pan) (right : Bool) (W : World) (hnm : p.1.length ≤ maxLen) (hL : SlE W vL p.2.2.1) (hR : SlE W vR p.2.2.2) (hLay : Lay W) :
    Calls Tryz.prog 4 #[.agg #[sV p.1, .int .i64 p.2.1, vL, vR], .bool right] W (RV W (.bool true)) := by
  have cAw := fun W' (hb : Below W.heap.size W W') => awakeP_any W' (hLay.below hb)
  have cSh := fun W' (hb : Below W.heap.size W W') => shortP_any p 40 W' hnm (hL.below hb) (hR.below hb)
  obtain ⟨q, hq⟩ : ∃ q, shortP p 40 = q := ⟨_, rfl⟩
  rw [hq] at cSh
  obtain ⟨AL, cL, hvL, hLc, hLm, rL⟩ := id hL
  obtain ⟨AR, cR, hvR, hRc, hRm, rR⟩ := id hR
  subst hvL hvR
  have hB1 := Blk.new W 24 #[.string ⟨p.1.toArray⟩, .int .i64 p.2.1, .slice AL p.2.2.1.length cL, .slice AR p.2.2.2.length cR]
  have fB1 := hB1.facts
  clear rL rR hLc hLm hRc hRm
  cases q
  · unfold sV at cSh ⊢
    clear hq hL hR
    go_enter Tryz.func4, Tryz.ntmps4
    go_wp2_with fail
    refine (cAw _ (by (repeat (first | exact bl_refl | assumption | (apply bl_then; assumption) | refine bl_alloc ?_ _ | refine bl_drew ?_ | refine bl_drewN ?_ _)))).mono ?_
    rintro e w1 ⟨rfl, hb1⟩
    replace hB1 := hB1.below (show Below _ _ w1 by (repeat (first | exact bl_refl | assumption | (apply bl_then; assumption) | refine bl_alloc ?_ _ | refine bl_drew ?_ | refine bl_drewN ?_ _)))
    replace fhB1 := hB1.facts
    go_wp2_with fail
    refine (cSh _ (by (repeat (first | exact bl_refl | assumption | (apply bl_then; assumption) | refine bl_alloc ?_ _ | refine bl_drew ?_ | refine bl_drewN ?_ _)))).mono ?_
    rintro e w2 ⟨rfl, hb2⟩
    go_wp2_with fail
    refine (cAw _ (by (repeat (first | exact bl_refl | assumption | (apply bl_then; assumption) | refine bl_alloc ?_ _ | refine bl_drew ?_ | refine bl_drewN ?_ _)))).mono ?_
    rintro e w3 ⟨rfl, hb3⟩
    go_wp2
    go_ret
    exact ⟨rfl, by (repeat (first | exact bl_refl | assumption | (apply bl_then; assumption) | refine bl_alloc ?_ _ | refine bl_drew ?_ | refine bl_drewN ?_ _))⟩
  · obtain ⟨hn60, ⟨hlL, hwL⟩, hlR, hwR⟩ := shortP_words hq
    have cG := fun W' (hb : Below W.heap.size W W') => given_any p W' (hL.below hb) (hR.below hb) (by omega) (by omega)
    have cRP := fun W' (hb : Below W.heap.size W W') => rcheckPanel_any p W' (by omega) (hL.below hb) (hR.below hb) (fun e he => by have := hwL e he; omega) (fun e he => by have := hwR e he; omega)
    have cO := fun (vL vR : Value) W' hL hR => apiOutline_any (vL := vL) (vR := vR) p right W' (by omega) hL hR
    have cC := fun (vL vR : Value) W' hL hR => apiCorners_any (vL := vL) (vR := vR) p W' (by omega) hL hR
    have cS := fun (vL vR : Value) W' hL hR => apiStrips_any (vL := vL) (vR := vR) p W' (by omega) hL hR
    have cA := fun (vL vR : Value) W' hL hR => apiArea_any (vL := vL) (vR := vR) p W' (by omega) hL hR
    have cT := fun (vL vR : Value) W' hL hR => apiLetters_any (vL := vL) (vR := vR) p W' (by omega) hL hR
    unfold GIW at cG
    by_cases hz : panE p = 0
    · have hok := panE_zero hz
      have cRO := fun W' (hb : Below W.heap.size W W') => routline_any p right W' (hL.below hb) (hR.below hb) hok.left hok.right ⟨by have := hok.wid.1; omega, hok.wid.2⟩
      have cRC := fun W' (hb : Below W.heap.size W W') => rcorners_any p W' (hL.below hb) (hR.below hb) hok
      have cRS := fun W' (hb : Below W.heap.size W W') => rstrips_any p W' (hL.below hb) (hR.below hb) hok
      have cRA := fun W' (hb : Below W.heap.size W W') => rarea_any p W' (hL.below hb) (hR.below hb) hok
      have cRT := fun W' (hb : Below W.heap.size W W') => rletters_any p W' (hL.below hb) (hR.below hb) hok
      have hSl := strips_le hok
      obtain ⟨x0, x1, x2, x3, x4, x5, x6, x7, hC⟩ : ∃ x0 x1 x2 x3 x4 x5 x6 x7 : Int, cornA p = #[.int .i64 x0, .int .i64 x1, .int .i64 x2, .int .i64 x3, .int .i64 x4, .int .i64 x5, .int .i64 x6, .int .i64 x7] := ⟨_, _, _, _, _, _, _, _, rfl⟩
      rw [show cornR p = cornA p from if_pos hz, hC] at cC
      rw [hC] at cRC
      rw [show lettR p = _ from if_pos hz] at cT
      obtain ⟨t0, ht0⟩ : ∃ z : Int, (cntU (stpL p.2.2.1 ++ stpL p.2.2.2) 78 : Nat) = z := ⟨_, rfl⟩
      obtain ⟨t1, ht1⟩ : ∃ z : Int, (cntU (stpL p.2.2.1 ++ stpL p.2.2.2) 66 : Nat) = z := ⟨_, rfl⟩
      obtain ⟨t2, ht2⟩ : ∃ z : Int, (cntU (stpL p.2.2.1 ++ stpL p.2.2.2) 84 : Nat) = z := ⟨_, rfl⟩
      rw [ht0, ht1, ht2] at cT cRT
      rw [hz] at cRP cO cC cS cA cT
      rw [show onlyOk 0 (outP p right) = outP p right from rfl] at cO
      rw [show onlyOk 0 (strips p) = strips p from rfl] at cS
      rw [show onlyN 0 (areaS (strips p)) = areaS (strips p) from rfl] at cA
      simp only [sV] at cSh cG cRP cO cC cS cA cT cRO cRC cRS cRA cRT ⊢
      obtain ⟨O, hO⟩ : ∃ z, outP p right = z := ⟨_, rfl⟩
      obtain ⟨AA, hAA⟩ : ∃ z, areaS (strips p) = z := ⟨_, rfl⟩
      rw [hAA] at cA cRA
      obtain ⟨S, hS⟩ : ∃ z, strips p = z := ⟨_, rfl⟩
      rw [hO] at cO cRO
      rw [hS] at cS cRS hSl
      clear hC ht0 ht1 ht2 hz hok hO hS hAA hq hwL hwR hL hR
      go_enter Tryz.func4, Tryz.ntmps4
      go_wp2_with fail
      refine (cAw _ (by (repeat (first | exact bl_refl | assumption | (apply bl_then; assumption) | refine bl_alloc ?_ _ | refine bl_drew ?_ | refine bl_drewN ?_ _)))).mono ?_
      rintro e w1 ⟨rfl, hb1⟩
      replace hB1 := hB1.below (show Below _ _ w1 by (repeat (first | exact bl_refl | assumption | (apply bl_then; assumption) | refine bl_alloc ?_ _ | refine bl_drew ?_ | refine bl_drewN ?_ _)))
      replace fhB1 := hB1.facts
      go_wp2_with fail
      refine (cSh _ (by (repeat (first | exact bl_refl | assumption | (apply bl_then; assumption) | refine bl_alloc ?_ _ | refine bl_drew ?_ | refine bl_drewN ?_ _)))).mono ?_
      rintro e w2 ⟨rfl, hb2⟩
      replace hB1 := hB1.below (show Below _ _ w2 by (repeat (first | exact bl_refl | assumption | (apply bl_then; assumption) | refine bl_alloc ?_ _ | refine bl_drew ?_ | refine bl_drewN ?_ _)))
      replace fhB1 := hB1.facts
      go_wp2_with fail
      refine (cG _ (by (repeat (first | exact bl_refl | assumption | (apply bl_then; assumption) | refine bl_alloc ?_ _ | refine bl_drew ?_ | refine bl_drewN ?_ _)))).mono ?_
      rintro e w3 ⟨uL3, uR3, rfl, oL3, oR3, hb3⟩
      replace hB1 := hB1.below (show Below _ _ w3 by (repeat (first | exact bl_refl | assumption | (apply bl_then; assumption) | refine bl_alloc ?_ _ | refine bl_drew ?_ | refine bl_drewN ?_ _)))
      replace fhB1 := hB1.facts
      go_wp2_with fail
      refine (cO _ _ _ (oL3.rd ec_len) (oR3.rd ec_len)).mono ?_
      rintro e w4 ⟨v4, rfl, hO4, hb4⟩
      replace hB1 := hB1.below (show Below _ _ w4 by (repeat (first | exact bl_refl | assumption | (apply bl_then; assumption) | refine bl_alloc ?_ _ | refine bl_drew ?_ | refine bl_drewN ?_ _)))
      replace fhB1 := hB1.facts
      obtain ⟨A4, c4, rfl⟩ := hO4.shape
      go_wp2_with fail
      refine (cG _ (by (repeat (first | exact bl_refl | assumption | (apply bl_then; assumption) | refine bl_alloc ?_ _ | refine bl_drew ?_ | refine bl_drewN ?_ _)))).mono ?_
      rintro e w5 ⟨uL5, uR5, rfl, oL5, oR5, hb5⟩
      replace hB1 := hB1.below (show Below _ _ w5 by (repeat (first | exact bl_refl | assumption | (apply bl_then; assumption) | refine bl_alloc ?_ _ | refine bl_drew ?_ | refine bl_drewN ?_ _)))
      replace fhB1 := hB1.facts
      go_wp2_with fail
      refine (cC _ _ _ (oL5.rd ec_len) (oR5.rd ec_len)).mono ?_
      rintro e w6 ⟨rfl, hb6⟩
      replace hB1 := hB1.below (show Below _ _ w6 by (repeat (first | exact bl_refl | assumption | (apply bl_then; assumption) | refine bl_alloc ?_ _ | refine bl_drew ?_ | refine bl_drewN ?_ _)))
      replace fhB1 := hB1.facts
      have hB6 := Blk.new w6 47 #[.int .i64 x0, .int .i64 x1, .int .i64 x2, .int .i64 x3, .int .i64 x4, .int .i64 x5, .int .i64 x6, .int .i64 x7]
      have fB6 := hB6.facts
      go_wp2_with fail
      refine (cG _ (by (repeat (first | exact bl_refl | assumption | (apply bl_then; assumption) | refine bl_alloc ?_ _ | refine bl_drew ?_ | refine bl_drewN ?_ _)))).mono ?_
      rintro e w7 ⟨uL7, uR7, rfl, oL7, oR7, hb7⟩
      replace hB1 := hB1.below (show Below _ _ w7 by (repeat (first | exact bl_refl | assumption | (apply bl_then; assumption) | refine bl_alloc ?_ _ | refine bl_drew ?_ | refine bl_drewN ?_ _)))
      replace fhB1 := hB1.facts
      replace hB6 := hB6.below (show Below _ _ w7 by (repeat (first | exact bl_refl | assumption | (apply bl_then; assumption) | refine bl_alloc ?_ _ | refine bl_drew ?_ | refine bl_drewN ?_ _)))
      replace fhB6 := hB6.facts
      go_wp2_with fail
      refine (cS _ _ _ (oL7.rd ec_len) (oR7.rd ec_len)).mono ?_
      rintro e w8 ⟨v8, rfl, hS8, hb8⟩
      replace hB1 := hB1.below (show Below _ _ w8 by (repeat (first | exact bl_refl | assumption | (apply bl_then; assumption) | refine bl_alloc ?_ _ | refine bl_drew ?_ | refine bl_drewN ?_ _)))
      replace fhB1 := hB1.facts
      replace hB6 := hB6.below (show Below _ _ w8 by (repeat (first | exact bl_refl | assumption | (apply bl_then; assumption) | refine bl_alloc ?_ _ | refine bl_drew ?_ | refine bl_drewN ?_ _)))
      replace fhB6 := hB6.facts
      obtain ⟨A8, c8, rfl⟩ := hS8.shape
      obtain ⟨_, _, he8, _, _, hr8⟩ := hS8.rd trc_len
      obtain ⟨rfl, rfl⟩ : A8 = _ ∧ c8 = _ := by simpa using he8
      clear he8
      go_wp2_with fail
      refine (cG _ (by (repeat (first | exact bl_refl | assumption | (apply bl_then; assumption) | refine bl_alloc ?_ _ | refine bl_drew ?_ | refine bl_drewN ?_ _)))).mono ?_
      rintro e w9 ⟨uL9, uR9, rfl, oL9, oR9, hb9⟩
      replace hB1 := hB1.below (show Below _ _ w9 by (repeat (first | exact bl_refl | assumption | (apply bl_then; assumption) | refine bl_alloc ?_ _ | refine bl_drew ?_ | refine bl_drewN ?_ _)))
      replace fhB1 := hB1.facts
      replace hB6 := hB6.below (show Below _ _ w9 by (repeat (first | exact bl_refl | assumption | (apply bl_then; assumption) | refine bl_alloc ?_ _ | refine bl_drew ?_ | refine bl_drewN ?_ _)))
      replace fhB6 := hB6.facts
      go_wp2_with fail
      refine (cA _ _ _ (oL9.rd ec_len) (oR9.rd ec_len)).mono ?_
      rintro e w10 ⟨rfl, hb10⟩
      replace hB1 := hB1.below (show Below _ _ w10 by (repeat (first | exact bl_refl | assumption | (apply bl_then; assumption) | refine bl_alloc ?_ _ | refine bl_drew ?_ | refine bl_drewN ?_ _)))
      replace fhB1 := hB1.facts
      replace hB6 := hB6.below (show Below _ _ w10 by (repeat (first | exact bl_refl | assumption | (apply bl_then; assumption) | refine bl_alloc ?_ _ | refine bl_drew ?_ | refine bl_drewN ?_ _)))
      replace fhB6 := hB6.facts
      go_wp2_with fail
      refine (cG _ (by (repeat (first | exact bl_refl | assumption | (apply bl_then; assumption) | refine bl_alloc ?_ _ | refine bl_drew ?_ | refine bl_drewN ?_ _)))).mono ?_
      rintro e w11 ⟨uL11, uR11, rfl, oL11, oR11, hb11⟩
      replace hB1 := hB1.below (show Below _ _ w11 by (repeat (first | exact bl_refl | assumption | (apply bl_then; assumption) | refine bl_alloc ?_ _ | refine bl_drew ?_ | refine bl_drewN ?_ _)))
      replace fhB1 := hB1.facts
      replace hB6 := hB6.below (show Below _ _ w11 by (repeat (first | exact bl_refl | assumption | (apply bl_then; assumption) | refine bl_alloc ?_ _ | refine bl_drew ?_ | refine bl_drewN ?_ _)))
      replace fhB6 := hB6.facts
      go_wp2_with fail
      refine (cT _ _ _ (oL11.rd ec_len) (oR11.rd ec_len)).mono ?_
      rintro e w12 ⟨rfl, hb12⟩
      replace hB1 := hB1.below (show Below _ _ w12 by (repeat (first | exact bl_refl | assumption | (apply bl_then; assumption) | refine bl_alloc ?_ _ | refine bl_drew ?_ | refine bl_drewN ?_ _)))
      replace fhB1 := hB1.facts
      replace hB6 := hB6.below (show Below _ _ w12 by (repeat (first | exact bl_refl | assumption | (apply bl_then; assumption) | refine bl_alloc ?_ _ | refine bl_drew ?_ | refine bl_drewN ?_ _)))
      replace fhB6 := hB6.facts
      have hB12 := Blk.new w12 53 #[.int .i64 t0, .int .i64 t1, .int .i64 t2]
      have fB12 := hB12.facts
      go_wp2_with fail
      refine (cRP _ (by (repeat (first | exact bl_refl | assumption | (apply bl_then; assumption) | refine bl_alloc ?_ _ | refine bl_drew ?_ | refine bl_drewN ?_ _)))).mono ?_
      rintro e w13 ⟨rfl, hb13⟩
      replace hB1 := hB1.below (show Below _ _ w13 by (repeat (first | exact bl_refl | assumption | (apply bl_then; assumption) | refine bl_alloc ?_ _ | refine bl_drew ?_ | refine bl_drewN ?_ _)))
      replace fhB1 := hB1.facts
      replace hB6 := hB6.below (show Below _ _ w13 by (repeat (first | exact bl_refl | assumption | (apply bl_then; assumption) | refine bl_alloc ?_ _ | refine bl_drew ?_ | refine bl_drewN ?_ _)))
      replace fhB6 := hB6.facts
      replace hB12 := hB12.below (show Below _ _ w13 by (repeat (first | exact bl_refl | assumption | (apply bl_then; assumption) | refine bl_alloc ?_ _ | refine bl_drew ?_ | refine bl_drewN ?_ _)))
      replace fhB12 := hB12.facts
      go_upto_region 11 with fail
      refine wp_region_ords [0, 1, 2, 3, 4, 5, 6, 7, 8, 9, 10, 11, 12, 13] [(14, false), (15, false), (16, false), (17, false), (18, true), (19, false), (20, false), (21, false), (22, false), (23, false), (24, true), (26, true), (25, false), (27, false), (28, false), (29, false), (30, false), (31, true), (32, false), (33, false), (34, false), (35, false), (36, false), (37, true), (38, false), (39, false)] [40, 41, 42] (by kernel_rfl) ord_outl (fun d _ _ _ _ h => by cases d <;> exact h) ?_
      simp only [List.map_cons, List.map_nil, List.getD_cons_zero, List.getD_cons_succ]
      repeat (go_big_quiet_step (fail))
      refine wpQuiet_nil ?_
      refine wpMid_run rfl (fun K hK => ?_)
      go_simp
      refine (cRO _ (by (repeat (first | exact bl_refl | assumption | (apply bl_then; assumption) | refine bl_alloc ?_ _ | refine bl_drew ?_ | refine bl_drewN ?_ _)))).mono ?_
      rintro e w20 ⟨v20, rfl, hO20, hb20⟩
      refine hK _ _ (by (repeat (first | exact bl_refl | assumption | (apply bl_then; assumption) | refine bl_alloc ?_ _ | refine bl_drew ?_ | refine bl_drewN ?_ _))) ?_
      clear hK K
      have hB1_w20 := hB1.below (show Below _ _ w20 by (repeat (first | exact bl_refl | assumption | (apply bl_then; assumption) | refine bl_alloc ?_ _ | refine bl_drew ?_ | refine bl_drewN ?_ _)))
      have fhB1_w20 := hB1_w20.facts
      have hB6_w20 := hB6.below (show Below _ _ w20 by (repeat (first | exact bl_refl | assumption | (apply bl_then; assumption) | refine bl_alloc ?_ _ | refine bl_drew ?_ | refine bl_drewN ?_ _)))
      have fhB6_w20 := hB6_w20.facts
      have hB12_w20 := hB12.below (show Below _ _ w20 by (repeat (first | exact bl_refl | assumption | (apply bl_then; assumption) | refine bl_alloc ?_ _ | refine bl_drew ?_ | refine bl_drewN ?_ _)))
      have fhB12_w20 := hB12_w20.facts
      refine wpMid_run rfl (fun K hK => ?_)
      go_simp
      refine (sameKnots_any O O _ ((hO4.rd kc_len).below (by (repeat (first | exact bl_refl | assumption | (apply bl_then; assumption) | refine bl_alloc ?_ _ | refine bl_drew ?_ | refine bl_drewN ?_ _)))) (hO20.rd kc_len)).mono ?_
      rintro e w21 ⟨rfl, hb21⟩
      refine hK _ _ (by (repeat (first | exact bl_refl | assumption | (apply bl_then; assumption) | refine bl_alloc ?_ _ | refine bl_drew ?_ | refine bl_drewN ?_ _))) ?_
      clear hK K
      have hB1_w21 := hB1.below (show Below _ _ w21 by (repeat (first | exact bl_refl | assumption | (apply bl_then; assumption) | refine bl_alloc ?_ _ | refine bl_drew ?_ | refine bl_drewN ?_ _)))
      have fhB1_w21 := hB1_w21.facts
      have hB6_w21 := hB6.below (show Below _ _ w21 by (repeat (first | exact bl_refl | assumption | (apply bl_then; assumption) | refine bl_alloc ?_ _ | refine bl_drew ?_ | refine bl_drewN ?_ _)))
      have fhB6_w21 := hB6_w21.facts
      have hB12_w21 := hB12.below (show Below _ _ w21 by (repeat (first | exact bl_refl | assumption | (apply bl_then; assumption) | refine bl_alloc ?_ _ | refine bl_drew ?_ | refine bl_drewN ?_ _)))
      have fhB12_w21 := hB12_w21.facts
      refine wpMid_run rfl (fun K hK => ?_)
      go_simp
      refine hK _ _ (by (repeat (first | exact bl_refl | assumption | (apply bl_then; assumption) | refine bl_alloc ?_ _ | refine bl_drew ?_ | refine bl_drewN ?_ _))) ?_
      clear hK K
      refine wpMid_run rfl (fun K hK => ?_)
      go_simp
      refine hK _ _ (by (repeat (first | exact bl_refl | assumption | (apply bl_then; assumption) | refine bl_alloc ?_ _ | refine bl_drew ?_ | refine bl_drewN ?_ _))) ?_
      clear hK K
      refine wpMid_take rfl ?_
      intro K hK
      go_big_quiet_op
      go_big_quiet_on
      refine wpMid_run rfl (fun K hK => ?_)
      go_simp
      refine hK _ _ (by (repeat (first | exact bl_refl | assumption | (apply bl_then; assumption) | refine bl_alloc ?_ _ | refine bl_drew ?_ | refine bl_drewN ?_ _))) ?_
      clear hK K
      refine wpMid_run rfl (fun K hK => ?_)
      go_simp
      refine (cRC _ (by (repeat (first | exact bl_refl | assumption | (apply bl_then; assumption) | refine bl_alloc ?_ _ | refine bl_drew ?_ | refine bl_drewN ?_ _)))).mono ?_
      rintro e w22 ⟨rfl, hb22⟩
      refine hK _ _ (by (repeat (first | exact bl_refl | assumption | (apply bl_then; assumption) | refine bl_alloc ?_ _ | refine bl_drew ?_ | refine bl_drewN ?_ _))) ?_
      clear hK K
      have hB1_w22 := hB1.below (show Below _ _ w22 by (repeat (first | exact bl_refl | assumption | (apply bl_then; assumption) | refine bl_alloc ?_ _ | refine bl_drew ?_ | refine bl_drewN ?_ _)))
      have fhB1_w22 := hB1_w22.facts
      have hB6_w22 := hB6.below (show Below _ _ w22 by (repeat (first | exact bl_refl | assumption | (apply bl_then; assumption) | refine bl_alloc ?_ _ | refine bl_drew ?_ | refine bl_drewN ?_ _)))
      have fhB6_w22 := hB6_w22.facts
      have hB12_w22 := hB12.below (show Below _ _ w22 by (repeat (first | exact bl_refl | assumption | (apply bl_then; assumption) | refine bl_alloc ?_ _ | refine bl_drew ?_ | refine bl_drewN ?_ _)))
      have fhB12_w22 := hB12_w22.facts
      refine wpMid_run rfl (fun K hK => ?_)
      go_simp
      refine hK _ _ (by (repeat (first | exact bl_refl | assumption | (apply bl_then; assumption) | refine bl_alloc ?_ _ | refine bl_drew ?_ | refine bl_drewN ?_ _))) ?_
      clear hK K
      refine wpMid_run rfl (fun K hK => ?_)
      go_simp
      refine hK _ _ (by (repeat (first | exact bl_refl | assumption | (apply bl_then; assumption) | refine bl_alloc ?_ _ | refine bl_drew ?_ | refine bl_drewN ?_ _))) ?_
      clear hK K
      refine wpMid_run rfl (fun K hK => ?_)
      go_simp
      refine hK _ _ (by (repeat (first | exact bl_refl | assumption | (apply bl_then; assumption) | refine bl_alloc ?_ _ | refine bl_drew ?_ | refine bl_drewN ?_ _))) ?_
      clear hK K
      refine wpMid_take rfl ?_
      intro K hK
      go_big_quiet_op
      go_big_quiet_on
      refine wpMid_take rfl ?_
      intro K hK
      go_big_quiet_op
      go_big_quiet_on
      refine wpMid_run rfl (fun K hK => ?_)
      go_simp
      refine (lstrips_any S _ c8 _ (hr8.below (by (repeat (first | exact bl_refl | assumption | (apply bl_then; assumption) | refine bl_alloc ?_ _ | refine bl_drew ?_ | refine bl_drewN ?_ _)))) (by omega)).mono ?_
      rintro e w23 ⟨v23, rfl, hO23, hb23⟩
      refine hK _ _ (by (repeat (first | exact bl_refl | assumption | (apply bl_then; assumption) | refine bl_alloc ?_ _ | refine bl_drew ?_ | refine bl_drewN ?_ _))) ?_
      clear hK K
      have hB1_w23 := hB1.below (show Below _ _ w23 by (repeat (first | exact bl_refl | assumption | (apply bl_then; assumption) | refine bl_alloc ?_ _ | refine bl_drew ?_ | refine bl_drewN ?_ _)))
      have fhB1_w23 := hB1_w23.facts
      have hB6_w23 := hB6.below (show Below _ _ w23 by (repeat (first | exact bl_refl | assumption | (apply bl_then; assumption) | refine bl_alloc ?_ _ | refine bl_drew ?_ | refine bl_drewN ?_ _)))
      have fhB6_w23 := hB6_w23.facts
      have hB12_w23 := hB12.below (show Below _ _ w23 by (repeat (first | exact bl_refl | assumption | (apply bl_then; assumption) | refine bl_alloc ?_ _ | refine bl_drew ?_ | refine bl_drewN ?_ _)))
      have fhB12_w23 := hB12_w23.facts
      refine wpMid_run rfl (fun K hK => ?_)
      go_simp
      refine (cRS _ (by (repeat (first | exact bl_refl | assumption | (apply bl_then; assumption) | refine bl_alloc ?_ _ | refine bl_drew ?_ | refine bl_drewN ?_ _)))).mono ?_
      rintro e w24 ⟨v24, rfl, hO24, hb24⟩
      refine hK _ _ (by (repeat (first | exact bl_refl | assumption | (apply bl_then; assumption) | refine bl_alloc ?_ _ | refine bl_drew ?_ | refine bl_drewN ?_ _))) ?_
      clear hK K
      have hB1_w24 := hB1.below (show Below _ _ w24 by (repeat (first | exact bl_refl | assumption | (apply bl_then; assumption) | refine bl_alloc ?_ _ | refine bl_drew ?_ | refine bl_drewN ?_ _)))
      have fhB1_w24 := hB1_w24.facts
      have hB6_w24 := hB6.below (show Below _ _ w24 by (repeat (first | exact bl_refl | assumption | (apply bl_then; assumption) | refine bl_alloc ?_ _ | refine bl_drew ?_ | refine bl_drewN ?_ _)))
      have fhB6_w24 := hB6_w24.facts
      have hB12_w24 := hB12.below (show Below _ _ w24 by (repeat (first | exact bl_refl | assumption | (apply bl_then; assumption) | refine bl_alloc ?_ _ | refine bl_drew ?_ | refine bl_drewN ?_ _)))
      have fhB12_w24 := hB12_w24.facts
      refine wpMid_run rfl (fun K hK => ?_)
      go_simp
      refine (sameStrips_any S S _ ((hO23.rd trc_len).below (by (repeat (first | exact bl_refl | assumption | (apply bl_then; assumption) | refine bl_alloc ?_ _ | refine bl_drew ?_ | refine bl_drewN ?_ _)))) (hO24.rd trc_len)).mono ?_
      rintro e w25 ⟨rfl, hb25⟩
      refine hK _ _ (by (repeat (first | exact bl_refl | assumption | (apply bl_then; assumption) | refine bl_alloc ?_ _ | refine bl_drew ?_ | refine bl_drewN ?_ _))) ?_
      clear hK K
      have hB1_w25 := hB1.below (show Below _ _ w25 by (repeat (first | exact bl_refl | assumption | (apply bl_then; assumption) | refine bl_alloc ?_ _ | refine bl_drew ?_ | refine bl_drewN ?_ _)))
      have fhB1_w25 := hB1_w25.facts
      have hB6_w25 := hB6.below (show Below _ _ w25 by (repeat (first | exact bl_refl | assumption | (apply bl_then; assumption) | refine bl_alloc ?_ _ | refine bl_drew ?_ | refine bl_drewN ?_ _)))
      have fhB6_w25 := hB6_w25.facts
      have hB12_w25 := hB12.below (show Below _ _ w25 by (repeat (first | exact bl_refl | assumption | (apply bl_then; assumption) | refine bl_alloc ?_ _ | refine bl_drew ?_ | refine bl_drewN ?_ _)))
      have fhB12_w25 := hB12_w25.facts
      refine wpMid_run rfl (fun K hK => ?_)
      go_simp
      refine hK _ _ (by (repeat (first | exact bl_refl | assumption | (apply bl_then; assumption) | refine bl_alloc ?_ _ | refine bl_drew ?_ | refine bl_drewN ?_ _))) ?_
      clear hK K
      refine wpMid_run rfl (fun K hK => ?_)
      go_simp
      refine hK _ _ (by (repeat (first | exact bl_refl | assumption | (apply bl_then; assumption) | refine bl_alloc ?_ _ | refine bl_drew ?_ | refine bl_drewN ?_ _))) ?_
      clear hK K
      refine wpMid_take rfl ?_
      intro K hK
      go_big_quiet_op
      go_big_quiet_on
      refine wpMid_run rfl (fun K hK => ?_)
      go_simp
      refine hK _ _ (by (repeat (first | exact bl_refl | assumption | (apply bl_then; assumption) | refine bl_alloc ?_ _ | refine bl_drew ?_ | refine bl_drewN ?_ _))) ?_
      clear hK K
      refine wpMid_run rfl (fun K hK => ?_)
      go_simp
      refine (cRA _ (by (repeat (first | exact bl_refl | assumption | (apply bl_then; assumption) | refine bl_alloc ?_ _ | refine bl_drew ?_ | refine bl_drewN ?_ _)))).mono ?_
      rintro e w26 ⟨rfl, hb26⟩
      refine hK _ _ (by (repeat (first | exact bl_refl | assumption | (apply bl_then; assumption) | refine bl_alloc ?_ _ | refine bl_drew ?_ | refine bl_drewN ?_ _))) ?_
      clear hK K
      have hB1_w26 := hB1.below (show Below _ _ w26 by (repeat (first | exact bl_refl | assumption | (apply bl_then; assumption) | refine bl_alloc ?_ _ | refine bl_drew ?_ | refine bl_drewN ?_ _)))
      have fhB1_w26 := hB1_w26.facts
      have hB6_w26 := hB6.below (show Below _ _ w26 by (repeat (first | exact bl_refl | assumption | (apply bl_then; assumption) | refine bl_alloc ?_ _ | refine bl_drew ?_ | refine bl_drewN ?_ _)))
      have fhB6_w26 := hB6_w26.facts
      have hB12_w26 := hB12.below (show Below _ _ w26 by (repeat (first | exact bl_refl | assumption | (apply bl_then; assumption) | refine bl_alloc ?_ _ | refine bl_drew ?_ | refine bl_drewN ?_ _)))
      have fhB12_w26 := hB12_w26.facts
      refine wpMid_run rfl (fun K hK => ?_)
      go_simp
      refine hK _ _ (by (repeat (first | exact bl_refl | assumption | (apply bl_then; assumption) | refine bl_alloc ?_ _ | refine bl_drew ?_ | refine bl_drewN ?_ _))) ?_
      clear hK K
      refine wpMid_run rfl (fun K hK => ?_)
      go_simp
      refine hK _ _ (by (repeat (first | exact bl_refl | assumption | (apply bl_then; assumption) | refine bl_alloc ?_ _ | refine bl_drew ?_ | refine bl_drewN ?_ _))) ?_
      clear hK K
      refine wpMid_run rfl (fun K hK => ?_)
      go_simp
      refine hK _ _ (by (repeat (first | exact bl_refl | assumption | (apply bl_then; assumption) | refine bl_alloc ?_ _ | refine bl_drew ?_ | refine bl_drewN ?_ _))) ?_
      clear hK K
      refine wpMid_take rfl ?_
      intro K hK
      go_big_quiet_op
      go_big_quiet_on
      refine wpMid_run rfl (fun K hK => ?_)
      go_simp
      refine hK _ _ (by (repeat (first | exact bl_refl | assumption | (apply bl_then; assumption) | refine bl_alloc ?_ _ | refine bl_drew ?_ | refine bl_drewN ?_ _))) ?_
      clear hK K
      refine wpMid_run rfl (fun K hK => ?_)
      go_simp
      refine (cRT _ (by (repeat (first | exact bl_refl | assumption | (apply bl_then; assumption) | refine bl_alloc ?_ _ | refine bl_drew ?_ | refine bl_drewN ?_ _)))).mono ?_
      rintro e w27 ⟨rfl, hb27⟩
      refine hK _ _ (by (repeat (first | exact bl_refl | assumption | (apply bl_then; assumption) | refine bl_alloc ?_ _ | refine bl_drew ?_ | refine bl_drewN ?_ _))) ?_
      clear hK K
      have hB1_w27 := hB1.below (show Below _ _ w27 by (repeat (first | exact bl_refl | assumption | (apply bl_then; assumption) | refine bl_alloc ?_ _ | refine bl_drew ?_ | refine bl_drewN ?_ _)))
      have fhB1_w27 := hB1_w27.facts
      have hB6_w27 := hB6.below (show Below _ _ w27 by (repeat (first | exact bl_refl | assumption | (apply bl_then; assumption) | refine bl_alloc ?_ _ | refine bl_drew ?_ | refine bl_drewN ?_ _)))
      have fhB6_w27 := hB6_w27.facts
      have hB12_w27 := hB12.below (show Below _ _ w27 by (repeat (first | exact bl_refl | assumption | (apply bl_then; assumption) | refine bl_alloc ?_ _ | refine bl_drew ?_ | refine bl_drewN ?_ _)))
      have fhB12_w27 := hB12_w27.facts
      refine wpMid_nil ?_
      go_wp2
      go_ret
      exact ⟨rfl, by (repeat (first | exact bl_refl | assumption | (apply bl_then; assumption) | refine bl_alloc ?_ _ | refine bl_drew ?_ | refine bl_drewN ?_ _))⟩
    · obtain ⟨E, hE⟩ : ∃ z, panE p = z := ⟨_, rfl⟩
      rw [show cornR p = zeros8 from if_neg hz] at cC
      rw [show lettR p = #[.int .i64 0, .int .i64 0, .int .i64 0] from if_neg hz] at cT
      unfold zeros8 at cC
      rw [hE] at cRP cO cC cS cA cT hz
      rw [show onlyOk E (outP p right) = [] from if_neg hz] at cO
      rw [show onlyOk E (strips p) = [] from if_neg hz] at cS
      rw [show onlyN E (areaS (strips p)) = 0 from if_neg hz] at cA
      simp only [sV] at cSh cG cRP cO cC cS cA cT ⊢
      have tz : (E != 0) = true := by simpa using hz
      clear hE hz hq hwL hwR hL hR
      go_enter Tryz.func4, Tryz.ntmps4
      go_wp2_with fail
      refine (cAw _ (by (repeat (first | exact bl_refl | assumption | (apply bl_then; assumption) | refine bl_alloc ?_ _ | refine bl_drew ?_ | refine bl_drewN ?_ _)))).mono ?_
      rintro e w1 ⟨rfl, hb1⟩
      replace hB1 := hB1.below (show Below _ _ w1 by (repeat (first | exact bl_refl | assumption | (apply bl_then; assumption) | refine bl_alloc ?_ _ | refine bl_drew ?_ | refine bl_drewN ?_ _)))
      replace fhB1 := hB1.facts
      go_wp2_with fail
      refine (cSh _ (by (repeat (first | exact bl_refl | assumption | (apply bl_then; assumption) | refine bl_alloc ?_ _ | refine bl_drew ?_ | refine bl_drewN ?_ _)))).mono ?_
      rintro e w2 ⟨rfl, hb2⟩
      replace hB1 := hB1.below (show Below _ _ w2 by (repeat (first | exact bl_refl | assumption | (apply bl_then; assumption) | refine bl_alloc ?_ _ | refine bl_drew ?_ | refine bl_drewN ?_ _)))
      replace fhB1 := hB1.facts
      go_wp2_with fail
      refine (cG _ (by (repeat (first | exact bl_refl | assumption | (apply bl_then; assumption) | refine bl_alloc ?_ _ | refine bl_drew ?_ | refine bl_drewN ?_ _)))).mono ?_
      rintro e w3 ⟨uL3, uR3, rfl, oL3, oR3, hb3⟩
      replace hB1 := hB1.below (show Below _ _ w3 by (repeat (first | exact bl_refl | assumption | (apply bl_then; assumption) | refine bl_alloc ?_ _ | refine bl_drew ?_ | refine bl_drewN ?_ _)))
      replace fhB1 := hB1.facts
      go_wp2_with fail
      refine (cO _ _ _ (oL3.rd ec_len) (oR3.rd ec_len)).mono ?_
      rintro e w4 ⟨v4, rfl, hO4, hb4⟩
      replace hB1 := hB1.below (show Below _ _ w4 by (repeat (first | exact bl_refl | assumption | (apply bl_then; assumption) | refine bl_alloc ?_ _ | refine bl_drew ?_ | refine bl_drewN ?_ _)))
      replace fhB1 := hB1.facts
      obtain ⟨A4, c4, hv4⟩ : ∃ A c, v4 = .slice A 0 c := by obtain ⟨A, c, rfl⟩ := hO4.shape; exact ⟨A, c, rfl⟩
      subst hv4
      go_wp2_with fail
      refine (cG _ (by (repeat (first | exact bl_refl | assumption | (apply bl_then; assumption) | refine bl_alloc ?_ _ | refine bl_drew ?_ | refine bl_drewN ?_ _)))).mono ?_
      rintro e w5 ⟨uL5, uR5, rfl, oL5, oR5, hb5⟩
      replace hB1 := hB1.below (show Below _ _ w5 by (repeat (first | exact bl_refl | assumption | (apply bl_then; assumption) | refine bl_alloc ?_ _ | refine bl_drew ?_ | refine bl_drewN ?_ _)))
      replace fhB1 := hB1.facts
      go_wp2_with fail
      refine (cC _ _ _ (oL5.rd ec_len) (oR5.rd ec_len)).mono ?_
      rintro e w6 ⟨rfl, hb6⟩
      replace hB1 := hB1.below (show Below _ _ w6 by (repeat (first | exact bl_refl | assumption | (apply bl_then; assumption) | refine bl_alloc ?_ _ | refine bl_drew ?_ | refine bl_drewN ?_ _)))
      replace fhB1 := hB1.facts
      have hB6 := Blk.new w6 47 #[.int .i64 0, .int .i64 0, .int .i64 0, .int .i64 0, .int .i64 0, .int .i64 0, .int .i64 0, .int .i64 0]
      have fB6 := hB6.facts
      go_wp2_with fail
      refine (cG _ (by (repeat (first | exact bl_refl | assumption | (apply bl_then; assumption) | refine bl_alloc ?_ _ | refine bl_drew ?_ | refine bl_drewN ?_ _)))).mono ?_
      rintro e w7 ⟨uL7, uR7, rfl, oL7, oR7, hb7⟩
      replace hB1 := hB1.below (show Below _ _ w7 by (repeat (first | exact bl_refl | assumption | (apply bl_then; assumption) | refine bl_alloc ?_ _ | refine bl_drew ?_ | refine bl_drewN ?_ _)))
      replace fhB1 := hB1.facts
      replace hB6 := hB6.below (show Below _ _ w7 by (repeat (first | exact bl_refl | assumption | (apply bl_then; assumption) | refine bl_alloc ?_ _ | refine bl_drew ?_ | refine bl_drewN ?_ _)))
      replace fhB6 := hB6.facts
      go_wp2_with fail
      refine (cS _ _ _ (oL7.rd ec_len) (oR7.rd ec_len)).mono ?_
      rintro e w8 ⟨v8, rfl, hS8, hb8⟩
      replace hB1 := hB1.below (show Below _ _ w8 by (repeat (first | exact bl_refl | assumption | (apply bl_then; assumption) | refine bl_alloc ?_ _ | refine bl_drew ?_ | refine bl_drewN ?_ _)))
      replace fhB1 := hB1.facts
      replace hB6 := hB6.below (show Below _ _ w8 by (repeat (first | exact bl_refl | assumption | (apply bl_then; assumption) | refine bl_alloc ?_ _ | refine bl_drew ?_ | refine bl_drewN ?_ _)))
      replace fhB6 := hB6.facts
      obtain ⟨A8, c8, hv8⟩ : ∃ A c, v8 = .slice A 0 c := by obtain ⟨A, c, rfl⟩ := hS8.shape; exact ⟨A, c, rfl⟩
      subst hv8
      go_wp2_with fail
      refine (cG _ (by (repeat (first | exact bl_refl | assumption | (apply bl_then; assumption) | refine bl_alloc ?_ _ | refine bl_drew ?_ | refine bl_drewN ?_ _)))).mono ?_
      rintro e w9 ⟨uL9, uR9, rfl, oL9, oR9, hb9⟩
      replace hB1 := hB1.below (show Below _ _ w9 by (repeat (first | exact bl_refl | assumption | (apply bl_then; assumption) | refine bl_alloc ?_ _ | refine bl_drew ?_ | refine bl_drewN ?_ _)))
      replace fhB1 := hB1.facts
      replace hB6 := hB6.below (show Below _ _ w9 by (repeat (first | exact bl_refl | assumption | (apply bl_then; assumption) | refine bl_alloc ?_ _ | refine bl_drew ?_ | refine bl_drewN ?_ _)))
      replace fhB6 := hB6.facts
      go_wp2_with fail
      refine (cA _ _ _ (oL9.rd ec_len) (oR9.rd ec_len)).mono ?_
      rintro e w10 ⟨rfl, hb10⟩
      replace hB1 := hB1.below (show Below _ _ w10 by (repeat (first | exact bl_refl | assumption | (apply bl_then; assumption) | refine bl_alloc ?_ _ | refine bl_drew ?_ | refine bl_drewN ?_ _)))
      replace fhB1 := hB1.facts
      replace hB6 := hB6.below (show Below _ _ w10 by (repeat (first | exact bl_refl | assumption | (apply bl_then; assumption) | refine bl_alloc ?_ _ | refine bl_drew ?_ | refine bl_drewN ?_ _)))
      replace fhB6 := hB6.facts
      go_wp2_with fail
      refine (cG _ (by (repeat (first | exact bl_refl | assumption | (apply bl_then; assumption) | refine bl_alloc ?_ _ | refine bl_drew ?_ | refine bl_drewN ?_ _)))).mono ?_
      rintro e w11 ⟨uL11, uR11, rfl, oL11, oR11, hb11⟩
      replace hB1 := hB1.below (show Below _ _ w11 by (repeat (first | exact bl_refl | assumption | (apply bl_then; assumption) | refine bl_alloc ?_ _ | refine bl_drew ?_ | refine bl_drewN ?_ _)))
      replace fhB1 := hB1.facts
      replace hB6 := hB6.below (show Below _ _ w11 by (repeat (first | exact bl_refl | assumption | (apply bl_then; assumption) | refine bl_alloc ?_ _ | refine bl_drew ?_ | refine bl_drewN ?_ _)))
      replace fhB6 := hB6.facts
      go_wp2_with fail
      refine (cT _ _ _ (oL11.rd ec_len) (oR11.rd ec_len)).mono ?_
      rintro e w12 ⟨rfl, hb12⟩
      replace hB1 := hB1.below (show Below _ _ w12 by (repeat (first | exact bl_refl | assumption | (apply bl_then; assumption) | refine bl_alloc ?_ _ | refine bl_drew ?_ | refine bl_drewN ?_ _)))
      replace fhB1 := hB1.facts
      replace hB6 := hB6.below (show Below _ _ w12 by (repeat (first | exact bl_refl | assumption | (apply bl_then; assumption) | refine bl_alloc ?_ _ | refine bl_drew ?_ | refine bl_drewN ?_ _)))
      replace fhB6 := hB6.facts
      have hB12 := Blk.new w12 53 #[.int .i64 0, .int .i64 0, .int .i64 0]
      have fB12 := hB12.facts
      go_wp2_with fail
      refine (cRP _ (by (repeat (first | exact bl_refl | assumption | (apply bl_then; assumption) | refine bl_alloc ?_ _ | refine bl_drew ?_ | refine bl_drewN ?_ _)))).mono ?_
      rintro e w13 ⟨rfl, hb13⟩
      replace hB1 := hB1.below (show Below _ _ w13 by (repeat (first | exact bl_refl | assumption | (apply bl_then; assumption) | refine bl_alloc ?_ _ | refine bl_drew ?_ | refine bl_drewN ?_ _)))
      replace fhB1 := hB1.facts
      replace hB6 := hB6.below (show Below _ _ w13 by (repeat (first | exact bl_refl | assumption | (apply bl_then; assumption) | refine bl_alloc ?_ _ | refine bl_drew ?_ | refine bl_drewN ?_ _)))
      replace fhB6 := hB6.facts
      replace hB12 := hB12.below (show Below _ _ w13 by (repeat (first | exact bl_refl | assumption | (apply bl_then; assumption) | refine bl_alloc ?_ _ | refine bl_drew ?_ | refine bl_drewN ?_ _)))
      replace fhB12 := hB12.facts
      go_wp2
      go_ret
      exact ⟨rfl, by (repeat (first | exact bl_refl | assumption | (apply bl_then; assumption) | refine bl_alloc ?_ _ | refine bl_drew ?_ | refine bl_drewN ?_ _))⟩
end Go.Proofs.YtilfeobkiiefkaaGreatDoor

/- PanelFrames, walked. Conditions: the variables are laid. -/
import Derived.Test.YthkjgcldolnjaaaGreatDoorH37
import Derived.Test.YthkjgcldolnjaaaGreatDoorH40
import Derived.Test.YthkjgcldolnjaaaGreatDoorVreJ
namespace Go.Proofs.YthkjgcldolnjaaaGreatDoor
open Go.RowKit Go.ChangeMaps
set_option maxHeartbeats 4000000
set_option maxRecDepth 100000

attribute [local go_sem] Oper.semAt_some
theorem eqin_knotT (d : Nat) (x y : Int) (w : World) : (Op.equalIn (d + 2) 52 (.agg #[.int .i64 x, .int .i64 y]) (.agg #[.int .i64 x, .int .i64 y])).run Tryz.prog w = .ok true w := by
  have he : ∀ (a : Int) (w : World), (Op.equalIn (d + 1) 3 (.int .i64 a) (.int .i64 a)).run Tryz.prog w = .ok (a == a) w := fun a w => run_equalIn_int w d 3 .i64 .i64 a a (by kernel_rfl)
  simp [go_sem, he]
theorem eqin_frameR (d : Nat) (x y c r : Int) (w : World) : (Op.equalIn (d + 3) 57 (.agg #[.int .i64 x, .int .i64 y, .int .i64 c, .int .i64 r]) (.agg #[.int .i64 x, .int .i64 y, .int .i64 c, .int .i64 r])).run Tryz.prog w = .ok true w := by
  have hk := fun W => eqin_knotT d x y W
  have he : ∀ (a : Int) (w : World), (Op.equalIn (d + 2) 3 (.int .i64 a) (.int .i64 a)).run Tryz.prog w = .ok (a == a) w := fun a w => run_equalIn_int w (d + 1) 3 .i64 .i64 a a (by kernel_rfl)
  simp [go_sem, hk, he]
theorem eqin_frameP (d : Nat) (x y c r : Int) (w : World) : (Op.equalIn (d + 3) 54 (.agg #[.int .i64 x, .int .i64 y, .int .i64 c, .int .i64 r]) (.agg #[.int .i64 x, .int .i64 y, .int .i64 c, .int .i64 r])).run Tryz.prog w = .ok true w := by
  have hk := fun W => eqin_knotT d x y W
  have he : ∀ (a : Int) (w : World), (Op.equalIn (d + 2) 3 (.int .i64 a) (.int .i64 a)).run Tryz.prog w = .ok (a == a) w := fun a w => run_equalIn_int w (d + 1) 3 .i64 .i64 a a (by kernel_rfl)
  simp [go_sem, hk, he]
@[go_sem] theorem eq_frameR (x y c r : Int) (w : World) : (Op.equalIn 10000 57 (.agg #[.int .i64 x, .int .i64 y, .int .i64 c, .int .i64 r]) (.agg #[.int .i64 x, .int .i64 y, .int .i64 c, .int .i64 r])).run Tryz.prog w = .ok true w := eqin_frameR 9997 x y c r w
@[go_sem] theorem eq_frameP (x y c r : Int) (w : World) : (Op.equalIn 10000 54 (.agg #[.int .i64 x, .int .i64 y, .int .i64 c, .int .i64 r]) (.agg #[.int .i64 x, .int .i64 y, .int .i64 c, .int .i64 r])).run Tryz.prog w = .ok true w := eqin_frameP 9997 x y c r w
/-! # PanelFrames -/
theorem panelFrames_any {vL vR : Value} (p : Pan) (W : World) (hnm : p.1.length ≤ maxLen) (hL : SlE W vL p.2.2.1) (hR : SlE W vR p.2.2.2) (hLay : Lay W) :
    Calls Tryz.prog 5 #[.agg #[sV p.1, .int .i64 p.2.1, vL, vR]] W (RV W (.bool true)) := by
  have cAw := fun W' (hb : Below W.heap.size W W') => awakeP_any W' (hLay.below hb)
  have cSh := fun W' (hb : Below W.heap.size W W') => shortP_any p 16 W' hnm (hL.below hb) (hR.below hb)
  obtain ⟨q, hq⟩ : ∃ q, shortP p 16 = q := ⟨_, rfl⟩
  rw [hq] at cSh
  obtain ⟨AL, cL, hvL, hLc, hLm, rL⟩ := id hL
  obtain ⟨AR, cR, hvR, hRc, hRm, rR⟩ := id hR
  subst hvL hvR
  have hB1 := Blk.new W 24 #[.string ⟨p.1.toArray⟩, .int .i64 p.2.1, .slice AL p.2.2.1.length cL, .slice AR p.2.2.2.length cR]
  have fB1 := hB1.facts
  clear rL rR hLc hLm hRc hRm
  cases q
  · unfold sV at cSh ⊢
    clear hq hL hR
    go_enter Tryz.func5, Tryz.ntmps5
    go_wp2_with fail
    refine (cAw _ (by (repeat (first | exact bl_refl | assumption | (apply bl_then; assumption) | refine bl_alloc ?_ _ | refine bl_drew ?_ | refine bl_drewN ?_ _)))).mono ?_
    rintro e w1 ⟨rfl, hb1⟩
    replace hB1 := hB1.below (show Below _ _ w1 by (repeat (first | exact bl_refl | assumption | (apply bl_then; assumption) | refine bl_alloc ?_ _ | refine bl_drew ?_ | refine bl_drewN ?_ _)))
    replace fhB1 := hB1.facts
    go_wp2_with fail
    refine (cSh _ (by (repeat (first | exact bl_refl | assumption | (apply bl_then; assumption) | refine bl_alloc ?_ _ | refine bl_drew ?_ | refine bl_drewN ?_ _)))).mono ?_
    rintro e w2 ⟨rfl, hb2⟩
    go_wp2_with fail
    refine (cAw _ (by (repeat (first | exact bl_refl | assumption | (apply bl_then; assumption) | refine bl_alloc ?_ _ | refine bl_drew ?_ | refine bl_drewN ?_ _)))).mono ?_
    rintro e w3 ⟨rfl, hb3⟩
    go_wp2
    go_ret
    exact ⟨rfl, by (repeat (first | exact bl_refl | assumption | (apply bl_then; assumption) | refine bl_alloc ?_ _ | refine bl_drew ?_ | refine bl_drewN ?_ _))⟩
  · obtain ⟨hn60, ⟨hlL, hwL⟩, hlR, hwR⟩ := shortP_words hq
    have cG := fun W' (hb : Below W.heap.size W W') => given_any p W' (hL.below hb) (hR.below hb) (by omega) (by omega)
    have cRP := fun W' (hb : Below W.heap.size W W') => rcheckPanel_any p W' (by omega) (hL.below hb) (hR.below hb) (fun e he => by have := hwL e he; omega) (fun e he => by have := hwR e he; omega)
    unfold GIW at cG
    have cF := fun (vL vR : Value) W' hL hR => apiAround_any (vL := vL) (vR := vR) p W' (by omega) hL hR
    have cR := fun (vL vR : Value) W' hL hR => apiRest_any (vL := vL) (vR := vR) p W' (by omega) hL hR
    by_cases hz : panE p = 0
    · obtain ⟨_, hRe, hRl⟩ := small_all hq hz
      have hok := panE_zero hz
      have hsm := (shortP_small (n := 16) hq hok).frame
      have cRF := fun W' (hb : Below W.heap.size W W') => raroundP_any p W' (hL.below hb) (hR.below hb) hok
      have cRR := fun W' (hb : Below W.heap.size W W') => rrestP_any p W' (hL.below hb) (hR.below hb) hok hsm.1 hsm.2
      rw [hz] at cRP cF
      rw [hRe, hRl] at cR
      have hFR : frmR p = #[.int .i64 (frmX p), .int .i64 0, .int .i64 (frmC p), .int .i64 (heightP p)] := if_pos hz
      have hFA : frmA p = #[.int .i64 (frmX p), .int .i64 0, .int .i64 (frmC p), .int .i64 (heightP p)] := rfl
      rw [hFR] at cF
      rw [hFA] at cRF
      simp only [sV] at cSh cG cRP cF cR cRF cRR ⊢
      obtain ⟨N, hN⟩ : ∃ z, wout (shN (frmX p) 0 (frmC p).toNat (heightP p).toNat) (netL p) = z := ⟨_, rfl⟩
      rw [hN] at cR cRR
      obtain ⟨x0, h0⟩ : ∃ z, frmX p = z := ⟨_, rfl⟩
      obtain ⟨x2, h2⟩ : ∃ z, frmC p = z := ⟨_, rfl⟩
      obtain ⟨x3, h3⟩ : ∃ z, heightP p = z := ⟨_, rfl⟩
      rw [h0, h2, h3] at cF cRF
      have cNet := fun (v u : Value) W' h h' => lnetP_any (v := v) (u := u) N N 0 0 W' h h'
      rw [show netBP N 0 0 N = true by unfold netBP; simp] at cNet
      clear hz hok hN h0 h2 h3 hRe hRl hsm hFR hFA hq hwL hwR hL hR
      go_enter Tryz.func5, Tryz.ntmps5
      go_wp2_with fail
      refine (cAw _ (by (repeat (first | exact bl_refl | assumption | (apply bl_then; assumption) | refine bl_alloc ?_ _ | refine bl_drew ?_ | refine bl_drewN ?_ _)))).mono ?_
      rintro e w1 ⟨rfl, hb1⟩
      replace hB1 := hB1.below (show Below _ _ w1 by (repeat (first | exact bl_refl | assumption | (apply bl_then; assumption) | refine bl_alloc ?_ _ | refine bl_drew ?_ | refine bl_drewN ?_ _)))
      replace fhB1 := hB1.facts
      go_wp2_with fail
      refine (cSh _ (by (repeat (first | exact bl_refl | assumption | (apply bl_then; assumption) | refine bl_alloc ?_ _ | refine bl_drew ?_ | refine bl_drewN ?_ _)))).mono ?_
      rintro e w2 ⟨rfl, hb2⟩
      replace hB1 := hB1.below (show Below _ _ w2 by (repeat (first | exact bl_refl | assumption | (apply bl_then; assumption) | refine bl_alloc ?_ _ | refine bl_drew ?_ | refine bl_drewN ?_ _)))
      replace fhB1 := hB1.facts
      go_wp2_with fail
      refine (cG _ (by (repeat (first | exact bl_refl | assumption | (apply bl_then; assumption) | refine bl_alloc ?_ _ | refine bl_drew ?_ | refine bl_drewN ?_ _)))).mono ?_
      rintro e w3 ⟨uL3, uR3, rfl, oL3, oR3, hb3⟩
      replace hB1 := hB1.below (show Below _ _ w3 by (repeat (first | exact bl_refl | assumption | (apply bl_then; assumption) | refine bl_alloc ?_ _ | refine bl_drew ?_ | refine bl_drewN ?_ _)))
      replace fhB1 := hB1.facts
      go_wp2_with fail
      refine (cF _ _ _ (oL3.rd ec_len) (oR3.rd ec_len)).mono ?_
      rintro e w4 ⟨rfl, hb4⟩
      replace hB1 := hB1.below (show Below _ _ w4 by (repeat (first | exact bl_refl | assumption | (apply bl_then; assumption) | refine bl_alloc ?_ _ | refine bl_drew ?_ | refine bl_drewN ?_ _)))
      replace fhB1 := hB1.facts
      have hB4 := Blk.new w4 54 #[.int .i64 x0, .int .i64 0, .int .i64 x2, .int .i64 x3]
      have fB4 := hB4.facts
      go_wp2_with fail
      refine (cG _ (by (repeat (first | exact bl_refl | assumption | (apply bl_then; assumption) | refine bl_alloc ?_ _ | refine bl_drew ?_ | refine bl_drewN ?_ _)))).mono ?_
      rintro e w5 ⟨uL5, uR5, rfl, oL5, oR5, hb5⟩
      replace hB1 := hB1.below (show Below _ _ w5 by (repeat (first | exact bl_refl | assumption | (apply bl_then; assumption) | refine bl_alloc ?_ _ | refine bl_drew ?_ | refine bl_drewN ?_ _)))
      replace fhB1 := hB1.facts
      replace hB4 := hB4.below (show Below _ _ w5 by (repeat (first | exact bl_refl | assumption | (apply bl_then; assumption) | refine bl_alloc ?_ _ | refine bl_drew ?_ | refine bl_drewN ?_ _)))
      replace fhB4 := hB4.facts
      go_wp2_with fail
      refine (cR _ _ _ (oL5.rd ec_len) (oR5.rd ec_len)).mono ?_
      rintro e w6 ⟨v6, rfl, hO6, hb6⟩
      replace hB1 := hB1.below (show Below _ _ w6 by (repeat (first | exact bl_refl | assumption | (apply bl_then; assumption) | refine bl_alloc ?_ _ | refine bl_drew ?_ | refine bl_drewN ?_ _)))
      replace fhB1 := hB1.facts
      replace hB4 := hB4.below (show Below _ _ w6 by (repeat (first | exact bl_refl | assumption | (apply bl_then; assumption) | refine bl_alloc ?_ _ | refine bl_drew ?_ | refine bl_drewN ?_ _)))
      replace fhB4 := hB4.facts
      obtain ⟨A6, c6, rfl⟩ := hO6.shape
      go_wp2_with fail
      refine (cRP _ (by (repeat (first | exact bl_refl | assumption | (apply bl_then; assumption) | refine bl_alloc ?_ _ | refine bl_drew ?_ | refine bl_drewN ?_ _)))).mono ?_
      rintro e w7 ⟨rfl, hb7⟩
      replace hB1 := hB1.below (show Below _ _ w7 by (repeat (first | exact bl_refl | assumption | (apply bl_then; assumption) | refine bl_alloc ?_ _ | refine bl_drew ?_ | refine bl_drewN ?_ _)))
      replace fhB1 := hB1.facts
      replace hB4 := hB4.below (show Below _ _ w7 by (repeat (first | exact bl_refl | assumption | (apply bl_then; assumption) | refine bl_alloc ?_ _ | refine bl_drew ?_ | refine bl_drewN ?_ _)))
      replace fhB4 := hB4.facts
      go_upto_region 8 with fail
      refine wp_region_ords [0, 1, 2, 3, 4] [(5, false), (6, false), (7, false), (8, false), (9, true), (10, true), (11, false), (12, false)] [13, 14, 15] (by kernel_rfl) (by kernel_rfl) (fun d _ _ _ _ h => by cases d <;> exact h) ?_
      simp only [List.map_cons, List.map_nil, List.getD_cons_zero, List.getD_cons_succ]
      repeat (go_big_quiet_step (fail))
      refine wpQuiet_nil ?_
      refine wpMid_run rfl (fun K hK => ?_)
      go_simp
      refine (cRF _ (by (repeat (first | exact bl_refl | assumption | (apply bl_then; assumption) | refine bl_alloc ?_ _ | refine bl_drew ?_ | refine bl_drewN ?_ _)))).mono ?_
      rintro e w8 ⟨rfl, hb8⟩
      refine hK _ _ (by (repeat (first | exact bl_refl | assumption | (apply bl_then; assumption) | refine bl_alloc ?_ _ | refine bl_drew ?_ | refine bl_drewN ?_ _))) ?_
      clear hK K
      have hB1_w8 := hB1.below (show Below _ _ w8 by (repeat (first | exact bl_refl | assumption | (apply bl_then; assumption) | refine bl_alloc ?_ _ | refine bl_drew ?_ | refine bl_drewN ?_ _)))
      have fhB1_w8 := hB1_w8.facts
      have hB4_w8 := hB4.below (show Below _ _ w8 by (repeat (first | exact bl_refl | assumption | (apply bl_then; assumption) | refine bl_alloc ?_ _ | refine bl_drew ?_ | refine bl_drewN ?_ _)))
      have fhB4_w8 := hB4_w8.facts
      refine wpMid_run rfl (fun K hK => ?_)
      go_simp
      refine hK _ _ (by (repeat (first | exact bl_refl | assumption | (apply bl_then; assumption) | refine bl_alloc ?_ _ | refine bl_drew ?_ | refine bl_drewN ?_ _))) ?_
      clear hK K
      refine wpMid_run rfl (fun K hK => ?_)
      go_simp
      refine hK _ _ (by (repeat (first | exact bl_refl | assumption | (apply bl_then; assumption) | refine bl_alloc ?_ _ | refine bl_drew ?_ | refine bl_drewN ?_ _))) ?_
      clear hK K
      refine wpMid_run rfl (fun K hK => ?_)
      go_simp
      refine hK _ _ (by (repeat (first | exact bl_refl | assumption | (apply bl_then; assumption) | refine bl_alloc ?_ _ | refine bl_drew ?_ | refine bl_drewN ?_ _))) ?_
      clear hK K
      refine wpMid_take rfl ?_
      intro K hK
      go_big_quiet_op
      go_big_quiet_on
      refine wpMid_take rfl ?_
      intro K hK
      go_big_quiet_op
      go_big_quiet_on
      refine wpMid_run rfl (fun K hK => ?_)
      go_simp
      refine hK _ _ (by (repeat (first | exact bl_refl | assumption | (apply bl_then; assumption) | refine bl_alloc ?_ _ | refine bl_drew ?_ | refine bl_drewN ?_ _))) ?_
      clear hK K
      refine wpMid_run rfl (fun K hK => ?_)
      go_simp
      refine (cRR _ (by (repeat (first | exact bl_refl | assumption | (apply bl_then; assumption) | refine bl_alloc ?_ _ | refine bl_drew ?_ | refine bl_drewN ?_ _)))).mono ?_
      rintro e w9 ⟨v9, rfl, hO9, hb9⟩
      refine hK _ _ (by (repeat (first | exact bl_refl | assumption | (apply bl_then; assumption) | refine bl_alloc ?_ _ | refine bl_drew ?_ | refine bl_drewN ?_ _))) ?_
      clear hK K
      have hB1_w9 := hB1.below (show Below _ _ w9 by (repeat (first | exact bl_refl | assumption | (apply bl_then; assumption) | refine bl_alloc ?_ _ | refine bl_drew ?_ | refine bl_drewN ?_ _)))
      have fhB1_w9 := hB1_w9.facts
      have hB4_w9 := hB4.below (show Below _ _ w9 by (repeat (first | exact bl_refl | assumption | (apply bl_then; assumption) | refine bl_alloc ?_ _ | refine bl_drew ?_ | refine bl_drewN ?_ _)))
      have fhB4_w9 := hB4_w9.facts
      refine wpMid_nil ?_
      go_wp2_with (go_at_call 24; refine (cNet _ _ _ ((hO6.rd bc_len).below (by (repeat (first | exact bl_refl | assumption | (apply bl_then; assumption) | refine bl_alloc ?_ _ | refine bl_drew ?_ | refine bl_drewN ?_ _)))) (hO9.rd bc_len)).mono ?_; rintro e w10 ⟨rfl, hb10⟩)
      go_ret
      exact ⟨rfl, by (repeat (first | exact bl_refl | assumption | (apply bl_then; assumption) | refine bl_alloc ?_ _ | refine bl_drew ?_ | refine bl_drewN ?_ _))⟩
    · have hR1 : restE p = panE p := by unfold restE; rw [net_err hz, if_pos hz]
      have hR2 : restL p = [] := by unfold restL; rw [hR1, if_neg hz]
      rw [hR1, hR2] at cR
      rw [show frmR p = #[.int .i64 0, .int .i64 0, .int .i64 0, .int .i64 0] from if_neg hz] at cF
      obtain ⟨E, hE⟩ : ∃ z, panE p = z := ⟨_, rfl⟩
      rw [hE] at cRP cF cR hz
      have cNet := fun (v u : Value) W' h h' => lnetP_any (v := v) (u := u) [] [] E E W' h h'
      rw [show netBP [] E E [] = true by unfold netBP; rw [if_pos hz]; simp] at cNet
      simp only [sV] at cSh cG cRP cF cR ⊢
      have tz : (E != 0) = true := by simpa using hz
      clear hE hz hR1 hR2 hq hwL hwR hL hR
      go_enter Tryz.func5, Tryz.ntmps5
      go_wp2_with fail
      refine (cAw _ (by (repeat (first | exact bl_refl | assumption | (apply bl_then; assumption) | refine bl_alloc ?_ _ | refine bl_drew ?_ | refine bl_drewN ?_ _)))).mono ?_
      rintro e w1 ⟨rfl, hb1⟩
      replace hB1 := hB1.below (show Below _ _ w1 by (repeat (first | exact bl_refl | assumption | (apply bl_then; assumption) | refine bl_alloc ?_ _ | refine bl_drew ?_ | refine bl_drewN ?_ _)))
      replace fhB1 := hB1.facts
      go_wp2_with fail
      refine (cSh _ (by (repeat (first | exact bl_refl | assumption | (apply bl_then; assumption) | refine bl_alloc ?_ _ | refine bl_drew ?_ | refine bl_drewN ?_ _)))).mono ?_
      rintro e w2 ⟨rfl, hb2⟩
      replace hB1 := hB1.below (show Below _ _ w2 by (repeat (first | exact bl_refl | assumption | (apply bl_then; assumption) | refine bl_alloc ?_ _ | refine bl_drew ?_ | refine bl_drewN ?_ _)))
      replace fhB1 := hB1.facts
      go_wp2_with fail
      refine (cG _ (by (repeat (first | exact bl_refl | assumption | (apply bl_then; assumption) | refine bl_alloc ?_ _ | refine bl_drew ?_ | refine bl_drewN ?_ _)))).mono ?_
      rintro e w3 ⟨uL3, uR3, rfl, oL3, oR3, hb3⟩
      replace hB1 := hB1.below (show Below _ _ w3 by (repeat (first | exact bl_refl | assumption | (apply bl_then; assumption) | refine bl_alloc ?_ _ | refine bl_drew ?_ | refine bl_drewN ?_ _)))
      replace fhB1 := hB1.facts
      go_wp2_with fail
      refine (cF _ _ _ (oL3.rd ec_len) (oR3.rd ec_len)).mono ?_
      rintro e w4 ⟨rfl, hb4⟩
      replace hB1 := hB1.below (show Below _ _ w4 by (repeat (first | exact bl_refl | assumption | (apply bl_then; assumption) | refine bl_alloc ?_ _ | refine bl_drew ?_ | refine bl_drewN ?_ _)))
      replace fhB1 := hB1.facts
      have hB4 := Blk.new w4 54 #[.int .i64 0, .int .i64 0, .int .i64 0, .int .i64 0]
      have fB4 := hB4.facts
      go_wp2_with fail
      refine (cG _ (by (repeat (first | exact bl_refl | assumption | (apply bl_then; assumption) | refine bl_alloc ?_ _ | refine bl_drew ?_ | refine bl_drewN ?_ _)))).mono ?_
      rintro e w5 ⟨uL5, uR5, rfl, oL5, oR5, hb5⟩
      replace hB1 := hB1.below (show Below _ _ w5 by (repeat (first | exact bl_refl | assumption | (apply bl_then; assumption) | refine bl_alloc ?_ _ | refine bl_drew ?_ | refine bl_drewN ?_ _)))
      replace fhB1 := hB1.facts
      replace hB4 := hB4.below (show Below _ _ w5 by (repeat (first | exact bl_refl | assumption | (apply bl_then; assumption) | refine bl_alloc ?_ _ | refine bl_drew ?_ | refine bl_drewN ?_ _)))
      replace fhB4 := hB4.facts
      go_wp2_with fail
      refine (cR _ _ _ (oL5.rd ec_len) (oR5.rd ec_len)).mono ?_
      rintro e w6 ⟨v6, rfl, hO6, hb6⟩
      replace hB1 := hB1.below (show Below _ _ w6 by (repeat (first | exact bl_refl | assumption | (apply bl_then; assumption) | refine bl_alloc ?_ _ | refine bl_drew ?_ | refine bl_drewN ?_ _)))
      replace fhB1 := hB1.facts
      replace hB4 := hB4.below (show Below _ _ w6 by (repeat (first | exact bl_refl | assumption | (apply bl_then; assumption) | refine bl_alloc ?_ _ | refine bl_drew ?_ | refine bl_drewN ?_ _)))
      replace fhB4 := hB4.facts
      obtain ⟨A6, c6, hv6⟩ : ∃ A c, v6 = .slice A 0 c := by obtain ⟨A, c, rfl⟩ := hO6.shape; exact ⟨A, c, rfl⟩
      subst hv6
      go_wp2_with fail
      refine (cRP _ (by (repeat (first | exact bl_refl | assumption | (apply bl_then; assumption) | refine bl_alloc ?_ _ | refine bl_drew ?_ | refine bl_drewN ?_ _)))).mono ?_
      rintro e w7 ⟨rfl, hb7⟩
      replace hB1 := hB1.below (show Below _ _ w7 by (repeat (first | exact bl_refl | assumption | (apply bl_then; assumption) | refine bl_alloc ?_ _ | refine bl_drew ?_ | refine bl_drewN ?_ _)))
      replace fhB1 := hB1.facts
      replace hB4 := hB4.below (show Below _ _ w7 by (repeat (first | exact bl_refl | assumption | (apply bl_then; assumption) | refine bl_alloc ?_ _ | refine bl_drew ?_ | refine bl_drewN ?_ _)))
      replace fhB4 := hB4.facts
      go_wp2_with fail
      refine (cNet _ _ _ ((hO6.rd bc_len).below (by (repeat (first | exact bl_refl | assumption | (apply bl_then; assumption) | refine bl_alloc ?_ _ | refine bl_drew ?_ | refine bl_drewN ?_ _)))) Sl.nil_).mono ?_
      rintro e w8 ⟨rfl, hb8⟩
      go_wp2
      go_ret
      exact ⟨rfl, by (repeat (first | exact bl_refl | assumption | (apply bl_then; assumption) | refine bl_alloc ?_ _ | refine bl_drew ?_ | refine bl_drewN ?_ _))⟩
end Go.Proofs.YthkjgcldolnjaaaGreatDoor

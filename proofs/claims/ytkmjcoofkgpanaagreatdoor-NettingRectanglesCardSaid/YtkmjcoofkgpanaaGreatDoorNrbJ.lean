/- The reference: a part of a net, walked. Conditions: the net has no error. -/
import Derived.Test.YtkmjcoofkgpanaaGreatDoorB21
import Derived.Test.YtkmjcoofkgpanaaGreatDoorPmcJ
import Derived.Test.YtkmjcoofkgpanaaGreatDoorB13
import Derived.Test.YtkmjcoofkgpanaaGreatDoorB20
import Derived.Test.YtkmjcoofkgpanaaGreatDoorB05
import Derived.Test.YtkmjcoofkgpanaaGreatDoorOrdnJ
namespace Go.Proofs.YtkmjcoofkgpanaaGreatDoor
open Go.RowKit Go.ChangeMaps
set_option maxHeartbeats 4000000
set_option maxRecDepth 100000

attribute [local go_sem] Oper.semAt_some
instance (a b : Bar) : Decidable (Tch a b) := by unfold Tch; infer_instance
theorem tch_dec (x y s x' y' s' : Int) : decide (Tch (x, y, s) (x', y', s')) = (beqK x y x' y' || (beqK x y (x' + s') (y' + 1) || (beqK (x + s) (y + 1) x' y' || beqK (x + s) (y + 1) (x' + s') (y' + 1)))) := by
  unfold beqK
  rw [Bool.eq_iff_iff]
  simp only [Bool.or_eq_true, decide_eq_true_eq]
  rfl
theorem rtouches_any (x y s x' y' s' : Int) (h : BarOk (x, y, s)) (h' : BarOk (x', y', s')) (w : World) : Calls Tryz.prog 132 #[.agg #[.int .i64 x, .int .i64 y, .int .i64 s], .agg #[.int .i64 x', .int .i64 y', .int .i64 s']] w (RV w (.bool (decide (Tch (x, y, s) (x', y', s'))))) := by
  obtain ⟨q1, q2, q3⟩ := h
  obtain ⟨q4, q5, q6⟩ := h'
  simp only at q1 q2 q3 q4 q5 q6
  have hB1 := (Blk.new w 60 #[.int .i64 x, .int .i64 y, .int .i64 s]).alloc (.cells #[.int .i64 x', .int .i64 y', .int .i64 s'] 60)
  have hB2 := Blk.new1 w (.cells #[.int .i64 x, .int .i64 y, .int .i64 s] 60) 60 #[.int .i64 x', .int .i64 y', .int .i64 s']
  have f1 := hB1.facts
  have f2 := hB2.facts
  have HT := Lib.hid (tch_dec x y s x' y' s')
  cases h1 : beqK x y x' y'
  · cases h2 : beqK x y (x' + s') (y' + 1)
    · cases h3 : beqK (x + s) (y + 1) x' y'
      · cases h4 : beqK (x + s) (y + 1) (x' + s') (y' + 1)
        · have HR : Hid (decide (Tch (x, y, s) (x', y', s')) = false) := by unfold Hid; rw [HT.out, h1, h2, h3, h4]; rfl
          as_aux_lemma =>
            clear HT
            go_enter Tryz.func132, Tryz.ntmps132
            go_wp2
            refine wp_region_ords [0, 2] [(1, false), (3, false), (4, false), (5, false), (6, true), (8, true), (7, false), (9, false), (10, false), (11, false), (12, false), (13, true), (15, true), (14, false), (16, false), (17, false), (18, false), (19, false), (20, true), (22, true), (21, false)] [23, 24, 25, 26] (by kernel_rfl) ord_touches (fun d _ _ _ _ h => by cases d <;> exact h) ?_
            simp only [List.map_cons, List.map_nil, List.getD_cons_zero, List.getD_cons_succ]
            repeat (go_big_quiet_step (fail))
            refine wpQuiet_nil ?_
            refine wpMid_run rfl (fun K hK => ?_)
            go_simp
            refine (rlower_any _ _ _ _).mono ?_
            rintro e w1 ⟨rfl, hb1⟩
            refine hK _ _ (by (repeat (first | exact bl_refl | assumption | (apply bl_then; assumption) | refine bl_alloc ?_ _ | refine bl_drew ?_ | refine bl_drewN ?_ _))) ?_
            clear hK K
            have hB1_w1 := hB1.below (show Below _ _ w1 by (repeat (first | exact bl_refl | assumption | (apply bl_then; assumption) | refine bl_alloc ?_ _ | refine bl_drew ?_ | refine bl_drewN ?_ _)))
            have fhB1_w1 := hB1_w1.facts
            have hB2_w1 := hB2.below (show Below _ _ w1 by (repeat (first | exact bl_refl | assumption | (apply bl_then; assumption) | refine bl_alloc ?_ _ | refine bl_drew ?_ | refine bl_drewN ?_ _)))
            have fhB2_w1 := hB2_w1.facts
            refine wpMid_run rfl (fun K hK => ?_)
            go_simp
            refine (rlower_any _ _ _ _).mono ?_
            rintro e w2 ⟨rfl, hb2⟩
            refine hK _ _ (by (repeat (first | exact bl_refl | assumption | (apply bl_then; assumption) | refine bl_alloc ?_ _ | refine bl_drew ?_ | refine bl_drewN ?_ _))) ?_
            clear hK K
            have hB1_w1_w2 := hB1_w1.below (show Below _ _ w2 by (repeat (first | exact bl_refl | assumption | (apply bl_then; assumption) | refine bl_alloc ?_ _ | refine bl_drew ?_ | refine bl_drewN ?_ _)))
            have fhB1_w1_w2 := hB1_w1_w2.facts
            have hB2_w1_w2 := hB2_w1.below (show Below _ _ w2 by (repeat (first | exact bl_refl | assumption | (apply bl_then; assumption) | refine bl_alloc ?_ _ | refine bl_drew ?_ | refine bl_drewN ?_ _)))
            have fhB2_w1_w2 := hB2_w1_w2.facts
            refine wpMid_run rfl (fun K hK => ?_)
            go_simp
            refine hK _ _ (by (repeat (first | exact bl_refl | assumption | (apply bl_then; assumption) | refine bl_alloc ?_ _ | refine bl_drew ?_ | refine bl_drewN ?_ _))) ?_
            clear hK K
            refine wpMid_run rfl (fun K hK => ?_)
            go_simp
            refine hK _ _ (by (repeat (first | exact bl_refl | assumption | (apply bl_then; assumption) | refine bl_alloc ?_ _ | refine bl_drew ?_ | refine bl_drewN ?_ _))) ?_
            clear hK K
            refine wpMid_take rfl ?_
            intro K hK
            go_big_quiet_op
            go_big_quiet_on
            refine wpMid_take rfl ?_
            intro K hK
            go_big_quiet_op
            go_big_quiet_on
            as_aux_lemma =>
              refine wpMid_run rfl (fun K hK => ?_)
              go_simp
              refine (rlower_any _ _ _ _).mono ?_
              rintro e w3 ⟨rfl, hb3⟩
              refine hK _ _ (by (repeat (first | exact bl_refl | assumption | (apply bl_then; assumption) | refine bl_alloc ?_ _ | refine bl_drew ?_ | refine bl_drewN ?_ _))) ?_
              clear hK K
              have hB1_w1_w2_w3 := hB1_w1_w2.below (show Below _ _ w3 by (repeat (first | exact bl_refl | assumption | (apply bl_then; assumption) | refine bl_alloc ?_ _ | refine bl_drew ?_ | refine bl_drewN ?_ _)))
              have fhB1_w1_w2_w3 := hB1_w1_w2_w3.facts
              have hB2_w1_w2_w3 := hB2_w1_w2.below (show Below _ _ w3 by (repeat (first | exact bl_refl | assumption | (apply bl_then; assumption) | refine bl_alloc ?_ _ | refine bl_drew ?_ | refine bl_drewN ?_ _)))
              have fhB2_w1_w2_w3 := hB2_w1_w2_w3.facts
              refine wpMid_run rfl (fun K hK => ?_)
              go_simp
              refine (rupper_any _ _ _ (by omega) (by omega) (by omega) _).mono ?_
              rintro e w4 ⟨rfl, hb4⟩
              refine hK _ _ (by (repeat (first | exact bl_refl | assumption | (apply bl_then; assumption) | refine bl_alloc ?_ _ | refine bl_drew ?_ | refine bl_drewN ?_ _))) ?_
              clear hK K
              have hB1_w1_w2_w3_w4 := hB1_w1_w2_w3.below (show Below _ _ w4 by (repeat (first | exact bl_refl | assumption | (apply bl_then; assumption) | refine bl_alloc ?_ _ | refine bl_drew ?_ | refine bl_drewN ?_ _)))
              have fhB1_w1_w2_w3_w4 := hB1_w1_w2_w3_w4.facts
              have hB2_w1_w2_w3_w4 := hB2_w1_w2_w3.below (show Below _ _ w4 by (repeat (first | exact bl_refl | assumption | (apply bl_then; assumption) | refine bl_alloc ?_ _ | refine bl_drew ?_ | refine bl_drewN ?_ _)))
              have fhB2_w1_w2_w3_w4 := hB2_w1_w2_w3_w4.facts
              refine wpMid_run rfl (fun K hK => ?_)
              go_simp
              refine hK _ _ (by (repeat (first | exact bl_refl | assumption | (apply bl_then; assumption) | refine bl_alloc ?_ _ | refine bl_drew ?_ | refine bl_drewN ?_ _))) ?_
              clear hK K
              refine wpMid_run rfl (fun K hK => ?_)
              go_simp
              refine hK _ _ (by (repeat (first | exact bl_refl | assumption | (apply bl_then; assumption) | refine bl_alloc ?_ _ | refine bl_drew ?_ | refine bl_drewN ?_ _))) ?_
              clear hK K
              refine wpMid_run rfl (fun K hK => ?_)
              go_simp
              refine hK _ _ (by (repeat (first | exact bl_refl | assumption | (apply bl_then; assumption) | refine bl_alloc ?_ _ | refine bl_drew ?_ | refine bl_drewN ?_ _))) ?_
              clear hK K
              refine wpMid_take rfl ?_
              intro K hK
              go_big_quiet_op
              go_big_quiet_on
              as_aux_lemma =>
                refine wpMid_take rfl ?_
                intro K hK
                go_big_quiet_op
                go_big_quiet_on
                refine wpMid_run rfl (fun K hK => ?_)
                go_simp
                refine (rupper_any _ _ _ (by omega) (by omega) (by omega) _).mono ?_
                rintro e w5 ⟨rfl, hb5⟩
                refine hK _ _ (by (repeat (first | exact bl_refl | assumption | (apply bl_then; assumption) | refine bl_alloc ?_ _ | refine bl_drew ?_ | refine bl_drewN ?_ _))) ?_
                clear hK K
                have hB1_w1_w2_w3_w4_w5 := hB1_w1_w2_w3_w4.below (show Below _ _ w5 by (repeat (first | exact bl_refl | assumption | (apply bl_then; assumption) | refine bl_alloc ?_ _ | refine bl_drew ?_ | refine bl_drewN ?_ _)))
                have fhB1_w1_w2_w3_w4_w5 := hB1_w1_w2_w3_w4_w5.facts
                have hB2_w1_w2_w3_w4_w5 := hB2_w1_w2_w3_w4.below (show Below _ _ w5 by (repeat (first | exact bl_refl | assumption | (apply bl_then; assumption) | refine bl_alloc ?_ _ | refine bl_drew ?_ | refine bl_drewN ?_ _)))
                have fhB2_w1_w2_w3_w4_w5 := hB2_w1_w2_w3_w4_w5.facts
                refine wpMid_run rfl (fun K hK => ?_)
                go_simp
                refine (rlower_any _ _ _ _).mono ?_
                rintro e w6 ⟨rfl, hb6⟩
                refine hK _ _ (by (repeat (first | exact bl_refl | assumption | (apply bl_then; assumption) | refine bl_alloc ?_ _ | refine bl_drew ?_ | refine bl_drewN ?_ _))) ?_
                clear hK K
                have hB1_w1_w2_w3_w4_w5_w6 := hB1_w1_w2_w3_w4_w5.below (show Below _ _ w6 by (repeat (first | exact bl_refl | assumption | (apply bl_then; assumption) | refine bl_alloc ?_ _ | refine bl_drew ?_ | refine bl_drewN ?_ _)))
                have fhB1_w1_w2_w3_w4_w5_w6 := hB1_w1_w2_w3_w4_w5_w6.facts
                have hB2_w1_w2_w3_w4_w5_w6 := hB2_w1_w2_w3_w4_w5.below (show Below _ _ w6 by (repeat (first | exact bl_refl | assumption | (apply bl_then; assumption) | refine bl_alloc ?_ _ | refine bl_drew ?_ | refine bl_drewN ?_ _)))
                have fhB2_w1_w2_w3_w4_w5_w6 := hB2_w1_w2_w3_w4_w5_w6.facts
                refine wpMid_run rfl (fun K hK => ?_)
                go_simp
                refine hK _ _ (by (repeat (first | exact bl_refl | assumption | (apply bl_then; assumption) | refine bl_alloc ?_ _ | refine bl_drew ?_ | refine bl_drewN ?_ _))) ?_
                clear hK K
                refine wpMid_run rfl (fun K hK => ?_)
                go_simp
                refine hK _ _ (by (repeat (first | exact bl_refl | assumption | (apply bl_then; assumption) | refine bl_alloc ?_ _ | refine bl_drew ?_ | refine bl_drewN ?_ _))) ?_
                clear hK K
                refine wpMid_run rfl (fun K hK => ?_)
                go_simp
                refine hK _ _ (by (repeat (first | exact bl_refl | assumption | (apply bl_then; assumption) | refine bl_alloc ?_ _ | refine bl_drew ?_ | refine bl_drewN ?_ _))) ?_
                clear hK K
                as_aux_lemma =>
                  refine wpMid_take rfl ?_
                  intro K hK
                  go_big_quiet_op
                  go_big_quiet_on
                  refine wpMid_take rfl ?_
                  intro K hK
                  go_big_quiet_op
                  go_big_quiet_on
                  refine wpMid_run rfl (fun K hK => ?_)
                  go_simp
                  refine (rupper_any _ _ _ (by omega) (by omega) (by omega) _).mono ?_
                  rintro e w7 ⟨rfl, hb7⟩
                  refine hK _ _ (by (repeat (first | exact bl_refl | assumption | (apply bl_then; assumption) | refine bl_alloc ?_ _ | refine bl_drew ?_ | refine bl_drewN ?_ _))) ?_
                  clear hK K
                  have hB1_w1_w2_w3_w4_w5_w6_w7 := hB1_w1_w2_w3_w4_w5_w6.below (show Below _ _ w7 by (repeat (first | exact bl_refl | assumption | (apply bl_then; assumption) | refine bl_alloc ?_ _ | refine bl_drew ?_ | refine bl_drewN ?_ _)))
                  have fhB1_w1_w2_w3_w4_w5_w6_w7 := hB1_w1_w2_w3_w4_w5_w6_w7.facts
                  have hB2_w1_w2_w3_w4_w5_w6_w7 := hB2_w1_w2_w3_w4_w5_w6.below (show Below _ _ w7 by (repeat (first | exact bl_refl | assumption | (apply bl_then; assumption) | refine bl_alloc ?_ _ | refine bl_drew ?_ | refine bl_drewN ?_ _)))
                  have fhB2_w1_w2_w3_w4_w5_w6_w7 := hB2_w1_w2_w3_w4_w5_w6_w7.facts
                  refine wpMid_nil ?_
                  go_wp2_with (go_at_call 115; refine (rupper_any _ _ _ (by omega) (by omega) (by omega) _).mono ?_; rintro e w8 ⟨rfl, hb8⟩)
                  go_ret
                  exact ⟨by rw [HR.out]; rfl, by (repeat (first | exact bl_refl | assumption | (apply bl_then; assumption) | refine bl_alloc ?_ _ | refine bl_drew ?_ | refine bl_drewN ?_ _))⟩
        · have HR : Hid (decide (Tch (x, y, s) (x', y', s')) = true) := by unfold Hid; rw [HT.out, h1, h2, h3, h4]; rfl
          as_aux_lemma =>
            clear HT
            go_enter Tryz.func132, Tryz.ntmps132
            go_wp2
            refine wp_region_ords [0, 2] [(1, false), (3, false), (4, false), (5, false), (6, true), (8, true), (7, false), (9, false), (10, false), (11, false), (12, false), (13, true), (15, true), (14, false), (16, false), (17, false), (18, false), (19, false), (20, true), (22, true), (21, false)] [23, 24, 25, 26] (by kernel_rfl) ord_touches (fun d _ _ _ _ h => by cases d <;> exact h) ?_
            simp only [List.map_cons, List.map_nil, List.getD_cons_zero, List.getD_cons_succ]
            repeat (go_big_quiet_step (fail))
            refine wpQuiet_nil ?_
            refine wpMid_run rfl (fun K hK => ?_)
            go_simp
            refine (rlower_any _ _ _ _).mono ?_
            rintro e w1 ⟨rfl, hb1⟩
            refine hK _ _ (by (repeat (first | exact bl_refl | assumption | (apply bl_then; assumption) | refine bl_alloc ?_ _ | refine bl_drew ?_ | refine bl_drewN ?_ _))) ?_
            clear hK K
            have hB1_w1 := hB1.below (show Below _ _ w1 by (repeat (first | exact bl_refl | assumption | (apply bl_then; assumption) | refine bl_alloc ?_ _ | refine bl_drew ?_ | refine bl_drewN ?_ _)))
            have fhB1_w1 := hB1_w1.facts
            have hB2_w1 := hB2.below (show Below _ _ w1 by (repeat (first | exact bl_refl | assumption | (apply bl_then; assumption) | refine bl_alloc ?_ _ | refine bl_drew ?_ | refine bl_drewN ?_ _)))
            have fhB2_w1 := hB2_w1.facts
            refine wpMid_run rfl (fun K hK => ?_)
            go_simp
            refine (rlower_any _ _ _ _).mono ?_
            rintro e w2 ⟨rfl, hb2⟩
            refine hK _ _ (by (repeat (first | exact bl_refl | assumption | (apply bl_then; assumption) | refine bl_alloc ?_ _ | refine bl_drew ?_ | refine bl_drewN ?_ _))) ?_
            clear hK K
            have hB1_w1_w2 := hB1_w1.below (show Below _ _ w2 by (repeat (first | exact bl_refl | assumption | (apply bl_then; assumption) | refine bl_alloc ?_ _ | refine bl_drew ?_ | refine bl_drewN ?_ _)))
            have fhB1_w1_w2 := hB1_w1_w2.facts
            have hB2_w1_w2 := hB2_w1.below (show Below _ _ w2 by (repeat (first | exact bl_refl | assumption | (apply bl_then; assumption) | refine bl_alloc ?_ _ | refine bl_drew ?_ | refine bl_drewN ?_ _)))
            have fhB2_w1_w2 := hB2_w1_w2.facts
            refine wpMid_run rfl (fun K hK => ?_)
            go_simp
            refine hK _ _ (by (repeat (first | exact bl_refl | assumption | (apply bl_then; assumption) | refine bl_alloc ?_ _ | refine bl_drew ?_ | refine bl_drewN ?_ _))) ?_
            clear hK K
            refine wpMid_run rfl (fun K hK => ?_)
            go_simp
            refine hK _ _ (by (repeat (first | exact bl_refl | assumption | (apply bl_then; assumption) | refine bl_alloc ?_ _ | refine bl_drew ?_ | refine bl_drewN ?_ _))) ?_
            clear hK K
            refine wpMid_take rfl ?_
            intro K hK
            go_big_quiet_op
            go_big_quiet_on
            refine wpMid_take rfl ?_
            intro K hK
            go_big_quiet_op
            go_big_quiet_on
            as_aux_lemma =>
              refine wpMid_run rfl (fun K hK => ?_)
              go_simp
              refine (rlower_any _ _ _ _).mono ?_
              rintro e w3 ⟨rfl, hb3⟩
              refine hK _ _ (by (repeat (first | exact bl_refl | assumption | (apply bl_then; assumption) | refine bl_alloc ?_ _ | refine bl_drew ?_ | refine bl_drewN ?_ _))) ?_
              clear hK K
              have hB1_w1_w2_w3 := hB1_w1_w2.below (show Below _ _ w3 by (repeat (first | exact bl_refl | assumption | (apply bl_then; assumption) | refine bl_alloc ?_ _ | refine bl_drew ?_ | refine bl_drewN ?_ _)))
              have fhB1_w1_w2_w3 := hB1_w1_w2_w3.facts
              have hB2_w1_w2_w3 := hB2_w1_w2.below (show Below _ _ w3 by (repeat (first | exact bl_refl | assumption | (apply bl_then; assumption) | refine bl_alloc ?_ _ | refine bl_drew ?_ | refine bl_drewN ?_ _)))
              have fhB2_w1_w2_w3 := hB2_w1_w2_w3.facts
              refine wpMid_run rfl (fun K hK => ?_)
              go_simp
              refine (rupper_any _ _ _ (by omega) (by omega) (by omega) _).mono ?_
              rintro e w4 ⟨rfl, hb4⟩
              refine hK _ _ (by (repeat (first | exact bl_refl | assumption | (apply bl_then; assumption) | refine bl_alloc ?_ _ | refine bl_drew ?_ | refine bl_drewN ?_ _))) ?_
              clear hK K
              have hB1_w1_w2_w3_w4 := hB1_w1_w2_w3.below (show Below _ _ w4 by (repeat (first | exact bl_refl | assumption | (apply bl_then; assumption) | refine bl_alloc ?_ _ | refine bl_drew ?_ | refine bl_drewN ?_ _)))
              have fhB1_w1_w2_w3_w4 := hB1_w1_w2_w3_w4.facts
              have hB2_w1_w2_w3_w4 := hB2_w1_w2_w3.below (show Below _ _ w4 by (repeat (first | exact bl_refl | assumption | (apply bl_then; assumption) | refine bl_alloc ?_ _ | refine bl_drew ?_ | refine bl_drewN ?_ _)))
              have fhB2_w1_w2_w3_w4 := hB2_w1_w2_w3_w4.facts
              refine wpMid_run rfl (fun K hK => ?_)
              go_simp
              refine hK _ _ (by (repeat (first | exact bl_refl | assumption | (apply bl_then; assumption) | refine bl_alloc ?_ _ | refine bl_drew ?_ | refine bl_drewN ?_ _))) ?_
              clear hK K
              refine wpMid_run rfl (fun K hK => ?_)
              go_simp
              refine hK _ _ (by (repeat (first | exact bl_refl | assumption | (apply bl_then; assumption) | refine bl_alloc ?_ _ | refine bl_drew ?_ | refine bl_drewN ?_ _))) ?_
              clear hK K
              refine wpMid_run rfl (fun K hK => ?_)
              go_simp
              refine hK _ _ (by (repeat (first | exact bl_refl | assumption | (apply bl_then; assumption) | refine bl_alloc ?_ _ | refine bl_drew ?_ | refine bl_drewN ?_ _))) ?_
              clear hK K
              refine wpMid_take rfl ?_
              intro K hK
              go_big_quiet_op
              go_big_quiet_on
              as_aux_lemma =>
                refine wpMid_take rfl ?_
                intro K hK
                go_big_quiet_op
                go_big_quiet_on
                refine wpMid_run rfl (fun K hK => ?_)
                go_simp
                refine (rupper_any _ _ _ (by omega) (by omega) (by omega) _).mono ?_
                rintro e w5 ⟨rfl, hb5⟩
                refine hK _ _ (by (repeat (first | exact bl_refl | assumption | (apply bl_then; assumption) | refine bl_alloc ?_ _ | refine bl_drew ?_ | refine bl_drewN ?_ _))) ?_
                clear hK K
                have hB1_w1_w2_w3_w4_w5 := hB1_w1_w2_w3_w4.below (show Below _ _ w5 by (repeat (first | exact bl_refl | assumption | (apply bl_then; assumption) | refine bl_alloc ?_ _ | refine bl_drew ?_ | refine bl_drewN ?_ _)))
                have fhB1_w1_w2_w3_w4_w5 := hB1_w1_w2_w3_w4_w5.facts
                have hB2_w1_w2_w3_w4_w5 := hB2_w1_w2_w3_w4.below (show Below _ _ w5 by (repeat (first | exact bl_refl | assumption | (apply bl_then; assumption) | refine bl_alloc ?_ _ | refine bl_drew ?_ | refine bl_drewN ?_ _)))
                have fhB2_w1_w2_w3_w4_w5 := hB2_w1_w2_w3_w4_w5.facts
                refine wpMid_run rfl (fun K hK => ?_)
                go_simp
                refine (rlower_any _ _ _ _).mono ?_
                rintro e w6 ⟨rfl, hb6⟩
                refine hK _ _ (by (repeat (first | exact bl_refl | assumption | (apply bl_then; assumption) | refine bl_alloc ?_ _ | refine bl_drew ?_ | refine bl_drewN ?_ _))) ?_
                clear hK K
                have hB1_w1_w2_w3_w4_w5_w6 := hB1_w1_w2_w3_w4_w5.below (show Below _ _ w6 by (repeat (first | exact bl_refl | assumption | (apply bl_then; assumption) | refine bl_alloc ?_ _ | refine bl_drew ?_ | refine bl_drewN ?_ _)))
                have fhB1_w1_w2_w3_w4_w5_w6 := hB1_w1_w2_w3_w4_w5_w6.facts
                have hB2_w1_w2_w3_w4_w5_w6 := hB2_w1_w2_w3_w4_w5.below (show Below _ _ w6 by (repeat (first | exact bl_refl | assumption | (apply bl_then; assumption) | refine bl_alloc ?_ _ | refine bl_drew ?_ | refine bl_drewN ?_ _)))
                have fhB2_w1_w2_w3_w4_w5_w6 := hB2_w1_w2_w3_w4_w5_w6.facts
                refine wpMid_run rfl (fun K hK => ?_)
                go_simp
                refine hK _ _ (by (repeat (first | exact bl_refl | assumption | (apply bl_then; assumption) | refine bl_alloc ?_ _ | refine bl_drew ?_ | refine bl_drewN ?_ _))) ?_
                clear hK K
                refine wpMid_run rfl (fun K hK => ?_)
                go_simp
                refine hK _ _ (by (repeat (first | exact bl_refl | assumption | (apply bl_then; assumption) | refine bl_alloc ?_ _ | refine bl_drew ?_ | refine bl_drewN ?_ _))) ?_
                clear hK K
                refine wpMid_run rfl (fun K hK => ?_)
                go_simp
                refine hK _ _ (by (repeat (first | exact bl_refl | assumption | (apply bl_then; assumption) | refine bl_alloc ?_ _ | refine bl_drew ?_ | refine bl_drewN ?_ _))) ?_
                clear hK K
                as_aux_lemma =>
                  refine wpMid_take rfl ?_
                  intro K hK
                  go_big_quiet_op
                  go_big_quiet_on
                  refine wpMid_take rfl ?_
                  intro K hK
                  go_big_quiet_op
                  go_big_quiet_on
                  refine wpMid_run rfl (fun K hK => ?_)
                  go_simp
                  refine (rupper_any _ _ _ (by omega) (by omega) (by omega) _).mono ?_
                  rintro e w7 ⟨rfl, hb7⟩
                  refine hK _ _ (by (repeat (first | exact bl_refl | assumption | (apply bl_then; assumption) | refine bl_alloc ?_ _ | refine bl_drew ?_ | refine bl_drewN ?_ _))) ?_
                  clear hK K
                  have hB1_w1_w2_w3_w4_w5_w6_w7 := hB1_w1_w2_w3_w4_w5_w6.below (show Below _ _ w7 by (repeat (first | exact bl_refl | assumption | (apply bl_then; assumption) | refine bl_alloc ?_ _ | refine bl_drew ?_ | refine bl_drewN ?_ _)))
                  have fhB1_w1_w2_w3_w4_w5_w6_w7 := hB1_w1_w2_w3_w4_w5_w6_w7.facts
                  have hB2_w1_w2_w3_w4_w5_w6_w7 := hB2_w1_w2_w3_w4_w5_w6.below (show Below _ _ w7 by (repeat (first | exact bl_refl | assumption | (apply bl_then; assumption) | refine bl_alloc ?_ _ | refine bl_drew ?_ | refine bl_drewN ?_ _)))
                  have fhB2_w1_w2_w3_w4_w5_w6_w7 := hB2_w1_w2_w3_w4_w5_w6_w7.facts
                  refine wpMid_nil ?_
                  go_wp2_with (go_at_call 115; refine (rupper_any _ _ _ (by omega) (by omega) (by omega) _).mono ?_; rintro e w8 ⟨rfl, hb8⟩)
                  go_ret
                  exact ⟨by rw [HR.out]; rfl, by (repeat (first | exact bl_refl | assumption | (apply bl_then; assumption) | refine bl_alloc ?_ _ | refine bl_drew ?_ | refine bl_drewN ?_ _))⟩
      · have HR : Hid (decide (Tch (x, y, s) (x', y', s')) = true) := by unfold Hid; rw [HT.out, h1, h2, h3]; rfl
        as_aux_lemma =>
          clear HT
          go_enter Tryz.func132, Tryz.ntmps132
          go_wp2
          refine wp_region_ords [0, 2] [(1, false), (3, false), (4, false), (5, false), (6, true), (8, true), (7, false), (9, false), (10, false), (11, false), (12, false), (13, true), (15, true), (14, false), (16, false), (17, false), (18, false), (19, false), (20, true), (22, true), (21, false)] [23, 24, 25, 26] (by kernel_rfl) ord_touches (fun d _ _ _ _ h => by cases d <;> exact h) ?_
          simp only [List.map_cons, List.map_nil, List.getD_cons_zero, List.getD_cons_succ]
          repeat (go_big_quiet_step (fail))
          refine wpQuiet_nil ?_
          refine wpMid_run rfl (fun K hK => ?_)
          go_simp
          refine (rlower_any _ _ _ _).mono ?_
          rintro e w1 ⟨rfl, hb1⟩
          refine hK _ _ (by (repeat (first | exact bl_refl | assumption | (apply bl_then; assumption) | refine bl_alloc ?_ _ | refine bl_drew ?_ | refine bl_drewN ?_ _))) ?_
          clear hK K
          have hB1_w1 := hB1.below (show Below _ _ w1 by (repeat (first | exact bl_refl | assumption | (apply bl_then; assumption) | refine bl_alloc ?_ _ | refine bl_drew ?_ | refine bl_drewN ?_ _)))
          have fhB1_w1 := hB1_w1.facts
          have hB2_w1 := hB2.below (show Below _ _ w1 by (repeat (first | exact bl_refl | assumption | (apply bl_then; assumption) | refine bl_alloc ?_ _ | refine bl_drew ?_ | refine bl_drewN ?_ _)))
          have fhB2_w1 := hB2_w1.facts
          refine wpMid_run rfl (fun K hK => ?_)
          go_simp
          refine (rlower_any _ _ _ _).mono ?_
          rintro e w2 ⟨rfl, hb2⟩
          refine hK _ _ (by (repeat (first | exact bl_refl | assumption | (apply bl_then; assumption) | refine bl_alloc ?_ _ | refine bl_drew ?_ | refine bl_drewN ?_ _))) ?_
          clear hK K
          have hB1_w1_w2 := hB1_w1.below (show Below _ _ w2 by (repeat (first | exact bl_refl | assumption | (apply bl_then; assumption) | refine bl_alloc ?_ _ | refine bl_drew ?_ | refine bl_drewN ?_ _)))
          have fhB1_w1_w2 := hB1_w1_w2.facts
          have hB2_w1_w2 := hB2_w1.below (show Below _ _ w2 by (repeat (first | exact bl_refl | assumption | (apply bl_then; assumption) | refine bl_alloc ?_ _ | refine bl_drew ?_ | refine bl_drewN ?_ _)))
          have fhB2_w1_w2 := hB2_w1_w2.facts
          refine wpMid_run rfl (fun K hK => ?_)
          go_simp
          refine hK _ _ (by (repeat (first | exact bl_refl | assumption | (apply bl_then; assumption) | refine bl_alloc ?_ _ | refine bl_drew ?_ | refine bl_drewN ?_ _))) ?_
          clear hK K
          refine wpMid_run rfl (fun K hK => ?_)
          go_simp
          refine hK _ _ (by (repeat (first | exact bl_refl | assumption | (apply bl_then; assumption) | refine bl_alloc ?_ _ | refine bl_drew ?_ | refine bl_drewN ?_ _))) ?_
          clear hK K
          refine wpMid_take rfl ?_
          intro K hK
          go_big_quiet_op
          go_big_quiet_on
          refine wpMid_take rfl ?_
          intro K hK
          go_big_quiet_op
          go_big_quiet_on
          as_aux_lemma =>
            refine wpMid_run rfl (fun K hK => ?_)
            go_simp
            refine (rlower_any _ _ _ _).mono ?_
            rintro e w3 ⟨rfl, hb3⟩
            refine hK _ _ (by (repeat (first | exact bl_refl | assumption | (apply bl_then; assumption) | refine bl_alloc ?_ _ | refine bl_drew ?_ | refine bl_drewN ?_ _))) ?_
            clear hK K
            have hB1_w1_w2_w3 := hB1_w1_w2.below (show Below _ _ w3 by (repeat (first | exact bl_refl | assumption | (apply bl_then; assumption) | refine bl_alloc ?_ _ | refine bl_drew ?_ | refine bl_drewN ?_ _)))
            have fhB1_w1_w2_w3 := hB1_w1_w2_w3.facts
            have hB2_w1_w2_w3 := hB2_w1_w2.below (show Below _ _ w3 by (repeat (first | exact bl_refl | assumption | (apply bl_then; assumption) | refine bl_alloc ?_ _ | refine bl_drew ?_ | refine bl_drewN ?_ _)))
            have fhB2_w1_w2_w3 := hB2_w1_w2_w3.facts
            refine wpMid_run rfl (fun K hK => ?_)
            go_simp
            refine (rupper_any _ _ _ (by omega) (by omega) (by omega) _).mono ?_
            rintro e w4 ⟨rfl, hb4⟩
            refine hK _ _ (by (repeat (first | exact bl_refl | assumption | (apply bl_then; assumption) | refine bl_alloc ?_ _ | refine bl_drew ?_ | refine bl_drewN ?_ _))) ?_
            clear hK K
            have hB1_w1_w2_w3_w4 := hB1_w1_w2_w3.below (show Below _ _ w4 by (repeat (first | exact bl_refl | assumption | (apply bl_then; assumption) | refine bl_alloc ?_ _ | refine bl_drew ?_ | refine bl_drewN ?_ _)))
            have fhB1_w1_w2_w3_w4 := hB1_w1_w2_w3_w4.facts
            have hB2_w1_w2_w3_w4 := hB2_w1_w2_w3.below (show Below _ _ w4 by (repeat (first | exact bl_refl | assumption | (apply bl_then; assumption) | refine bl_alloc ?_ _ | refine bl_drew ?_ | refine bl_drewN ?_ _)))
            have fhB2_w1_w2_w3_w4 := hB2_w1_w2_w3_w4.facts
            refine wpMid_run rfl (fun K hK => ?_)
            go_simp
            refine hK _ _ (by (repeat (first | exact bl_refl | assumption | (apply bl_then; assumption) | refine bl_alloc ?_ _ | refine bl_drew ?_ | refine bl_drewN ?_ _))) ?_
            clear hK K
            refine wpMid_run rfl (fun K hK => ?_)
            go_simp
            refine hK _ _ (by (repeat (first | exact bl_refl | assumption | (apply bl_then; assumption) | refine bl_alloc ?_ _ | refine bl_drew ?_ | refine bl_drewN ?_ _))) ?_
            clear hK K
            refine wpMid_run rfl (fun K hK => ?_)
            go_simp
            refine hK _ _ (by (repeat (first | exact bl_refl | assumption | (apply bl_then; assumption) | refine bl_alloc ?_ _ | refine bl_drew ?_ | refine bl_drewN ?_ _))) ?_
            clear hK K
            refine wpMid_take rfl ?_
            intro K hK
            go_big_quiet_op
            go_big_quiet_on
            as_aux_lemma =>
              refine wpMid_take rfl ?_
              intro K hK
              go_big_quiet_op
              go_big_quiet_on
              refine wpMid_run rfl (fun K hK => ?_)
              go_simp
              refine (rupper_any _ _ _ (by omega) (by omega) (by omega) _).mono ?_
              rintro e w5 ⟨rfl, hb5⟩
              refine hK _ _ (by (repeat (first | exact bl_refl | assumption | (apply bl_then; assumption) | refine bl_alloc ?_ _ | refine bl_drew ?_ | refine bl_drewN ?_ _))) ?_
              clear hK K
              have hB1_w1_w2_w3_w4_w5 := hB1_w1_w2_w3_w4.below (show Below _ _ w5 by (repeat (first | exact bl_refl | assumption | (apply bl_then; assumption) | refine bl_alloc ?_ _ | refine bl_drew ?_ | refine bl_drewN ?_ _)))
              have fhB1_w1_w2_w3_w4_w5 := hB1_w1_w2_w3_w4_w5.facts
              have hB2_w1_w2_w3_w4_w5 := hB2_w1_w2_w3_w4.below (show Below _ _ w5 by (repeat (first | exact bl_refl | assumption | (apply bl_then; assumption) | refine bl_alloc ?_ _ | refine bl_drew ?_ | refine bl_drewN ?_ _)))
              have fhB2_w1_w2_w3_w4_w5 := hB2_w1_w2_w3_w4_w5.facts
              refine wpMid_run rfl (fun K hK => ?_)
              go_simp
              refine (rlower_any _ _ _ _).mono ?_
              rintro e w6 ⟨rfl, hb6⟩
              refine hK _ _ (by (repeat (first | exact bl_refl | assumption | (apply bl_then; assumption) | refine bl_alloc ?_ _ | refine bl_drew ?_ | refine bl_drewN ?_ _))) ?_
              clear hK K
              have hB1_w1_w2_w3_w4_w5_w6 := hB1_w1_w2_w3_w4_w5.below (show Below _ _ w6 by (repeat (first | exact bl_refl | assumption | (apply bl_then; assumption) | refine bl_alloc ?_ _ | refine bl_drew ?_ | refine bl_drewN ?_ _)))
              have fhB1_w1_w2_w3_w4_w5_w6 := hB1_w1_w2_w3_w4_w5_w6.facts
              have hB2_w1_w2_w3_w4_w5_w6 := hB2_w1_w2_w3_w4_w5.below (show Below _ _ w6 by (repeat (first | exact bl_refl | assumption | (apply bl_then; assumption) | refine bl_alloc ?_ _ | refine bl_drew ?_ | refine bl_drewN ?_ _)))
              have fhB2_w1_w2_w3_w4_w5_w6 := hB2_w1_w2_w3_w4_w5_w6.facts
              refine wpMid_run rfl (fun K hK => ?_)
              go_simp
              refine hK _ _ (by (repeat (first | exact bl_refl | assumption | (apply bl_then; assumption) | refine bl_alloc ?_ _ | refine bl_drew ?_ | refine bl_drewN ?_ _))) ?_
              clear hK K
              refine wpMid_run rfl (fun K hK => ?_)
              go_simp
              refine hK _ _ (by (repeat (first | exact bl_refl | assumption | (apply bl_then; assumption) | refine bl_alloc ?_ _ | refine bl_drew ?_ | refine bl_drewN ?_ _))) ?_
              clear hK K
              refine wpMid_run rfl (fun K hK => ?_)
              go_simp
              refine hK _ _ (by (repeat (first | exact bl_refl | assumption | (apply bl_then; assumption) | refine bl_alloc ?_ _ | refine bl_drew ?_ | refine bl_drewN ?_ _))) ?_
              clear hK K
              as_aux_lemma =>
                refine wpMid_skipT (by kernel_rfl) ?_
                intro K hK
                simp only [Act.put, List.setIfInBounds_toArray, List.set_cons_zero, List.set_cons_succ]
                refine hK _ ?_
                clear hK K
                refine wpMid_skipT (by kernel_rfl) ?_
                intro K hK
                simp only [Act.put, List.setIfInBounds_toArray, List.set_cons_zero, List.set_cons_succ]
                refine hK _ ?_
                clear hK K
                refine wpMid_skipF (by kernel_rfl) ?_
                intro K hK
                simp only [Act.put, List.setIfInBounds_toArray, List.set_cons_zero, List.set_cons_succ]
                refine hK _ ?_
                clear hK K
                refine wpMid_nil ?_
                go_wp2
                go_ret
                exact ⟨by rw [HR.out]; rfl, by (repeat (first | exact bl_refl | assumption | (apply bl_then; assumption) | refine bl_alloc ?_ _ | refine bl_drew ?_ | refine bl_drewN ?_ _))⟩
    · have HR : Hid (decide (Tch (x, y, s) (x', y', s')) = true) := by unfold Hid; rw [HT.out, h1, h2]; rfl
      as_aux_lemma =>
        clear HT
        go_enter Tryz.func132, Tryz.ntmps132
        go_wp2
        refine wp_region_ords [0, 2] [(1, false), (3, false), (4, false), (5, false), (6, true), (8, true), (7, false), (9, false), (10, false), (11, false), (12, false), (13, true), (15, true), (14, false), (16, false), (17, false), (18, false), (19, false), (20, true), (22, true), (21, false)] [23, 24, 25, 26] (by kernel_rfl) ord_touches (fun d _ _ _ _ h => by cases d <;> exact h) ?_
        simp only [List.map_cons, List.map_nil, List.getD_cons_zero, List.getD_cons_succ]
        repeat (go_big_quiet_step (fail))
        refine wpQuiet_nil ?_
        refine wpMid_run rfl (fun K hK => ?_)
        go_simp
        refine (rlower_any _ _ _ _).mono ?_
        rintro e w1 ⟨rfl, hb1⟩
        refine hK _ _ (by (repeat (first | exact bl_refl | assumption | (apply bl_then; assumption) | refine bl_alloc ?_ _ | refine bl_drew ?_ | refine bl_drewN ?_ _))) ?_
        clear hK K
        have hB1_w1 := hB1.below (show Below _ _ w1 by (repeat (first | exact bl_refl | assumption | (apply bl_then; assumption) | refine bl_alloc ?_ _ | refine bl_drew ?_ | refine bl_drewN ?_ _)))
        have fhB1_w1 := hB1_w1.facts
        have hB2_w1 := hB2.below (show Below _ _ w1 by (repeat (first | exact bl_refl | assumption | (apply bl_then; assumption) | refine bl_alloc ?_ _ | refine bl_drew ?_ | refine bl_drewN ?_ _)))
        have fhB2_w1 := hB2_w1.facts
        refine wpMid_run rfl (fun K hK => ?_)
        go_simp
        refine (rlower_any _ _ _ _).mono ?_
        rintro e w2 ⟨rfl, hb2⟩
        refine hK _ _ (by (repeat (first | exact bl_refl | assumption | (apply bl_then; assumption) | refine bl_alloc ?_ _ | refine bl_drew ?_ | refine bl_drewN ?_ _))) ?_
        clear hK K
        have hB1_w1_w2 := hB1_w1.below (show Below _ _ w2 by (repeat (first | exact bl_refl | assumption | (apply bl_then; assumption) | refine bl_alloc ?_ _ | refine bl_drew ?_ | refine bl_drewN ?_ _)))
        have fhB1_w1_w2 := hB1_w1_w2.facts
        have hB2_w1_w2 := hB2_w1.below (show Below _ _ w2 by (repeat (first | exact bl_refl | assumption | (apply bl_then; assumption) | refine bl_alloc ?_ _ | refine bl_drew ?_ | refine bl_drewN ?_ _)))
        have fhB2_w1_w2 := hB2_w1_w2.facts
        refine wpMid_run rfl (fun K hK => ?_)
        go_simp
        refine hK _ _ (by (repeat (first | exact bl_refl | assumption | (apply bl_then; assumption) | refine bl_alloc ?_ _ | refine bl_drew ?_ | refine bl_drewN ?_ _))) ?_
        clear hK K
        refine wpMid_run rfl (fun K hK => ?_)
        go_simp
        refine hK _ _ (by (repeat (first | exact bl_refl | assumption | (apply bl_then; assumption) | refine bl_alloc ?_ _ | refine bl_drew ?_ | refine bl_drewN ?_ _))) ?_
        clear hK K
        refine wpMid_take rfl ?_
        intro K hK
        go_big_quiet_op
        go_big_quiet_on
        refine wpMid_take rfl ?_
        intro K hK
        go_big_quiet_op
        go_big_quiet_on
        as_aux_lemma =>
          refine wpMid_run rfl (fun K hK => ?_)
          go_simp
          refine (rlower_any _ _ _ _).mono ?_
          rintro e w3 ⟨rfl, hb3⟩
          refine hK _ _ (by (repeat (first | exact bl_refl | assumption | (apply bl_then; assumption) | refine bl_alloc ?_ _ | refine bl_drew ?_ | refine bl_drewN ?_ _))) ?_
          clear hK K
          have hB1_w1_w2_w3 := hB1_w1_w2.below (show Below _ _ w3 by (repeat (first | exact bl_refl | assumption | (apply bl_then; assumption) | refine bl_alloc ?_ _ | refine bl_drew ?_ | refine bl_drewN ?_ _)))
          have fhB1_w1_w2_w3 := hB1_w1_w2_w3.facts
          have hB2_w1_w2_w3 := hB2_w1_w2.below (show Below _ _ w3 by (repeat (first | exact bl_refl | assumption | (apply bl_then; assumption) | refine bl_alloc ?_ _ | refine bl_drew ?_ | refine bl_drewN ?_ _)))
          have fhB2_w1_w2_w3 := hB2_w1_w2_w3.facts
          refine wpMid_run rfl (fun K hK => ?_)
          go_simp
          refine (rupper_any _ _ _ (by omega) (by omega) (by omega) _).mono ?_
          rintro e w4 ⟨rfl, hb4⟩
          refine hK _ _ (by (repeat (first | exact bl_refl | assumption | (apply bl_then; assumption) | refine bl_alloc ?_ _ | refine bl_drew ?_ | refine bl_drewN ?_ _))) ?_
          clear hK K
          have hB1_w1_w2_w3_w4 := hB1_w1_w2_w3.below (show Below _ _ w4 by (repeat (first | exact bl_refl | assumption | (apply bl_then; assumption) | refine bl_alloc ?_ _ | refine bl_drew ?_ | refine bl_drewN ?_ _)))
          have fhB1_w1_w2_w3_w4 := hB1_w1_w2_w3_w4.facts
          have hB2_w1_w2_w3_w4 := hB2_w1_w2_w3.below (show Below _ _ w4 by (repeat (first | exact bl_refl | assumption | (apply bl_then; assumption) | refine bl_alloc ?_ _ | refine bl_drew ?_ | refine bl_drewN ?_ _)))
          have fhB2_w1_w2_w3_w4 := hB2_w1_w2_w3_w4.facts
          refine wpMid_run rfl (fun K hK => ?_)
          go_simp
          refine hK _ _ (by (repeat (first | exact bl_refl | assumption | (apply bl_then; assumption) | refine bl_alloc ?_ _ | refine bl_drew ?_ | refine bl_drewN ?_ _))) ?_
          clear hK K
          refine wpMid_run rfl (fun K hK => ?_)
          go_simp
          refine hK _ _ (by (repeat (first | exact bl_refl | assumption | (apply bl_then; assumption) | refine bl_alloc ?_ _ | refine bl_drew ?_ | refine bl_drewN ?_ _))) ?_
          clear hK K
          refine wpMid_run rfl (fun K hK => ?_)
          go_simp
          refine hK _ _ (by (repeat (first | exact bl_refl | assumption | (apply bl_then; assumption) | refine bl_alloc ?_ _ | refine bl_drew ?_ | refine bl_drewN ?_ _))) ?_
          clear hK K
          refine wpMid_skipT (by kernel_rfl) ?_
          intro K hK
          simp only [Act.put, List.setIfInBounds_toArray, List.set_cons_zero, List.set_cons_succ]
          refine hK _ ?_
          clear hK K
          as_aux_lemma =>
            refine wpMid_skipT (by kernel_rfl) ?_
            intro K hK
            simp only [Act.put, List.setIfInBounds_toArray, List.set_cons_zero, List.set_cons_succ]
            refine hK _ ?_
            clear hK K
            refine wpMid_skipF (by kernel_rfl) ?_
            intro K hK
            simp only [Act.put, List.setIfInBounds_toArray, List.set_cons_zero, List.set_cons_succ]
            refine hK _ ?_
            clear hK K
            refine wpMid_skipF (by kernel_rfl) ?_
            intro K hK
            simp only [Act.put, List.setIfInBounds_toArray, List.set_cons_zero, List.set_cons_succ]
            refine hK _ ?_
            clear hK K
            refine wpMid_skipF (by kernel_rfl) ?_
            intro K hK
            simp only [Act.put, List.setIfInBounds_toArray, List.set_cons_zero, List.set_cons_succ]
            refine hK _ ?_
            clear hK K
            refine wpMid_run rfl (fun K hK => ?_)
            go_simp
            refine hK _ _ (by (repeat (first | exact bl_refl | assumption | (apply bl_then; assumption) | refine bl_alloc ?_ _ | refine bl_drew ?_ | refine bl_drewN ?_ _))) ?_
            clear hK K
            refine wpMid_run rfl (fun K hK => ?_)
            go_simp
            refine hK _ _ (by (repeat (first | exact bl_refl | assumption | (apply bl_then; assumption) | refine bl_alloc ?_ _ | refine bl_drew ?_ | refine bl_drewN ?_ _))) ?_
            clear hK K
            as_aux_lemma =>
              refine wpMid_skipT (by kernel_rfl) ?_
              intro K hK
              simp only [Act.put, List.setIfInBounds_toArray, List.set_cons_zero, List.set_cons_succ]
              refine hK _ ?_
              clear hK K
              refine wpMid_skipT (by kernel_rfl) ?_
              intro K hK
              simp only [Act.put, List.setIfInBounds_toArray, List.set_cons_zero, List.set_cons_succ]
              refine hK _ ?_
              clear hK K
              refine wpMid_skipF (by kernel_rfl) ?_
              intro K hK
              simp only [Act.put, List.setIfInBounds_toArray, List.set_cons_zero, List.set_cons_succ]
              refine hK _ ?_
              clear hK K
              refine wpMid_nil ?_
              go_wp2
              go_ret
              exact ⟨by rw [HR.out]; rfl, by (repeat (first | exact bl_refl | assumption | (apply bl_then; assumption) | refine bl_alloc ?_ _ | refine bl_drew ?_ | refine bl_drewN ?_ _))⟩
  · have HR : Hid (decide (Tch (x, y, s) (x', y', s')) = true) := by unfold Hid; rw [HT.out, h1]; rfl
    as_aux_lemma =>
      clear HT
      go_enter Tryz.func132, Tryz.ntmps132
      go_wp2
      refine wp_region_ords [0, 2] [(1, false), (3, false), (4, false), (5, false), (6, true), (8, true), (7, false), (9, false), (10, false), (11, false), (12, false), (13, true), (15, true), (14, false), (16, false), (17, false), (18, false), (19, false), (20, true), (22, true), (21, false)] [23, 24, 25, 26] (by kernel_rfl) ord_touches (fun d _ _ _ _ h => by cases d <;> exact h) ?_
      simp only [List.map_cons, List.map_nil, List.getD_cons_zero, List.getD_cons_succ]
      repeat (go_big_quiet_step (fail))
      refine wpQuiet_nil ?_
      refine wpMid_run rfl (fun K hK => ?_)
      go_simp
      refine (rlower_any _ _ _ _).mono ?_
      rintro e w1 ⟨rfl, hb1⟩
      refine hK _ _ (by (repeat (first | exact bl_refl | assumption | (apply bl_then; assumption) | refine bl_alloc ?_ _ | refine bl_drew ?_ | refine bl_drewN ?_ _))) ?_
      clear hK K
      have hB1_w1 := hB1.below (show Below _ _ w1 by (repeat (first | exact bl_refl | assumption | (apply bl_then; assumption) | refine bl_alloc ?_ _ | refine bl_drew ?_ | refine bl_drewN ?_ _)))
      have fhB1_w1 := hB1_w1.facts
      have hB2_w1 := hB2.below (show Below _ _ w1 by (repeat (first | exact bl_refl | assumption | (apply bl_then; assumption) | refine bl_alloc ?_ _ | refine bl_drew ?_ | refine bl_drewN ?_ _)))
      have fhB2_w1 := hB2_w1.facts
      refine wpMid_run rfl (fun K hK => ?_)
      go_simp
      refine (rlower_any _ _ _ _).mono ?_
      rintro e w2 ⟨rfl, hb2⟩
      refine hK _ _ (by (repeat (first | exact bl_refl | assumption | (apply bl_then; assumption) | refine bl_alloc ?_ _ | refine bl_drew ?_ | refine bl_drewN ?_ _))) ?_
      clear hK K
      have hB1_w1_w2 := hB1_w1.below (show Below _ _ w2 by (repeat (first | exact bl_refl | assumption | (apply bl_then; assumption) | refine bl_alloc ?_ _ | refine bl_drew ?_ | refine bl_drewN ?_ _)))
      have fhB1_w1_w2 := hB1_w1_w2.facts
      have hB2_w1_w2 := hB2_w1.below (show Below _ _ w2 by (repeat (first | exact bl_refl | assumption | (apply bl_then; assumption) | refine bl_alloc ?_ _ | refine bl_drew ?_ | refine bl_drewN ?_ _)))
      have fhB2_w1_w2 := hB2_w1_w2.facts
      refine wpMid_run rfl (fun K hK => ?_)
      go_simp
      refine hK _ _ (by (repeat (first | exact bl_refl | assumption | (apply bl_then; assumption) | refine bl_alloc ?_ _ | refine bl_drew ?_ | refine bl_drewN ?_ _))) ?_
      clear hK K
      refine wpMid_run rfl (fun K hK => ?_)
      go_simp
      refine hK _ _ (by (repeat (first | exact bl_refl | assumption | (apply bl_then; assumption) | refine bl_alloc ?_ _ | refine bl_drew ?_ | refine bl_drewN ?_ _))) ?_
      clear hK K
      refine wpMid_skipT (by kernel_rfl) ?_
      intro K hK
      simp only [Act.put, List.setIfInBounds_toArray, List.set_cons_zero, List.set_cons_succ]
      refine hK _ ?_
      clear hK K
      refine wpMid_skipT (by kernel_rfl) ?_
      intro K hK
      simp only [Act.put, List.setIfInBounds_toArray, List.set_cons_zero, List.set_cons_succ]
      refine hK _ ?_
      clear hK K
      as_aux_lemma =>
        refine wpMid_skipF (by kernel_rfl) ?_
        intro K hK
        simp only [Act.put, List.setIfInBounds_toArray, List.set_cons_zero, List.set_cons_succ]
        refine hK _ ?_
        clear hK K
        refine wpMid_skipF (by kernel_rfl) ?_
        intro K hK
        simp only [Act.put, List.setIfInBounds_toArray, List.set_cons_zero, List.set_cons_succ]
        refine hK _ ?_
        clear hK K
        refine wpMid_skipF (by kernel_rfl) ?_
        intro K hK
        simp only [Act.put, List.setIfInBounds_toArray, List.set_cons_zero, List.set_cons_succ]
        refine hK _ ?_
        clear hK K
        refine wpMid_run rfl (fun K hK => ?_)
        go_simp
        refine hK _ _ (by (repeat (first | exact bl_refl | assumption | (apply bl_then; assumption) | refine bl_alloc ?_ _ | refine bl_drew ?_ | refine bl_drewN ?_ _))) ?_
        clear hK K
        refine wpMid_run rfl (fun K hK => ?_)
        go_simp
        refine hK _ _ (by (repeat (first | exact bl_refl | assumption | (apply bl_then; assumption) | refine bl_alloc ?_ _ | refine bl_drew ?_ | refine bl_drewN ?_ _))) ?_
        clear hK K
        refine wpMid_skipT (by kernel_rfl) ?_
        intro K hK
        simp only [Act.put, List.setIfInBounds_toArray, List.set_cons_zero, List.set_cons_succ]
        refine hK _ ?_
        clear hK K
        as_aux_lemma =>
          refine wpMid_skipT (by kernel_rfl) ?_
          intro K hK
          simp only [Act.put, List.setIfInBounds_toArray, List.set_cons_zero, List.set_cons_succ]
          refine hK _ ?_
          clear hK K
          refine wpMid_skipF (by kernel_rfl) ?_
          intro K hK
          simp only [Act.put, List.setIfInBounds_toArray, List.set_cons_zero, List.set_cons_succ]
          refine hK _ ?_
          clear hK K
          refine wpMid_skipF (by kernel_rfl) ?_
          intro K hK
          simp only [Act.put, List.setIfInBounds_toArray, List.set_cons_zero, List.set_cons_succ]
          refine hK _ ?_
          clear hK K
          refine wpMid_skipF (by kernel_rfl) ?_
          intro K hK
          simp only [Act.put, List.setIfInBounds_toArray, List.set_cons_zero, List.set_cons_succ]
          refine hK _ ?_
          clear hK K
          refine wpMid_run rfl (fun K hK => ?_)
          go_simp
          refine hK _ _ (by (repeat (first | exact bl_refl | assumption | (apply bl_then; assumption) | refine bl_alloc ?_ _ | refine bl_drew ?_ | refine bl_drewN ?_ _))) ?_
          clear hK K
          refine wpMid_run rfl (fun K hK => ?_)
          go_simp
          refine hK _ _ (by (repeat (first | exact bl_refl | assumption | (apply bl_then; assumption) | refine bl_alloc ?_ _ | refine bl_drew ?_ | refine bl_drewN ?_ _))) ?_
          clear hK K
          as_aux_lemma =>
            refine wpMid_skipT (by kernel_rfl) ?_
            intro K hK
            simp only [Act.put, List.setIfInBounds_toArray, List.set_cons_zero, List.set_cons_succ]
            refine hK _ ?_
            clear hK K
            refine wpMid_skipT (by kernel_rfl) ?_
            intro K hK
            simp only [Act.put, List.setIfInBounds_toArray, List.set_cons_zero, List.set_cons_succ]
            refine hK _ ?_
            clear hK K
            refine wpMid_skipF (by kernel_rfl) ?_
            intro K hK
            simp only [Act.put, List.setIfInBounds_toArray, List.set_cons_zero, List.set_cons_succ]
            refine hK _ ?_
            clear hK K
            refine wpMid_nil ?_
            go_wp2
            go_ret
            exact ⟨by rw [HR.out]; rfl, by (repeat (first | exact bl_refl | assumption | (apply bl_then; assumption) | refine bl_alloc ?_ _ | refine bl_drew ?_ | refine bl_drewN ?_ _))⟩
theorem rrow_take (p : Bar) {l P : List Bar} {k : Nat} (hk : k < l.length) : (l.take (k + 1)).foldl (rtry p) P = rtry p ((l.take k).foldl (rtry p) P) l[k] := by
  rw [List.take_succ_eq_append_getElem hk, List.foldl_append]; rfl
theorem rcol_go {l P : List Bar} {f i : Nat} (h : i < P.length) : rcol l (f + 1) i P = rcol l f (i + 1) (rrow l P[i] P) := by
  unfold rcol
  rw [colG, dif_pos h]
theorem rcol_end {l P : List Bar} {f i : Nat} (h : ¬ i < P.length) : rcol l f i P = P := by
  unfold rcol
  cases f with
  | zero => rfl
  | succ f => rw [colG, dif_neg h]
theorem rtry_yes {p c : Bar} {P : List Bar} (h1 : decide (Tch p c) = true) (h2 : hasb P c = false) : rtry p P c = P ++ [c] := by
  unfold rtry
  rw [if_pos ⟨of_decide_eq_true h1, of_decide_eq_false h2⟩]
theorem rtry_no1 {p c : Bar} {P : List Bar} (h1 : decide (Tch p c) = false) : rtry p P c = P := by
  unfold rtry
  rw [if_neg fun h => of_decide_eq_false h1 h.1]
theorem rtry_no2 {p c : Bar} {P : List Bar} (h2 : hasb P c = true) : rtry p P c = P := by
  unfold rtry
  rw [if_neg fun h => h.2 (of_decide_eq_true h2)]
theorem rpart_any {v : Value} (l : List Bar) (x y s : Int) (w : World) (h : SlB w v l) (hok : NetOk l) (hmem : (x, y, s) ∈ l) : Calls Tryz.prog 93 #[v, .agg #[.int .i64 x, .int .i64 y, .int .i64 s]] w (RB w (rpart l (x, y, s))) := by
  obtain ⟨A, c, rfl, hlc, hcm, h⟩ := h
  have HK := Lib.hid hok
  have hlen := hok.len
  have hB := Blk.new w 60 #[.int .i64 x, .int .i64 y, .int .i64 s]
  have fB := hB.facts
  have hP0 : PartOk l [] [(x, y, s)] := PartOk.start hmem (by simp)
  have hO0 : OwB w.heap.size ((w.alloc (.cells #[.int .i64 x, .int .i64 y, .int .i64 s] 60)).alloc (.cells #[.int .i64 x, .int .i64 y, .int .i64 s] 60)) (.slice (some ⟨w.heap.size + 1, 0, none⟩) 1 1) [(x, y, s)] := by
    have := Own.one_bar (w := w.alloc (.cells #[.int .i64 x, .int .i64 y, .int .i64 s] 60)) (base := w.heap.size) (by simp) x y s
    simpa using this
  clear hok
  go_enter Tryz.func93, Tryz.ntmps93
  go_wp2
  go_loopw [5, 6] (fun p i wr => ∃ (j : Nat) (P : List Bar), i = .int .i64 j ∧ j ≤ P.length ∧ OwB w.heap.size wr p P ∧ Hid (PartOk l [] P) ∧ Below w.heap.size w wr ∧ Hid (rcol l (l.length + 1) 0 [(x, y, s)] = rcol l (l.length + 1 - j) j P)) (fun _ i _ => l.length + 1 - (intOf i).toNat)
  case atStart => exact ⟨0, _, rfl, by simp, hO0, hP0, by (repeat (first | exact bl_refl | assumption | (apply bl_then; assumption) | refine bl_alloc ?_ _ | refine bl_drew ?_ | refine bl_drewN ?_ _)), rfl⟩
  case round =>
    clear hO0 hP0 fB hB
    obtain ⟨j, P, rfl, hj, hO, hP, hbw, HC⟩ := hrel
    obtain ⟨wj, rfl⟩ : ∃ x, x = wr := ⟨_, rfl⟩
    have hPl := hP.out.len
    obtain ⟨A2, c2, rfl⟩ := hO.shape
    by_cases hjP : j < P.length
    · have HC2 : Hid (rcol l (l.length + 1) 0 [(x, y, s)] = rcol l (l.length + 1 - (j + 1)) (j + 1) (rrow l P[j] P)) := by
        unfold Hid
        rw [HC.out, show l.length + 1 - j = (l.length + 1 - (j + 1)) + 1 by omega, rcol_go hjP]
      have HPj : Hid (P[j]? = some P[j]) := List.getElem?_eq_getElem hjP
      obtain ⟨⟨px, py, ps⟩, hx⟩ : ∃ z, P[j] = z := ⟨_, rfl⟩
      rw [hx] at HC2 HPj
      have hmp : (px, py, ps) ∈ l := hP.out.sub _ (hx ▸ List.getElem_mem hjP)
      have hbp := HK.out.ok _ hmp
      clear hx HC
      go_wp2
      go_loopw [5, 7] (fun p i wr => ∃ (k : Nat) (Q : List Bar), k ≤ l.length ∧ i = .int .i64 k ∧ Hid (Q = (l.take k).foldl (rtry (px, py, ps)) P) ∧ j < Q.length ∧ OwB w.heap.size wr p Q ∧ Below w.heap.size w wr) (fun _ i _ => l.length - (intOf i).toNat)
      case atStart => exact ⟨0, P, Nat.zero_le _, rfl, rfl, hjP, hO, hbw⟩
      case round =>
        clear hO hbw
        obtain ⟨k, Q, hk, rfl, HQ, hjQ, hO, hbw⟩ := hrel
        obtain ⟨wk, rfl⟩ : ∃ x, x = wr := ⟨_, rfl⟩
        obtain ⟨A3, c3, rfl⟩ := hO.shape
        by_cases hlt : k < l.length
        · have hspec := rrow_spec l (px, py, ps) (l.take k) P (fun x hx => List.mem_of_mem_take hx) hP.out
          rw [← HQ.out] at hspec
          have hQl := hspec.1.len
          obtain ⟨r, hr⟩ := hspec.2.1
          have hQj : Q[j] = (px, py, ps) := by
            have h1 : Q[j]? = some (px, py, ps) := by rw [hr, List.getElem?_append_left hjP]; exact HPj.out
            rw [List.getElem?_eq_getElem hjQ] at h1
            exact Option.some.inj h1
          have HT := Lib.hid (rrow_take (px, py, ps) (P := P) hlt)
          rw [← HQ.out] at HT
          clear hspec hr
          obtain ⟨A3', c3', he3, hlc3, hcm3, hr3⟩ := hO.rd bc_len
          obtain ⟨rfl, rfl⟩ : A3 = A3' ∧ c3 = c3' := by simpa using he3
          clear he3
          obtain ⟨b3, off3, rfl, hb3, z0, z1, z2⟩ := hr3.bar hjQ
          rw [hQj] at z0 z1 z2
          have hr := h.below hbw
          obtain ⟨b, off, rfl, hb, e0, e1, e2⟩ := hr.bar hlt
          have hbo := HK.out.ok _ (List.getElem_mem hlt)
          obtain ⟨⟨cx, cy, cs⟩, hx⟩ : ∃ z, l[k] = z := ⟨_, rfl⟩
          rw [hx] at e0 e1 e2 hbo HT
          simp only at e0 e1 e2 z0 z1 z2
          have HX := Lib.hid hx
          clear hx hQj
          have ct := fun W => rtouches_any px py ps cx cy cs hbp hbo W
          have ch := fun W (q : SlB W (.slice (some ⟨b3, off3, none⟩) Q.length c3) Q) => has_any Q cx cy cs W q
          have hSQ := hO.rd bc_len
          obtain ⟨t, ht⟩ : ∃ t, decide (Tch (px, py, ps) (cx, cy, cs)) = t := ⟨_, rfl⟩
          obtain ⟨g, hg⟩ : ∃ g, hasb Q (cx, cy, cs) = g := ⟨_, rfl⟩
          rw [ht] at ct
          rw [hg] at ch
          cases t
          · have HR : Hid (Q = (l.take (k + 1)).foldl (rtry (px, py, ps)) P) := by unfold Hid; rw [HT.out, rtry_no1 ht]
            clear HT ht hg HQ
            as_aux_lemma =>
              go_wp2
              refine wp_region_ords [0, 1, 2, 3, 4, 5, 6, 7] [(8, false), (9, false), (10, true), (11, true), (12, false), (13, false), (14, false)] [15, 16, 17] (by kernel_rfl) (by kernel_rfl) (fun d _ _ _ _ h => by cases d <;> exact h) ?_
              simp only [List.map_cons, List.map_nil, List.getD_cons_zero, List.getD_cons_succ]
              repeat (go_big_quiet_step (fail))
              refine wpQuiet_nil ?_
              refine wpMid_run rfl (fun K hK => ?_)
              go_simp
              refine (ct _).mono ?_
              rintro e w1 ⟨rfl, hb1⟩
              refine hK _ _ (by (repeat (first | exact bl_refl | assumption | (apply bl_then; assumption) | refine bl_alloc ?_ _ | refine bl_drew ?_ | refine bl_drewN ?_ _))) ?_
              clear hK K
              refine wpMid_run rfl (fun K hK => ?_)
              go_simp
              refine hK _ _ (by (repeat (first | exact bl_refl | assumption | (apply bl_then; assumption) | refine bl_alloc ?_ _ | refine bl_drew ?_ | refine bl_drewN ?_ _))) ?_
              clear hK K
              refine wpMid_skipT (by kernel_rfl) ?_
              intro K hK
              simp only [Act.put, List.setIfInBounds_toArray, List.set_cons_zero, List.set_cons_succ]
              refine hK _ ?_
              clear hK K
              refine wpMid_skipT (by kernel_rfl) ?_
              intro K hK
              simp only [Act.put, List.setIfInBounds_toArray, List.set_cons_zero, List.set_cons_succ]
              refine hK _ ?_
              clear hK K
              refine wpMid_skipF (by kernel_rfl) ?_
              intro K hK
              simp only [Act.put, List.setIfInBounds_toArray, List.set_cons_zero, List.set_cons_succ]
              refine hK _ ?_
              clear hK K
              refine wpMid_skipF (by kernel_rfl) ?_
              intro K hK
              simp only [Act.put, List.setIfInBounds_toArray, List.set_cons_zero, List.set_cons_succ]
              refine hK _ ?_
              clear hK K
              refine wpMid_skipF (by kernel_rfl) ?_
              intro K hK
              simp only [Act.put, List.setIfInBounds_toArray, List.set_cons_zero, List.set_cons_succ]
              refine hK _ ?_
              clear hK K
              refine wpMid_nil ?_
              have hO1 := hO.below (show Below _ _ w1 by (repeat (first | exact bl_refl | assumption | (apply bl_then; assumption) | refine bl_alloc ?_ _ | refine bl_drew ?_ | refine bl_drewN ?_ _)))
              go_wp2
              go_roundw
              case rel => exact ⟨k + 1, Q, by omega, by go_num, HR, hjQ, hO1, by (repeat (first | exact bl_refl | assumption | (apply bl_then; assumption) | refine bl_alloc ?_ _ | refine bl_drew ?_ | refine bl_drewN ?_ _))⟩
              case measure => simp [intOf]; omega
          · cases g
            · have HR : Hid (Q ++ [(cx, cy, cs)] = (l.take (k + 1)).foldl (rtry (px, py, ps)) P) := by unfold Hid; rw [HT.out, rtry_yes ht hg]
              clear HT ht hg HQ
              as_aux_lemma =>
                go_wp2
                refine wp_region_ords [0, 1, 2, 3, 4, 5, 6, 7] [(8, false), (9, false), (10, true), (11, true), (12, false), (13, false), (14, false)] [15, 16, 17] (by kernel_rfl) (by kernel_rfl) (fun d _ _ _ _ h => by cases d <;> exact h) ?_
                simp only [List.map_cons, List.map_nil, List.getD_cons_zero, List.getD_cons_succ]
                repeat (go_big_quiet_step (fail))
                refine wpQuiet_nil ?_
                refine wpMid_run rfl (fun K hK => ?_)
                go_simp
                refine (ct _).mono ?_
                rintro e w1 ⟨rfl, hb1⟩
                refine hK _ _ (by (repeat (first | exact bl_refl | assumption | (apply bl_then; assumption) | refine bl_alloc ?_ _ | refine bl_drew ?_ | refine bl_drewN ?_ _))) ?_
                clear hK K
                have f0 := ((h.below hbw).below (show Below _ _ w1 by (repeat (first | exact bl_refl | assumption | (apply bl_then; assumption) | refine bl_alloc ?_ _ | refine bl_drew ?_ | refine bl_drewN ?_ _)))).barAt hlt
                rw [HX.out] at f0
                simp only at f0
                refine wpMid_run rfl (fun K hK => ?_)
                go_simp
                refine hK _ _ (by (repeat (first | exact bl_refl | assumption | (apply bl_then; assumption) | refine bl_alloc ?_ _ | refine bl_drew ?_ | refine bl_drewN ?_ _))) ?_
                clear hK K
                refine wpMid_take rfl ?_
                intro K hK
                go_big_quiet_op
                go_big_quiet_on
                refine wpMid_take rfl ?_
                intro K hK
                go_big_quiet_op
                go_big_quiet_on
                refine wpMid_run rfl (fun K hK => ?_)
                go_simp
                refine hK _ _ (by (repeat (first | exact bl_refl | assumption | (apply bl_then; assumption) | refine bl_alloc ?_ _ | refine bl_drew ?_ | refine bl_drewN ?_ _))) ?_
                clear hK K
                refine wpMid_run rfl (fun K hK => ?_)
                go_simp
                refine hK _ _ (by (repeat (first | exact bl_refl | assumption | (apply bl_then; assumption) | refine bl_alloc ?_ _ | refine bl_drew ?_ | refine bl_drewN ?_ _))) ?_
                clear hK K
                refine wpMid_run rfl (fun K hK => ?_)
                go_simp
                refine hK _ _ (by (repeat (first | exact bl_refl | assumption | (apply bl_then; assumption) | refine bl_alloc ?_ _ | refine bl_drew ?_ | refine bl_drewN ?_ _))) ?_
                clear hK K
                refine wpMid_nil ?_
                go_wp2_with fail
                refine (ch _ (hSQ.below (by (repeat (first | exact bl_refl | assumption | (apply bl_then; assumption) | refine bl_alloc ?_ _ | refine bl_drew ?_ | refine bl_drewN ?_ _))))).mono ?_
                rintro e w2 ⟨rfl, hb2⟩
                have hO2 := hO.below (show Below _ _ w2 by (repeat (first | exact bl_refl | assumption | (apply bl_then; assumption) | refine bl_alloc ?_ _ | refine bl_drew ?_ | refine bl_drewN ?_ _)))
                have hbw2 : Below w.heap.size w w2 := by (repeat (first | exact bl_refl | assumption | (apply bl_then; assumption) | refine bl_alloc ?_ _ | refine bl_drew ?_ | refine bl_drewN ?_ _))
                have f1 := (h.below hbw2).barAt hlt
                rw [HX.out] at f1
                simp only at f1
                go_wp2_with (at_builtin; refine wpList_appB1 hO2 rfl _ _ rfl rfl rfl (by simp) (by omega) hbw2.size ?_; intro v6 w6 hown6 hgr6)
                have hb6 := own_step hO2 hgr6 (by (repeat (first | exact bl_refl | assumption | (apply bl_then; assumption) | refine bl_alloc ?_ _ | refine bl_drew ?_ | refine bl_drewN ?_ _)))
                clear hgr6
                go_wp2
                go_roundw
                case rel => exact ⟨k + 1, _, by omega, by go_num, HR, by simp; omega, hown6, hb6⟩
                case measure => simp [intOf]; omega
            · have HR : Hid (Q = (l.take (k + 1)).foldl (rtry (px, py, ps)) P) := by unfold Hid; rw [HT.out, rtry_no2 hg]
              clear HT ht hg HQ
              as_aux_lemma =>
                go_wp2
                refine wp_region_ords [0, 1, 2, 3, 4, 5, 6, 7] [(8, false), (9, false), (10, true), (11, true), (12, false), (13, false), (14, false)] [15, 16, 17] (by kernel_rfl) (by kernel_rfl) (fun d _ _ _ _ h => by cases d <;> exact h) ?_
                simp only [List.map_cons, List.map_nil, List.getD_cons_zero, List.getD_cons_succ]
                repeat (go_big_quiet_step (fail))
                refine wpQuiet_nil ?_
                refine wpMid_run rfl (fun K hK => ?_)
                go_simp
                refine (ct _).mono ?_
                rintro e w1 ⟨rfl, hb1⟩
                refine hK _ _ (by (repeat (first | exact bl_refl | assumption | (apply bl_then; assumption) | refine bl_alloc ?_ _ | refine bl_drew ?_ | refine bl_drewN ?_ _))) ?_
                clear hK K
                have f0 := ((h.below hbw).below (show Below _ _ w1 by (repeat (first | exact bl_refl | assumption | (apply bl_then; assumption) | refine bl_alloc ?_ _ | refine bl_drew ?_ | refine bl_drewN ?_ _)))).barAt hlt
                rw [HX.out] at f0
                simp only at f0
                refine wpMid_run rfl (fun K hK => ?_)
                go_simp
                refine hK _ _ (by (repeat (first | exact bl_refl | assumption | (apply bl_then; assumption) | refine bl_alloc ?_ _ | refine bl_drew ?_ | refine bl_drewN ?_ _))) ?_
                clear hK K
                refine wpMid_take rfl ?_
                intro K hK
                go_big_quiet_op
                go_big_quiet_on
                refine wpMid_take rfl ?_
                intro K hK
                go_big_quiet_op
                go_big_quiet_on
                refine wpMid_run rfl (fun K hK => ?_)
                go_simp
                refine hK _ _ (by (repeat (first | exact bl_refl | assumption | (apply bl_then; assumption) | refine bl_alloc ?_ _ | refine bl_drew ?_ | refine bl_drewN ?_ _))) ?_
                clear hK K
                refine wpMid_run rfl (fun K hK => ?_)
                go_simp
                refine hK _ _ (by (repeat (first | exact bl_refl | assumption | (apply bl_then; assumption) | refine bl_alloc ?_ _ | refine bl_drew ?_ | refine bl_drewN ?_ _))) ?_
                clear hK K
                refine wpMid_run rfl (fun K hK => ?_)
                go_simp
                refine hK _ _ (by (repeat (first | exact bl_refl | assumption | (apply bl_then; assumption) | refine bl_alloc ?_ _ | refine bl_drew ?_ | refine bl_drewN ?_ _))) ?_
                clear hK K
                refine wpMid_nil ?_
                go_wp2_with fail
                refine (ch _ (hSQ.below (by (repeat (first | exact bl_refl | assumption | (apply bl_then; assumption) | refine bl_alloc ?_ _ | refine bl_drew ?_ | refine bl_drewN ?_ _))))).mono ?_
                rintro e w2 ⟨rfl, hb2⟩
                have hO2 := hO.below (show Below _ _ w2 by (repeat (first | exact bl_refl | assumption | (apply bl_then; assumption) | refine bl_alloc ?_ _ | refine bl_drew ?_ | refine bl_drewN ?_ _)))
                go_wp2
                go_roundw
                case rel => exact ⟨k + 1, Q, by omega, by go_num, HR, hjQ, hO2, by (repeat (first | exact bl_refl | assumption | (apply bl_then; assumption) | refine bl_alloc ?_ _ | refine bl_drew ?_ | refine bl_drewN ?_ _))⟩
                case measure => simp [intOf]; omega
        · have HE : Hid (Q = rrow l (px, py, ps) P) := by unfold Hid rrow; rw [HQ.out, List.take_of_length_le (by omega)]
          have hok2 : PartOk l [] Q := by rw [HE.out]; exact (rrow_spec l (px, py, ps) l P (fun x hx => hx) hP.out).1
          go_wp2
          go_roundw
          case rel => exact ⟨j + 1, Q, by go_num, by omega, hO, hok2, hbw, by unfold Hid; rw [HC2.out, HE.out]⟩
          case measure => simp [intOf]; omega
    · have HE : Hid (rpart l (x, y, s) = setB P) := by unfold Hid rpart; rw [HC.out, rcol_end hjP]
      go_wp2_with fail
      refine (rsorted_any _ _ (hO.rd bc_len) (by omega)).mono ?_
      rintro e w4 ⟨v4, rfl, hO4, hb4⟩
      go_wp2
      go_ret
      exact ⟨_, rfl, by rw [HE.out]; exact hO4.base_mono (Below.size hbw), by (repeat (first | exact bl_refl | assumption | (apply bl_then; assumption) | refine bl_alloc ?_ _ | refine bl_drew ?_ | refine bl_drewN ?_ _))⟩
end Go.Proofs.YtkmjcoofkgpanaaGreatDoor

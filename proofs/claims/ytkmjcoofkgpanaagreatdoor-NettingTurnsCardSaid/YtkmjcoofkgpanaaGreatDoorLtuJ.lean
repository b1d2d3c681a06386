/- NettingTurns: the law, walked. Conditions: the variables are laid. -/
import Derived.Test.YtkmjcoofkgpanaaGreatDoorB21
import Derived.Test.YtkmjcoofkgpanaaGreatDoorPtuJ
import Derived.Test.YtkmjcoofkgpanaaGreatDoorLpaJ
import Derived.Test.YtkmjcoofkgpanaaGreatDoorLmoJ
import Derived.Deep.CutRange
namespace Go.Proofs.YtkmjcoofkgpanaaGreatDoor
open Go.RowKit Go.ChangeMaps
set_option maxHeartbeats 4000000
set_option maxRecDepth 100000

attribute [local go_sem] Oper.semAt_some
theorem range_zero {n lo hi : Int} (h : withinI n lo hi = 0) : lo ≤ n ∧ n ≤ hi := withinI_zero h
theorem range_cases (n lo hi : Int) : withinI n lo hi = 0 ∨ withinI n lo hi = 3 := by
  unfold withinI whenI
  split
  · exact .inr rfl
  · exact .inl rfl
theorem knot_cases (x y : Int) : knotE x y = 0 ∨ knotE x y = 3 ∨ knotE x y = 14 := by
  unfold knotE
  split
  · exact .inr (.inl rfl)
  · split
    · exact .inl rfl
    · exact .inr (.inr rfl)
theorem nettingTurns_any (l : List Bar) (x y q : Int) (w : World) {v : Value} (h : SlB w v l) (hq : -128 ≤ q ∧ q ≤ 127) (hL : Lay w) : Calls Tryz.prog 11 #[v, .agg #[.int .i64 x, .int .i64 y], .int .i8 q] w (RV w (.bool true)) := by
  have ca := fun W (hb : Below w.heap.size w W) => awake_any W (hL.below hb)
  have hK := Blk.new w 23 #[.int .i64 x, .int .i64 y]
  have r1 := fun W (hb : Below w.heap.size w W) => rnet_sl l W (h.below hb)
  have hA := h
  obtain ⟨A0, c0, rfl, hlc0, hcm0, hr0⟩ := h
  by_cases h1 : 20 < l.length
  · have t1 : (20 < (l.length : Int)) = True := eq_true (by omega)
    clear h1
    go_enter Tryz.func11, Tryz.ntmps11
    go_wp2
    refine wp_region_ords [] [(0, false), (1, false), (2, false), (3, false), (4, false), (5, false), (6, false), (7, false), (8, false), (9, false), (10, false), (11, false), (12, false), (13, true), (14, true), (16, true), (17, true), (20, true), (15, false), (18, false), (19, true), (21, false)] [22, 23, 24] (by kernel_rfl) (by kernel_rfl) (fun d _ _ _ _ h => by cases d <;> exact h) ?_
    simp only [List.map_cons, List.map_nil, List.getD_cons_zero, List.getD_cons_succ]
    repeat (go_big_quiet_step (fail))
    refine wpQuiet_nil ?_
    refine wpMid_run rfl (fun K hK => ?_)
    go_simp
    refine (ca _ (by (repeat (first | exact bl_refl | assumption | (apply bl_then; assumption) | refine bl_alloc ?_ _ | refine bl_drew ?_ | refine bl_drewN ?_ _)))).mono ?_
    rintro e w1 ⟨rfl, hb1⟩
    refine hK _ _ (by (repeat (first | exact bl_refl | assumption | (apply bl_then; assumption) | refine bl_alloc ?_ _ | refine bl_drew ?_ | refine bl_drewN ?_ _))) ?_
    clear hK K
    refine wpMid_run rfl (fun K hK => ?_)
    go_simp
    refine hK _ _ (by (repeat (first | exact bl_refl | assumption | (apply bl_then; assumption) | refine bl_alloc ?_ _ | refine bl_drew ?_ | refine bl_drewN ?_ _))) ?_
    clear hK K
    refine wpMid_run rfl (fun K hK => ?_)
    go_simp
    refine hK _ _ (by (repeat (first | exact bl_refl | assumption | (apply bl_then; assumption) | refine bl_alloc ?_ _ | refine bl_drew ?_ | refine bl_drewN ?_ _))) ?_
    clear hK K
    refine wpMid_run rfl (fun K hK => ?_)
    go_simp
    refine hK _ _ (by (repeat (first | exact bl_refl | assumption | (apply bl_then; assumption) | refine bl_alloc ?_ _ | refine bl_drew ?_ | refine bl_drewN ?_ _))) ?_
    clear hK K
    refine wpMid_run rfl (fun K hK => ?_)
    go_simp
    refine hK _ _ (by (repeat (first | exact bl_refl | assumption | (apply bl_then; assumption) | refine bl_alloc ?_ _ | refine bl_drew ?_ | refine bl_drewN ?_ _))) ?_
    clear hK K
    refine wpMid_run rfl (fun K hK => ?_)
    go_simp
    refine hK _ _ (by (repeat (first | exact bl_refl | assumption | (apply bl_then; assumption) | refine bl_alloc ?_ _ | refine bl_drew ?_ | refine bl_drewN ?_ _))) ?_
    clear hK K
    refine wpMid_run rfl (fun K hK => ?_)
    go_simp
    refine hK _ _ (by (repeat (first | exact bl_refl | assumption | (apply bl_then; assumption) | refine bl_alloc ?_ _ | refine bl_drew ?_ | refine bl_drewN ?_ _))) ?_
    clear hK K
    refine wpMid_run rfl (fun K hK => ?_)
    go_simp
    refine hK _ _ (by (repeat (first | exact bl_refl | assumption | (apply bl_then; assumption) | refine bl_alloc ?_ _ | refine bl_drew ?_ | refine bl_drewN ?_ _))) ?_
    clear hK K
    refine wpMid_skipF (by kernel_rfl) ?_
    intro K hK
    simp only [Act.put, List.setIfInBounds_toArray, List.set_cons_zero, List.set_cons_succ]
    refine hK _ ?_
    clear hK K
    refine wpMid_skipF (by kernel_rfl) ?_
    intro K hK
    simp only [Act.put, List.setIfInBounds_toArray, List.set_cons_zero, List.set_cons_succ]
    refine hK _ ?_
    clear hK K
    refine wpMid_skipF (by kernel_rfl) ?_
    intro K hK
    simp only [Act.put, List.setIfInBounds_toArray, List.set_cons_zero, List.set_cons_succ]
    refine hK _ ?_
    clear hK K
    refine wpMid_run rfl (fun K hK => ?_)
    go_simp
    refine hK _ _ (by (repeat (first | exact bl_refl | assumption | (apply bl_then; assumption) | refine bl_alloc ?_ _ | refine bl_drew ?_ | refine bl_drewN ?_ _))) ?_
    clear hK K
    refine wpMid_run rfl (fun K hK => ?_)
    go_simp
    refine hK _ _ (by (repeat (first | exact bl_refl | assumption | (apply bl_then; assumption) | refine bl_alloc ?_ _ | refine bl_drew ?_ | refine bl_drewN ?_ _))) ?_
    clear hK K
    refine wpMid_skipT (by kernel_rfl) ?_
    intro K hK
    simp only [Act.put, List.setIfInBounds_toArray, List.set_cons_zero, List.set_cons_succ]
    refine hK _ ?_
    clear hK K
    refine wpMid_skipT (by kernel_rfl) ?_
    intro K hK
    simp only [Act.put, List.setIfInBounds_toArray, List.set_cons_zero, List.set_cons_succ]
    refine hK _ ?_
    clear hK K
    refine wpMid_skipT (by kernel_rfl) ?_
    intro K hK
    simp only [Act.put, List.setIfInBounds_toArray, List.set_cons_zero, List.set_cons_succ]
    refine hK _ ?_
    clear hK K
    refine wpMid_skipT (by kernel_rfl) ?_
    intro K hK
    simp only [Act.put, List.setIfInBounds_toArray, List.set_cons_zero, List.set_cons_succ]
    refine hK _ ?_
    clear hK K
    refine wpMid_skipT (by kernel_rfl) ?_
    intro K hK
    simp only [Act.put, List.setIfInBounds_toArray, List.set_cons_zero, List.set_cons_succ]
    refine hK _ ?_
    clear hK K
    refine wpMid_skipF (by kernel_rfl) ?_
    intro K hK
    simp only [Act.put, List.setIfInBounds_toArray, List.set_cons_zero, List.set_cons_succ]
    refine hK _ ?_
    clear hK K
    refine wpMid_skipF (by kernel_rfl) ?_
    intro K hK
    simp only [Act.put, List.setIfInBounds_toArray, List.set_cons_zero, List.set_cons_succ]
    refine hK _ ?_
    clear hK K
    refine wpMid_skipT (by kernel_rfl) ?_
    intro K hK
    simp only [Act.put, List.setIfInBounds_toArray, List.set_cons_zero, List.set_cons_succ]
    refine hK _ ?_
    clear hK K
    refine wpMid_skipF (by kernel_rfl) ?_
    intro K hK
    simp only [Act.put, List.setIfInBounds_toArray, List.set_cons_zero, List.set_cons_succ]
    refine hK _ ?_
    clear hK K
    refine wpMid_nil ?_
    go_wp2_with fail
    refine (ca _ (by (repeat (first | exact bl_refl | assumption | (apply bl_then; assumption) | refine bl_alloc ?_ _ | refine bl_drew ?_ | refine bl_drewN ?_ _)))).mono ?_
    rintro e w2 ⟨rfl, hb2⟩
    go_wp2
    go_ret
    exact ⟨rfl, by (repeat (first | exact bl_refl | assumption | (apply bl_then; assumption) | refine bl_alloc ?_ _ | refine bl_drew ?_ | refine bl_drewN ?_ _))⟩
  have t1 : (20 < (l.length : Int)) = False := eq_false (by omega)
  by_cases hE : netE l = 0
  rotate_left
  · have t2 : (netE l != 0) = true := by simp [hE]
    clear h1 hE
    go_enter Tryz.func11, Tryz.ntmps11
    go_wp2
    refine wp_region_ords [] [(0, false), (1, false), (2, false), (3, false), (4, false), (5, false), (6, false), (7, false), (8, false), (9, false), (10, false), (11, false), (12, false), (13, true), (14, true), (16, true), (17, true), (20, true), (15, false), (18, false), (19, true), (21, false)] [22, 23, 24] (by kernel_rfl) (by kernel_rfl) (fun d _ _ _ _ h => by cases d <;> exact h) ?_
    simp only [List.map_cons, List.map_nil, List.getD_cons_zero, List.getD_cons_succ]
    repeat (go_big_quiet_step (fail))
    refine wpQuiet_nil ?_
    refine wpMid_run rfl (fun K hK => ?_)
    go_simp
    refine (ca _ (by (repeat (first | exact bl_refl | assumption | (apply bl_then; assumption) | refine bl_alloc ?_ _ | refine bl_drew ?_ | refine bl_drewN ?_ _)))).mono ?_
    rintro e w1 ⟨rfl, hb1⟩
    refine hK _ _ (by (repeat (first | exact bl_refl | assumption | (apply bl_then; assumption) | refine bl_alloc ?_ _ | refine bl_drew ?_ | refine bl_drewN ?_ _))) ?_
    clear hK K
    refine wpMid_run rfl (fun K hK => ?_)
    go_simp
    refine hK _ _ (by (repeat (first | exact bl_refl | assumption | (apply bl_then; assumption) | refine bl_alloc ?_ _ | refine bl_drew ?_ | refine bl_drewN ?_ _))) ?_
    clear hK K
    refine wpMid_run rfl (fun K hK => ?_)
    go_simp
    refine hK _ _ (by (repeat (first | exact bl_refl | assumption | (apply bl_then; assumption) | refine bl_alloc ?_ _ | refine bl_drew ?_ | refine bl_drewN ?_ _))) ?_
    clear hK K
    refine wpMid_run rfl (fun K hK => ?_)
    go_simp
    refine hK _ _ (by (repeat (first | exact bl_refl | assumption | (apply bl_then; assumption) | refine bl_alloc ?_ _ | refine bl_drew ?_ | refine bl_drewN ?_ _))) ?_
    clear hK K
    refine wpMid_run rfl (fun K hK => ?_)
    go_simp
    refine hK _ _ (by (repeat (first | exact bl_refl | assumption | (apply bl_then; assumption) | refine bl_alloc ?_ _ | refine bl_drew ?_ | refine bl_drewN ?_ _))) ?_
    clear hK K
    refine wpMid_run rfl (fun K hK => ?_)
    go_simp
    refine hK _ _ (by (repeat (first | exact bl_refl | assumption | (apply bl_then; assumption) | refine bl_alloc ?_ _ | refine bl_drew ?_ | refine bl_drewN ?_ _))) ?_
    clear hK K
    refine wpMid_run rfl (fun K hK => ?_)
    go_simp
    refine hK _ _ (by (repeat (first | exact bl_refl | assumption | (apply bl_then; assumption) | refine bl_alloc ?_ _ | refine bl_drew ?_ | refine bl_drewN ?_ _))) ?_
    clear hK K
    refine wpMid_run rfl (fun K hK => ?_)
    go_simp
    refine hK _ _ (by (repeat (first | exact bl_refl | assumption | (apply bl_then; assumption) | refine bl_alloc ?_ _ | refine bl_drew ?_ | refine bl_drewN ?_ _))) ?_
    clear hK K
    refine wpMid_run rfl (fun K hK => ?_)
    go_simp
    refine hK _ _ (by (repeat (first | exact bl_refl | assumption | (apply bl_then; assumption) | refine bl_alloc ?_ _ | refine bl_drew ?_ | refine bl_drewN ?_ _))) ?_
    clear hK K
    refine wpMid_run rfl (fun K hK => ?_)
    go_simp
    refine (r1 _ (by (repeat (first | exact bl_refl | assumption | (apply bl_then; assumption) | refine bl_alloc ?_ _ | refine bl_drew ?_ | refine bl_drewN ?_ _)))).mono ?_
    rintro e w2 ⟨rfl, hb2⟩
    refine hK _ _ (by (repeat (first | exact bl_refl | assumption | (apply bl_then; assumption) | refine bl_alloc ?_ _ | refine bl_drew ?_ | refine bl_drewN ?_ _))) ?_
    clear hK K
    refine wpMid_run rfl (fun K hK => ?_)
    go_simp
    refine hK _ _ (by (repeat (first | exact bl_refl | assumption | (apply bl_then; assumption) | refine bl_alloc ?_ _ | refine bl_drew ?_ | refine bl_drewN ?_ _))) ?_
    clear hK K
    refine wpMid_run rfl (fun K hK => ?_)
    go_simp
    refine hK _ _ (by (repeat (first | exact bl_refl | assumption | (apply bl_then; assumption) | refine bl_alloc ?_ _ | refine bl_drew ?_ | refine bl_drewN ?_ _))) ?_
    clear hK K
    refine wpMid_run rfl (fun K hK => ?_)
    go_simp
    refine hK _ _ (by (repeat (first | exact bl_refl | assumption | (apply bl_then; assumption) | refine bl_alloc ?_ _ | refine bl_drew ?_ | refine bl_drewN ?_ _))) ?_
    clear hK K
    refine wpMid_skipT (by kernel_rfl) ?_
    intro K hK
    simp only [Act.put, List.setIfInBounds_toArray, List.set_cons_zero, List.set_cons_succ]
    refine hK _ ?_
    clear hK K
    refine wpMid_skipT (by kernel_rfl) ?_
    intro K hK
    simp only [Act.put, List.setIfInBounds_toArray, List.set_cons_zero, List.set_cons_succ]
    refine hK _ ?_
    clear hK K
    refine wpMid_skipT (by kernel_rfl) ?_
    intro K hK
    simp only [Act.put, List.setIfInBounds_toArray, List.set_cons_zero, List.set_cons_succ]
    refine hK _ ?_
    clear hK K
    refine wpMid_skipT (by kernel_rfl) ?_
    intro K hK
    simp only [Act.put, List.setIfInBounds_toArray, List.set_cons_zero, List.set_cons_succ]
    refine hK _ ?_
    clear hK K
    refine wpMid_skipT (by kernel_rfl) ?_
    intro K hK
    simp only [Act.put, List.setIfInBounds_toArray, List.set_cons_zero, List.set_cons_succ]
    refine hK _ ?_
    clear hK K
    refine wpMid_skipF (by kernel_rfl) ?_
    intro K hK
    simp only [Act.put, List.setIfInBounds_toArray, List.set_cons_zero, List.set_cons_succ]
    refine hK _ ?_
    clear hK K
    refine wpMid_skipF (by kernel_rfl) ?_
    intro K hK
    simp only [Act.put, List.setIfInBounds_toArray, List.set_cons_zero, List.set_cons_succ]
    refine hK _ ?_
    clear hK K
    refine wpMid_skipT (by kernel_rfl) ?_
    intro K hK
    simp only [Act.put, List.setIfInBounds_toArray, List.set_cons_zero, List.set_cons_succ]
    refine hK _ ?_
    clear hK K
    refine wpMid_skipF (by kernel_rfl) ?_
    intro K hK
    simp only [Act.put, List.setIfInBounds_toArray, List.set_cons_zero, List.set_cons_succ]
    refine hK _ ?_
    clear hK K
    refine wpMid_nil ?_
    go_wp2_with fail
    refine (ca _ (by (repeat (first | exact bl_refl | assumption | (apply bl_then; assumption) | refine bl_alloc ?_ _ | refine bl_drew ?_ | refine bl_drewN ?_ _)))).mono ?_
    rintro e w3 ⟨rfl, hb3⟩
    go_wp2
    go_ret
    exact ⟨rfl, by (repeat (first | exact bl_refl | assumption | (apply bl_then; assumption) | refine bl_alloc ?_ _ | refine bl_drew ?_ | refine bl_drewN ?_ _))⟩
  rw [hE] at r1
  have g1 := fun W => rrange_any x (-1000) 1000 W
  have g2 := fun W => rrange_any y (-1000) 1000 W
  have g3 := fun W => rknot_any x y W
  have z1 := range_cases x (-1000) 1000
  have z2 := range_cases y (-1000) 1000
  have z3 := knot_cases x y
  by_cases hR : withinI x (-1000) 1000 = 0 ∧ withinI y (-1000) 1000 = 0 ∧ knotE x y = 0
  rotate_left
  · obtain ⟨p1, hp1⟩ : ∃ p, withinI x (-1000) 1000 = p := ⟨_, rfl⟩
    obtain ⟨p2, hp2⟩ : ∃ p, withinI y (-1000) 1000 = p := ⟨_, rfl⟩
    obtain ⟨p3, hp3⟩ : ∃ p, knotE x y = p := ⟨_, rfl⟩
    rw [hp1, hp2, hp3] at hR
    rw [hp1] at g1 z1
    rw [hp2] at g2 z2
    rw [hp3] at g3 z3
    have b1 : 0 ≤ p1 ∧ p1 ≤ 3 := by omega
    have b2 : 0 ≤ p2 ∧ p2 ≤ 3 := by omega
    have b3 : 0 ≤ p3 ∧ p3 ≤ 14 := by omega
    have t3 : (p1 + p2 + p3 != 0) = true := by rw [bne_iff_ne]; omega
    clear h1 hE hR z1 z2 z3 hp1 hp2 hp3
    go_enter Tryz.func11, Tryz.ntmps11
    go_wp2
    have fhK := hK.facts
    refine wp_region_ords [] [(0, false), (1, false), (2, false), (3, false), (4, false), (5, false), (6, false), (7, false), (8, false), (9, false), (10, false), (11, false), (12, false), (13, true), (14, true), (16, true), (17, true), (20, true), (15, false), (18, false), (19, true), (21, false)] [22, 23, 24] (by kernel_rfl) (by kernel_rfl) (fun d _ _ _ _ h => by cases d <;> exact h) ?_
    simp only [List.map_cons, List.map_nil, List.getD_cons_zero, List.getD_cons_succ]
    repeat (go_big_quiet_step (fail))
    refine wpQuiet_nil ?_
    refine wpMid_run rfl (fun K hK => ?_)
    go_simp
    refine (ca _ (by (repeat (first | exact bl_refl | assumption | (apply bl_then; assumption) | refine bl_alloc ?_ _ | refine bl_drew ?_ | refine bl_drewN ?_ _)))).mono ?_
    rintro e w1 ⟨rfl, hb1⟩
    refine hK _ _ (by (repeat (first | exact bl_refl | assumption | (apply bl_then; assumption) | refine bl_alloc ?_ _ | refine bl_drew ?_ | refine bl_drewN ?_ _))) ?_
    clear hK K
    refine wpMid_run rfl (fun K hK => ?_)
    go_simp
    refine hK _ _ (by (repeat (first | exact bl_refl | assumption | (apply bl_then; assumption) | refine bl_alloc ?_ _ | refine bl_drew ?_ | refine bl_drewN ?_ _))) ?_
    clear hK K
    refine wpMid_run rfl (fun K hK => ?_)
    go_simp
    refine hK _ _ (by (repeat (first | exact bl_refl | assumption | (apply bl_then; assumption) | refine bl_alloc ?_ _ | refine bl_drew ?_ | refine bl_drewN ?_ _))) ?_
    clear hK K
    refine wpMid_run rfl (fun K hK => ?_)
    go_simp
    refine hK _ _ (by (repeat (first | exact bl_refl | assumption | (apply bl_then; assumption) | refine bl_alloc ?_ _ | refine bl_drew ?_ | refine bl_drewN ?_ _))) ?_
    clear hK K
    refine wpMid_run rfl (fun K hK => ?_)
    go_simp
    refine hK _ _ (by (repeat (first | exact bl_refl | assumption | (apply bl_then; assumption) | refine bl_alloc ?_ _ | refine bl_drew ?_ | refine bl_drewN ?_ _))) ?_
    clear hK K
    refine wpMid_run rfl (fun K hK => ?_)
    go_simp
    refine hK _ _ (by (repeat (first | exact bl_refl | assumption | (apply bl_then; assumption) | refine bl_alloc ?_ _ | refine bl_drew ?_ | refine bl_drewN ?_ _))) ?_
    clear hK K
    refine wpMid_run rfl (fun K hK => ?_)
    go_simp
    refine hK _ _ (by (repeat (first | exact bl_refl | assumption | (apply bl_then; assumption) | refine bl_alloc ?_ _ | refine bl_drew ?_ | refine bl_drewN ?_ _))) ?_
    clear hK K
    refine wpMid_run rfl (fun K hK => ?_)
    go_simp
    refine hK _ _ (by (repeat (first | exact bl_refl | assumption | (apply bl_then; assumption) | refine bl_alloc ?_ _ | refine bl_drew ?_ | refine bl_drewN ?_ _))) ?_
    clear hK K
    refine wpMid_run rfl (fun K hK => ?_)
    go_simp
    refine hK _ _ (by (repeat (first | exact bl_refl | assumption | (apply bl_then; assumption) | refine bl_alloc ?_ _ | refine bl_drew ?_ | refine bl_drewN ?_ _))) ?_
    clear hK K
    refine wpMid_run rfl (fun K hK => ?_)
    go_simp
    refine (r1 _ (by (repeat (first | exact bl_refl | assumption | (apply bl_then; assumption) | refine bl_alloc ?_ _ | refine bl_drew ?_ | refine bl_drewN ?_ _)))).mono ?_
    rintro e w2 ⟨rfl, hb2⟩
    refine hK _ _ (by (repeat (first | exact bl_refl | assumption | (apply bl_then; assumption) | refine bl_alloc ?_ _ | refine bl_drew ?_ | refine bl_drewN ?_ _))) ?_
    clear hK K
    have hK_w2 := hK.below (show Below _ _ w2 by (repeat (first | exact bl_refl | assumption | (apply bl_then; assumption) | refine bl_alloc ?_ _ | refine bl_drew ?_ | refine bl_drewN ?_ _)))
    have fhK_w2 := hK_w2.facts
    refine wpMid_run rfl (fun K hK => ?_)
    go_simp
    refine hK _ _ (by (repeat (first | exact bl_refl | assumption | (apply bl_then; assumption) | refine bl_alloc ?_ _ | refine bl_drew ?_ | refine bl_drewN ?_ _))) ?_
    clear hK K
    refine wpMid_run rfl (fun K hK => ?_)
    go_simp
    refine hK _ _ (by (repeat (first | exact bl_refl | assumption | (apply bl_then; assumption) | refine bl_alloc ?_ _ | refine bl_drew ?_ | refine bl_drewN ?_ _))) ?_
    clear hK K
    refine wpMid_run rfl (fun K hK => ?_)
    go_simp
    refine hK _ _ (by (repeat (first | exact bl_refl | assumption | (apply bl_then; assumption) | refine bl_alloc ?_ _ | refine bl_drew ?_ | refine bl_drewN ?_ _))) ?_
    clear hK K
    refine wpMid_take rfl ?_
    intro K hK
    go_big_quiet_op
    go_big_quiet_on
    refine wpMid_take rfl ?_
    intro K hK
    go_big_quiet_op
    go_big_quiet_on
    refine wpMid_take rfl ?_
    intro K hK
    go_big_quiet_op
    go_big_quiet_on
    refine wpMid_take rfl ?_
    intro K hK
    go_big_quiet_op
    go_big_quiet_on
    refine wpMid_take rfl ?_
    intro K hK
    go_big_quiet_op
    go_big_quiet_on
    refine wpMid_run rfl (fun K hK => ?_)
    go_simp
    refine (g1 _).mono ?_
    rintro e w3 ⟨rfl, hb3⟩
    refine hK _ _ (by (repeat (first | exact bl_refl | assumption | (apply bl_then; assumption) | refine bl_alloc ?_ _ | refine bl_drew ?_ | refine bl_drewN ?_ _))) ?_
    clear hK K
    have hK_w3 := hK.below (show Below _ _ w3 by (repeat (first | exact bl_refl | assumption | (apply bl_then; assumption) | refine bl_alloc ?_ _ | refine bl_drew ?_ | refine bl_drewN ?_ _)))
    have fhK_w3 := hK_w3.facts
    refine wpMid_run rfl (fun K hK => ?_)
    go_simp
    refine (g2 _).mono ?_
    rintro e w4 ⟨rfl, hb4⟩
    refine hK _ _ (by (repeat (first | exact bl_refl | assumption | (apply bl_then; assumption) | refine bl_alloc ?_ _ | refine bl_drew ?_ | refine bl_drewN ?_ _))) ?_
    clear hK K
    have hK_w4 := hK.below (show Below _ _ w4 by (repeat (first | exact bl_refl | assumption | (apply bl_then; assumption) | refine bl_alloc ?_ _ | refine bl_drew ?_ | refine bl_drewN ?_ _)))
    have fhK_w4 := hK_w4.facts
    refine wpMid_take rfl ?_
    intro K hK
    go_big_quiet_op
    go_big_quiet_on
    refine wpMid_run rfl (fun K hK => ?_)
    go_simp
    refine (g3 _).mono ?_
    rintro e w5 ⟨rfl, hb5⟩
    refine hK _ _ (by (repeat (first | exact bl_refl | assumption | (apply bl_then; assumption) | refine bl_alloc ?_ _ | refine bl_drew ?_ | refine bl_drewN ?_ _))) ?_
    clear hK K
    refine wpMid_nil ?_
    go_wp2_with fail
    refine (ca _ (by (repeat (first | exact bl_refl | assumption | (apply bl_then; assumption) | refine bl_alloc ?_ _ | refine bl_drew ?_ | refine bl_drewN ?_ _)))).mono ?_
    rintro e w6 ⟨rfl, hb6⟩
    go_wp2
    go_ret
    exact ⟨rfl, by (repeat (first | exact bl_refl | assumption | (apply bl_then; assumption) | refine bl_alloc ?_ _ | refine bl_drew ?_ | refine bl_drewN ?_ _))⟩
  obtain ⟨hx, hy, hk0⟩ := hR
  rw [hx] at g1
  rw [hy] at g2
  rw [hk0] at g3
  have rx := range_zero hx
  have ry := range_zero hy
  have HE := Lib.hid hE
  have HK0 := Lib.hid hk0
  have la : l.length ≤ 100000 := by omega
  have l20 : l.length ≤ 20 := by omega
  clear h1 hE hx hy hk0 z1 z2 z3
  go_enter Tryz.func11, Tryz.ntmps11
  go_wp2
  have fhK := hK.facts
  refine wp_region_ords [] [(0, false), (1, false), (2, false), (3, false), (4, false), (5, false), (6, false), (7, false), (8, false), (9, false), (10, false), (11, false), (12, false), (13, true), (14, true), (16, true), (17, true), (20, true), (15, false), (18, false), (19, true), (21, false)] [22, 23, 24] (by kernel_rfl) (by kernel_rfl) (fun d _ _ _ _ h => by cases d <;> exact h) ?_
  simp only [List.map_cons, List.map_nil, List.getD_cons_zero, List.getD_cons_succ]
  repeat (go_big_quiet_step (fail))
  refine wpQuiet_nil ?_
  refine wpMid_run rfl (fun K hK => ?_)
  go_simp
  refine (ca _ (by (repeat (first | exact bl_refl | assumption | (apply bl_then; assumption) | refine bl_alloc ?_ _ | refine bl_drew ?_ | refine bl_drewN ?_ _)))).mono ?_
  rintro e w1 ⟨rfl, hb1⟩
  refine hK _ _ (by (repeat (first | exact bl_refl | assumption | (apply bl_then; assumption) | refine bl_alloc ?_ _ | refine bl_drew ?_ | refine bl_drewN ?_ _))) ?_
  clear hK K
  refine wpMid_run rfl (fun K hK => ?_)
  go_simp
  refine hK _ _ (by (repeat (first | exact bl_refl | assumption | (apply bl_then; assumption) | refine bl_alloc ?_ _ | refine bl_drew ?_ | refine bl_drewN ?_ _))) ?_
  clear hK K
  refine wpMid_run rfl (fun K hK => ?_)
  go_simp
  refine hK _ _ (by (repeat (first | exact bl_refl | assumption | (apply bl_then; assumption) | refine bl_alloc ?_ _ | refine bl_drew ?_ | refine bl_drewN ?_ _))) ?_
  clear hK K
  refine wpMid_run rfl (fun K hK => ?_)
  go_simp
  refine hK _ _ (by (repeat (first | exact bl_refl | assumption | (apply bl_then; assumption) | refine bl_alloc ?_ _ | refine bl_drew ?_ | refine bl_drewN ?_ _))) ?_
  clear hK K
  refine wpMid_run rfl (fun K hK => ?_)
  go_simp
  refine hK _ _ (by (repeat (first | exact bl_refl | assumption | (apply bl_then; assumption) | refine bl_alloc ?_ _ | refine bl_drew ?_ | refine bl_drewN ?_ _))) ?_
  clear hK K
  refine wpMid_run rfl (fun K hK => ?_)
  go_simp
  refine hK _ _ (by (repeat (first | exact bl_refl | assumption | (apply bl_then; assumption) | refine bl_alloc ?_ _ | refine bl_drew ?_ | refine bl_drewN ?_ _))) ?_
  clear hK K
  refine wpMid_run rfl (fun K hK => ?_)
  go_simp
  refine hK _ _ (by (repeat (first | exact bl_refl | assumption | (apply bl_then; assumption) | refine bl_alloc ?_ _ | refine bl_drew ?_ | refine bl_drewN ?_ _))) ?_
  clear hK K
  refine wpMid_run rfl (fun K hK => ?_)
  go_simp
  refine hK _ _ (by (repeat (first | exact bl_refl | assumption | (apply bl_then; assumption) | refine bl_alloc ?_ _ | refine bl_drew ?_ | refine bl_drewN ?_ _))) ?_
  clear hK K
  refine wpMid_run rfl (fun K hK => ?_)
  go_simp
  refine hK _ _ (by (repeat (first | exact bl_refl | assumption | (apply bl_then; assumption) | refine bl_alloc ?_ _ | refine bl_drew ?_ | refine bl_drewN ?_ _))) ?_
  clear hK K
  refine wpMid_run rfl (fun K hK => ?_)
  go_simp
  refine (r1 _ (by (repeat (first | exact bl_refl | assumption | (apply bl_then; assumption) | refine bl_alloc ?_ _ | refine bl_drew ?_ | refine bl_drewN ?_ _)))).mono ?_
  rintro e w2 ⟨rfl, hb2⟩
  refine hK _ _ (by (repeat (first | exact bl_refl | assumption | (apply bl_then; assumption) | refine bl_alloc ?_ _ | refine bl_drew ?_ | refine bl_drewN ?_ _))) ?_
  clear hK K
  have hK_w2 := hK.below (show Below _ _ w2 by (repeat (first | exact bl_refl | assumption | (apply bl_then; assumption) | refine bl_alloc ?_ _ | refine bl_drew ?_ | refine bl_drewN ?_ _)))
  have fhK_w2 := hK_w2.facts
  refine wpMid_run rfl (fun K hK => ?_)
  go_simp
  refine hK _ _ (by (repeat (first | exact bl_refl | assumption | (apply bl_then; assumption) | refine bl_alloc ?_ _ | refine bl_drew ?_ | refine bl_drewN ?_ _))) ?_
  clear hK K
  refine wpMid_run rfl (fun K hK => ?_)
  go_simp
  refine hK _ _ (by (repeat (first | exact bl_refl | assumption | (apply bl_then; assumption) | refine bl_alloc ?_ _ | refine bl_drew ?_ | refine bl_drewN ?_ _))) ?_
  clear hK K
  refine wpMid_run rfl (fun K hK => ?_)
  go_simp
  refine hK _ _ (by (repeat (first | exact bl_refl | assumption | (apply bl_then; assumption) | refine bl_alloc ?_ _ | refine bl_drew ?_ | refine bl_drewN ?_ _))) ?_
  clear hK K
  refine wpMid_take rfl ?_
  intro K hK
  go_big_quiet_op
  go_big_quiet_on
  refine wpMid_take rfl ?_
  intro K hK
  go_big_quiet_op
  go_big_quiet_on
  refine wpMid_take rfl ?_
  intro K hK
  go_big_quiet_op
  go_big_quiet_on
  refine wpMid_take rfl ?_
  intro K hK
  go_big_quiet_op
  go_big_quiet_on
  refine wpMid_take rfl ?_
  intro K hK
  go_big_quiet_op
  go_big_quiet_on
  refine wpMid_run rfl (fun K hK => ?_)
  go_simp
  refine (g1 _).mono ?_
  rintro e w3 ⟨rfl, hb3⟩
  refine hK _ _ (by (repeat (first | exact bl_refl | assumption | (apply bl_then; assumption) | refine bl_alloc ?_ _ | refine bl_drew ?_ | refine bl_drewN ?_ _))) ?_
  clear hK K
  have hK_w3 := hK.below (show Below _ _ w3 by (repeat (first | exact bl_refl | assumption | (apply bl_then; assumption) | refine bl_alloc ?_ _ | refine bl_drew ?_ | refine bl_drewN ?_ _)))
  have fhK_w3 := hK_w3.facts
  refine wpMid_run rfl (fun K hK => ?_)
  go_simp
  refine (g2 _).mono ?_
  rintro e w4 ⟨rfl, hb4⟩
  refine hK _ _ (by (repeat (first | exact bl_refl | assumption | (apply bl_then; assumption) | refine bl_alloc ?_ _ | refine bl_drew ?_ | refine bl_drewN ?_ _))) ?_
  clear hK K
  have hK_w4 := hK.below (show Below _ _ w4 by (repeat (first | exact bl_refl | assumption | (apply bl_then; assumption) | refine bl_alloc ?_ _ | refine bl_drew ?_ | refine bl_drewN ?_ _)))
  have fhK_w4 := hK_w4.facts
  refine wpMid_take rfl ?_
  intro K hK
  go_big_quiet_op
  go_big_quiet_on
  refine wpMid_run rfl (fun K hK => ?_)
  go_simp
  refine (g3 _).mono ?_
  rintro e w5 ⟨rfl, hb5⟩
  refine hK _ _ (by (repeat (first | exact bl_refl | assumption | (apply bl_then; assumption) | refine bl_alloc ?_ _ | refine bl_drew ?_ | refine bl_drewN ?_ _))) ?_
  clear hK K
  have hK_w5 := hK.below (show Below _ _ w5 by (repeat (first | exact bl_refl | assumption | (apply bl_then; assumption) | refine bl_alloc ?_ _ | refine bl_drew ?_ | refine bl_drewN ?_ _)))
  have fhK_w5 := hK_w5.facts
  refine wpMid_nil ?_
  have hbw5 : Below w.heap.size w w5 := by (repeat (first | exact bl_refl | assumption | (apply bl_then; assumption) | refine bl_alloc ?_ _ | refine bl_drew ?_ | refine bl_drewN ?_ _))
  clear hb1 hb2 hb3 hb4 hb5 fhK g1 g2 g3 r1 ca
  go_wp2
  go_loopw [69] (fun i wr => ∃ k : Nat, k ≤ l.length ∧ i = .int .i64 k ∧ Hid (∀ b ∈ l.take k, (-1000 ≤ b.1 ∧ b.1 ≤ 1000) ∧ (-1000 ≤ b.2.1 ∧ b.2.1 ≤ 1000)) ∧ Below w5.heap.size w5 wr) (fun i _ => l.length - (intOf i).toNat)
  case atStart => exact ⟨0, Nat.zero_le _, rfl, (fun b hb => by simp at hb), by (repeat (first | exact bl_refl | assumption | (apply bl_then; assumption) | refine bl_alloc ?_ _ | refine bl_drew ?_ | refine bl_drewN ?_ _))⟩
  case round =>
    obtain ⟨k, hk, rfl, H, hbr⟩ := hrel
    obtain ⟨wo, rfl⟩ : ∃ x, x = wr := ⟨_, rfl⟩
    have hbwo := bl_then hbr hbw5
    have hKo := hK_w5.below hbr
    by_cases hlt : k < l.length
    · have hr := hr0.below hbwo
      obtain ⟨b, off, rfl, hb, e0, e1, e2⟩ := hr.bar hlt
      obtain ⟨⟨bx, bY, bs⟩, hx⟩ : ∃ z, l[k] = z := ⟨_, rfl⟩
      have HT : Hid (l.take (k + 1) = l.take k ++ [(bx, bY, bs)]) := by unfold Hid; rw [List.take_succ_eq_append_getElem hlt, hx]
      rw [hx] at e0 e1 e2
      simp only at e0 e1 e2
      clear hx
      have k1 := fun W => rrange_any bx (-1000) 1000 W
      have k2 := fun W => rrange_any bY (-1000) 1000 W
      have y1 := range_cases bx (-1000) 1000
      have y2 := range_cases bY (-1000) 1000
      obtain ⟨p1, hp1⟩ : ∃ p, withinI bx (-1000) 1000 = p := ⟨_, rfl⟩
      obtain ⟨p2, hp2⟩ : ∃ p, withinI bY (-1000) 1000 = p := ⟨_, rfl⟩
      have HP := Lib.hid (And.intro hp1 hp2)
      rw [hp1] at k1 y1
      rw [hp2] at k2 y2
      clear hp1 hp2
      have b1 : 0 ≤ p1 ∧ p1 ≤ 3 := by omega
      have b2 : 0 ≤ p2 ∧ p2 ≤ 3 := by omega
      have hN0 := Blk.new wo 60 #[.int .i64 bx, .int .i64 bY, .int .i64 bs]
      go_upto_region 6 with fail
      obtain ⟨w6, hw6⟩ : ∃ X, wo.alloc (.cells #[.int .i64 bx, .int .i64 bY, .int .i64 bs] 60) = X := ⟨_, rfl⟩
      have hb6 : Below wo.heap.size wo w6 := by rw [← hw6]; exact bl_alloc bl_refl _
      rw [hw6] at hN0 ⊢
      have fhN0 := hN0.facts
      clear hw6 e0 e1 e2 hr
      by_cases hn : p1 = 0 ∧ p2 = 0
      · obtain ⟨rfl, rfl⟩ := hn
        clear y1 y2 b1 b2
        refine wp_region_ords [0, 1, 3, 4] [(2, false)] [5, 6, 7] (by kernel_rfl) (by kernel_rfl) (fun d _ _ _ _ h => by cases d <;> exact h) ?_
        simp only [List.map_cons, List.map_nil, List.getD_cons_zero, List.getD_cons_succ]
        repeat (go_big_quiet_step (fail))
        refine wpQuiet_nil ?_
        refine wpMid_run rfl (fun K hK => ?_)
        go_simp
        refine (k1 _).mono ?_
        rintro e w7 ⟨rfl, hb7⟩
        refine hK _ _ (by (repeat (first | exact bl_refl | assumption | (apply bl_then; assumption) | refine bl_alloc ?_ _ | refine bl_drew ?_ | refine bl_drewN ?_ _))) ?_
        clear hK K
        have hN0_w7 := hN0.below (show Below _ _ w7 by (repeat (first | exact bl_refl | assumption | (apply bl_then; assumption) | refine bl_alloc ?_ _ | refine bl_drew ?_ | refine bl_drewN ?_ _)))
        have fhN0_w7 := hN0_w7.facts
        refine wpMid_nil ?_
        go_wp2_with fail
        refine (k2 _).mono ?_
        rintro e w8 ⟨rfl, hb8⟩
        go_wp2
        go_roundw
        case rel => exact ⟨k + 1, by omega, by go_num, (by intro z hz; rw [HT.out, List.mem_append] at hz; rcases hz with hz | hz; exact H.out z hz; obtain rfl := List.mem_singleton.1 hz; exact ⟨range_zero HP.out.1, range_zero HP.out.2⟩), bl_then (show Below wo.heap.size wo w8 by (repeat (first | exact bl_refl | assumption | (apply bl_then; assumption) | refine bl_alloc ?_ _ | refine bl_drew ?_ | refine bl_drewN ?_ _))) hbr⟩
        case measure => simp [intOf]; omega
      · have t4 : (p1 + p2 != 0) = true := by rw [bne_iff_ne]; omega
        clear hn y1 y2
        refine wp_region_ords [0, 1, 3, 4] [(2, false)] [5, 6, 7] (by kernel_rfl) (by kernel_rfl) (fun d _ _ _ _ h => by cases d <;> exact h) ?_
        simp only [List.map_cons, List.map_nil, List.getD_cons_zero, List.getD_cons_succ]
        repeat (go_big_quiet_step (fail))
        refine wpQuiet_nil ?_
        refine wpMid_run rfl (fun K hK => ?_)
        go_simp
        refine (k1 _).mono ?_
        rintro e w7 ⟨rfl, hb7⟩
        refine hK _ _ (by (repeat (first | exact bl_refl | assumption | (apply bl_then; assumption) | refine bl_alloc ?_ _ | refine bl_drew ?_ | refine bl_drewN ?_ _))) ?_
        clear hK K
        have hN0_w7 := hN0.below (show Below _ _ w7 by (repeat (first | exact bl_refl | assumption | (apply bl_then; assumption) | refine bl_alloc ?_ _ | refine bl_drew ?_ | refine bl_drewN ?_ _)))
        have fhN0_w7 := hN0_w7.facts
        refine wpMid_nil ?_
        go_wp2_with fail
        refine (k2 _).mono ?_
        rintro e w8 ⟨rfl, hb8⟩
        go_wp2
        go_ret
        exact ⟨rfl, by (repeat (first | exact bl_refl | assumption | (apply bl_then; assumption) | refine bl_alloc ?_ _ | refine bl_drew ?_ | refine bl_drewN ?_ _))⟩
    · obtain rfl : k = l.length := by omega
      have hN : NearL 1000 l := near_of HE.out (by have := H.out; rwa [List.take_length] at this)
      have T := turns_of (q := q) HE.out hN l20 rx ry HK0.out
      have hE := HE.out
      obtain ⟨kn, bn, mn, pn, hn, hNm⟩ := nums_of hE
      obtain ⟨a, b, c, d, hG⟩ := legs_of hE
      have cX : ∀ X, Like l X → ∀ W z, SlB W z X → Calls Tryz.prog 24 #[z] W (RLE W #[.int .i64 kn, .int .i64 bn, .int .i64 mn, .int .i64 pn, .int .i64 hn] 0) := fun X hX W z p => by
        have := aCount X W p hX.net
        rwa [hX.cnt, hNm.cnt] at this
      have lX : ∀ X, Like l X → ∀ W z, SlB W z X → Calls Tryz.prog 32 #[z] W (RLE W #[.int .i64 0, .int .i64 a, .int .i64 b, .int .i64 c, .int .i64 d] 0) := fun X hX W z p => by
        have := aLegs X W p hX.net
        rwa [hX.legs, hG.legs] at this
      obtain ⟨F, hF⟩ : ∃ F, canL l = F := ⟨_, rfl⟩
      have fX : ∀ X, Like l X → ∀ W z, SlB W z X → Calls Tryz.prog 29 #[z] W (RBE W F 0) := fun X hX W z p => by
        have := aCanon X W p hX.canE
        rwa [hX.can, hF] at this
      have hself : Like l l := ⟨hE, rfl, rfl, rfl, T.can, rfl⟩
      have hkn : knotE (-x) (-y) = 0 := by
        obtain ⟨_, _, _, _, zz⟩ := knotE_zero HK0.out
        exact knotE_yes (by omega) (by omega) (by omega)
      have mS := fun W z (p : SlB W z l) => aShift l x y W p hE HK0.out T.inn
      have mM := fun W z (p : SlB W z l) => aMirror l W p hE
      have mT := fun W z (p : SlB W z l) => aTurn l q W p hE
      have bS := fun W z (p : SlB W z (l.map (shB (x, y)))) => aShift _ (-x) (-y) W p T.s.net hkn (by rw [T.sBack]; exact T.innB)
      have bM := fun W z (p : SlB W z (mirN l)) => aMirror _ W p T.m.net
      have bT := fun W z (p : SlB W z (turnN (qN q) l)) => aTurn _ (-q) W p T.t.net
      have o1 := fun W z (p : SlB W z (mirN l)) => aTurn _ 1 W p T.m.net
      have o2 := fun W z (p : SlB W z (turnN 1 (mirN l))) => aMirror _ W p T.once
      have o3 := fun W z (p : SlB W z (mirN (turnN 1 (mirN l)))) => aTurn _ 1 W p T.twice
      rw [show qN 1 = 1 from rfl] at o1 o3
      rw [T.sBack] at bS
      rw [T.mBack] at bM
      rw [T.tBack] at bT
      rw [T.back] at o3
      have LS := Lib.hid T.s
      have LM := Lib.hid T.m
      have LT := Lib.hid T.t
      have LL := Lib.hid hself
      have n1 := T.s.len
      have n2 := T.m.len
      have n3 := T.t.len
      have n4 := T.len1
      have n5 := T.len2
      obtain ⟨O2, hO2⟩ : ∃ X, mirN (turnN 1 (mirN l)) = X := ⟨_, rfl⟩
      obtain ⟨O1, hO1⟩ : ∃ X, turnN 1 (mirN l) = X := ⟨_, rfl⟩
      obtain ⟨S, hS⟩ : ∃ X, l.map (shB (x, y)) = X := ⟨_, rfl⟩
      obtain ⟨M, hM⟩ : ∃ X, mirN l = X := ⟨_, rfl⟩
      obtain ⟨U, hU⟩ : ∃ X, turnN (qN q) l = X := ⟨_, rfl⟩
      rw [hO2] at n5 o2 o3
      rw [hO1] at n4 o1 o2
      rw [hS] at n1 mS bS LS
      rw [hM] at n2 mM bM o1 LM
      rw [hU] at n3 mT bT LT
      have lS : S.length ≤ 100000 := by omega
      have lM : M.length ≤ 100000 := by omega
      have lU : U.length ≤ 100000 := by omega
      have lO1 : O1.length ≤ 100000 := by omega
      have lO2 : O2.length ≤ 100000 := by omega
      clear hN T hE hNm hG hF hself hkn hO2 hO1 hS hM hU n1 n2 n3 n4 n5 H HE HK0 hlt hk hr0 hlc0 hcm0 hK
      go_wp2_with fail
      refine (copied_any l _ (hA.below (by (repeat (first | exact bl_refl | assumption | (apply bl_then; assumption) | refine bl_alloc ?_ _ | refine bl_drew ?_ | refine bl_drewN ?_ _)))) la).mono ?_
      rintro e w9 ⟨v9, rfl, hC9, hb9⟩
      go_wp2_with fail
      refine (cX _ LL.out _ _ (hC9.rd bc_len)).mono ?_
      rintro e w10 ⟨rfl, hb10⟩
      have hK10 := hKo.below (show Below wo.heap.size wo w10 by (repeat (first | exact bl_refl | assumption | (apply bl_then; assumption) | refine bl_alloc ?_ _ | refine bl_drew ?_ | refine bl_drewN ?_ _)))
      have hbw10 : Below w.heap.size w w10 := by (repeat (first | exact bl_refl | assumption | (apply bl_then; assumption) | refine bl_alloc ?_ _ | refine bl_drew ?_ | refine bl_drewN ?_ _))
      clear hb9 hb10 hC9 hKo hbwo
      go_wp2_with (refine wpList_store_blk (Blk.new w10 39 zer5) rfl _ _ _ rfl rfl rfl (by rfl) (by kernel_rfl) (by kernel_rfl) ?_; intro w11 hCt hc11)
      have hb11 : Below w10.heap.size w10 w11 := ((Chg.of_below (bl_alloc bl_refl _)).trans hc11).below (by simp) (Nat.le_refl _)
      have hbw11 := bl_then hb11 hbw10
      have hK11 := hK10.below hb11
      clear hc11 hb11 hbw10 hK10
      go_wp2_with fail
      refine (copied_any l _ (hA.below (by (repeat (first | exact bl_refl | assumption | (apply bl_then; assumption) | refine bl_alloc ?_ _ | refine bl_drew ?_ | refine bl_drewN ?_ _)))) la).mono ?_
      rintro e w12 ⟨v12, rfl, hC12, hb12⟩
      go_wp2_with fail
      refine (lX _ LL.out _ _ (hC12.rd bc_len)).mono ?_
      rintro e w13 ⟨rfl, hb13⟩
      have hb113 : Below w11.heap.size w11 w13 := by (repeat (first | exact bl_refl | assumption | (apply bl_then; assumption) | refine bl_alloc ?_ _ | refine bl_drew ?_ | refine bl_drewN ?_ _))
      have hbw13 := bl_then hb113 hbw11
      have hK13 := hK11.below hb113
      have hCt13 := hCt.below hb113
      clear hb12 hb13 hb113 hC12 hbw11 hK11 hCt
      go_wp2_with (refine wpList_store_blk (Blk.new w13 52 zer5) rfl _ _ _ rfl rfl rfl (by rfl) (by kernel_rfl) (by kernel_rfl) ?_; intro w14 hLg hc14)
      have hb14 : Below w13.heap.size w13 w14 := ((Chg.of_below (bl_alloc bl_refl _)).trans hc14).below (by simp) (Nat.le_refl _)
      have hbw14 := bl_then hb14 hbw13
      have hK14 := hK13.below hb14
      have hCt14 := hCt13.below hb14
      clear hc14 hb14 hbw13 hK13 hCt13
      go_wp2_with fail
      refine (copied_any l _ (hA.below (by (repeat (first | exact bl_refl | assumption | (apply bl_then; assumption) | refine bl_alloc ?_ _ | refine bl_drew ?_ | refine bl_drewN ?_ _)))) la).mono ?_
      rintro e w15 ⟨v15, rfl, hC15, hb15⟩
      go_wp2_with fail
      refine (fX _ LL.out _ _ (hC15.rd bc_len)).mono ?_
      rintro e w16 ⟨vF, rfl, hF16, hb16⟩
      have hb146 : Below w14.heap.size w14 w16 := by (repeat (first | exact bl_refl | assumption | (apply bl_then; assumption) | refine bl_alloc ?_ _ | refine bl_drew ?_ | refine bl_drewN ?_ _))
      have hbw16 := bl_then hb146 hbw14
      have hK16 := hK14.below hb146
      have hCt16 := hCt14.below hb146
      have hLg16 := hLg.below hb146
      replace hF16 := hF16.rd bc_len
      clear hb15 hb16 hb146 hC15 hbw14 hK14 hCt14 hLg
      have fhK := hK16.facts
      go_wp2
      refine wp_region_ords [0, 2] [(1, false), (3, false), (4, false), (5, true), (6, true), (7, false)] [8] (by kernel_rfl) (by kernel_rfl) (fun d _ _ _ _ h => by cases d <;> exact h) ?_
      simp only [List.map_cons, List.map_nil, List.getD_cons_zero, List.getD_cons_succ]
      repeat (go_big_quiet_step (fail))
      refine wpQuiet_nil ?_
      refine wpMid_run rfl (fun K hK => ?_)
      go_simp
      refine (copied_any l _ (hA.below (by (repeat (first | exact bl_refl | assumption | (apply bl_then; assumption) | refine bl_alloc ?_ _ | refine bl_drew ?_ | refine bl_drewN ?_ _)))) la).mono ?_
      rintro e w17 ⟨v17, rfl, hC17, hb17⟩
      refine hK _ _ (by (repeat (first | exact bl_refl | assumption | (apply bl_then; assumption) | refine bl_alloc ?_ _ | refine bl_drew ?_ | refine bl_drewN ?_ _))) ?_
      clear hK K
      refine wpMid_run rfl (fun K hK => ?_)
      go_simp
      refine (mS _ _ (hC17.rd bc_len)).mono ?_
      rintro e w18 ⟨vS, rfl, hS18, hb18⟩
      refine hK _ _ (by (repeat (first | exact bl_refl | assumption | (apply bl_then; assumption) | refine bl_alloc ?_ _ | refine bl_drew ?_ | refine bl_drewN ?_ _))) ?_
      clear hK K
      refine wpMid_run rfl (fun K hK => ?_)
      go_simp
      refine hK _ _ (by (repeat (first | exact bl_refl | assumption | (apply bl_then; assumption) | refine bl_alloc ?_ _ | refine bl_drew ?_ | refine bl_drewN ?_ _))) ?_
      clear hK K
      refine wpMid_take rfl ?_
      intro K hK
      go_big_quiet_op
      go_big_quiet_on
      refine wpMid_take rfl ?_
      intro K hK
      go_big_quiet_op
      go_big_quiet_on
      refine wpMid_run rfl (fun K hK => ?_)
      go_simp
      refine hK _ _ (by (repeat (first | exact bl_refl | assumption | (apply bl_then; assumption) | refine bl_alloc ?_ _ | refine bl_drew ?_ | refine bl_drewN ?_ _))) ?_
      clear hK K
      refine wpMid_nil ?_
      go_wp2_with fail
      refine (copied_any l _ (hA.below (by (repeat (first | exact bl_refl | assumption | (apply bl_then; assumption) | refine bl_alloc ?_ _ | refine bl_drew ?_ | refine bl_drewN ?_ _)))) la).mono ?_
      rintro e w19 ⟨v19, rfl, hC19, hb19⟩
      go_wp2_with fail
      refine (mM _ _ (hC19.rd bc_len)).mono ?_
      rintro e w20 ⟨vM, rfl, hM20, hb20⟩
      go_wp2_with fail
      refine (copied_any l _ (hA.below (by (repeat (first | exact bl_refl | assumption | (apply bl_then; assumption) | refine bl_alloc ?_ _ | refine bl_drew ?_ | refine bl_drewN ?_ _)))) la).mono ?_
      rintro e w21 ⟨v21, rfl, hC21, hb21⟩
      go_wp2_with fail
      refine (mT _ _ (hC21.rd bc_len)).mono ?_
      rintro e w22 ⟨vU, rfl, hU22, hb22⟩
      obtain ⟨AS, cS, rfl⟩ := hS18.shape
      obtain ⟨AM, cM, rfl⟩ := hM20.shape
      obtain ⟨AU, cU, rfl⟩ := hU22.shape
      have hS22 := (hS18.rd bc_len).below (show Below w18.heap.size w18 w22 by (repeat (first | exact bl_refl | assumption | (apply bl_then; assumption) | refine bl_alloc ?_ _ | refine bl_drew ?_ | refine bl_drewN ?_ _)))
      have hM22 := (hM20.rd bc_len).below (show Below w20.heap.size w20 w22 by (repeat (first | exact bl_refl | assumption | (apply bl_then; assumption) | refine bl_alloc ?_ _ | refine bl_drew ?_ | refine bl_drewN ?_ _)))
      replace hU22 := hU22.rd bc_len
      have hb162 : Below w16.heap.size w16 w22 := by (repeat (first | exact bl_refl | assumption | (apply bl_then; assumption) | refine bl_alloc ?_ _ | refine bl_drew ?_ | refine bl_drewN ?_ _))
      have hbw22 := bl_then hb162 hbw16
      have hK22 := hK16.below hb162
      have hCt22 := hCt16.below hb162
      have hLg22 := hLg16.below hb162
      have hF22 := hF16.below hb162
      clear hb17 hb18 hb19 hb20 hb21 hb22 hC17 hC19 hC21 hS18 hM20 hb162 hbw16 hK16 hCt16 hLg16 hF16 fhK mS mM mT LL
      obtain ⟨nS, hnS⟩ : ∃ n, S.length = n := ⟨_, rfl⟩
      obtain ⟨nM, hnM⟩ : ∃ n, M.length = n := ⟨_, rfl⟩
      obtain ⟨nU, hnU⟩ : ∃ n, U.length = n := ⟨_, rfl⟩
      have HNS := Lib.hid hnS
      have HNM := Lib.hid hnM
      have HNU := Lib.hid hnU
      rw [hnS] at hS22
      rw [hnM] at hM22
      rw [hnU] at hU22
      rw [hnS, hnM, hnU]
      clear hnS hnM hnU
      have hBv := Blk.new w22 26 #[.slice AS nS cS, .slice AM nM cM, .slice AU nU cU]
      go_wp2
      obtain ⟨w23, hw23⟩ : ∃ X, w22.alloc (.cells #[.slice AS nS cS, .slice AM nM cM, .slice AU nU cU] 26) = X := ⟨_, rfl⟩
      have hb23 : Below w22.heap.size w22 w23 := by rw [← hw23]; exact bl_alloc bl_refl _
      rw [hw23] at hBv ⊢
      have hS23 := hS22.below hb23
      have hM23 := hM22.below hb23
      have hU23 := hU22.below hb23
      have hbw23 := bl_then hb23 hbw22
      have hK23 := hK22.below hb23
      have hCt23 := hCt22.below hb23
      have hLg23 := hLg22.below hb23
      have hF23 := hF22.below hb23
      have hg23 : w22.heap.size < w23.heap.size := by rw [← hw23]; simp
      obtain ⟨g, hg⟩ : ∃ g, w22.heap.size = g := ⟨_, rfl⟩
      rw [hg] at hBv hg23 ⊢
      clear hw23 hb23 hS22 hM22 hU22 hbw22 hK22 hCt22 hLg22 hF22 hg
      go_loopw [138] (fun i wr => ∃ k : Nat, k ≤ 3 ∧ i = .int .i64 k ∧ Below w23.heap.size w23 wr) (fun i _ => 3 - (intOf i).toNat)
      case atStart => exact ⟨0, Nat.zero_le _, rfl, by (repeat (first | exact bl_refl | assumption | (apply bl_then; assumption) | refine bl_alloc ?_ _ | refine bl_drew ?_ | refine bl_drewN ?_ _))⟩
      case round =>
        obtain ⟨k, hk, rfl, hbr⟩ := hrel
        obtain ⟨wk, rfl⟩ : ∃ x, x = wr := ⟨_, rfl⟩
        have hS := hS23.below hbr
        have hM := hM23.below hbr
        have hU := hU23.below hbr
        have hbwk := bl_then hbr hbw23
        have hCt := hCt23.below hbr
        have hLg := hLg23.below hbr
        have hF := hF23.below hbr
        have hKk := hK23.below hbr
        have fBv := (hBv.below hbr).facts
        by_cases hk3 : k < 3
        · obtain ⟨X, A, n, cc, HX, HN, hX, lX', z0⟩ : ∃ X A n cc, Hid (Like l X) ∧ Hid (X.length = n) ∧ SlB wk (.slice A n cc) X ∧ X.length ≤ 100000 ∧ wk.cell? ⟨g, k, none⟩ = some (.slice A n cc) := by
            obtain rfl | rfl | rfl : k = 0 ∨ k = 1 ∨ k = 2 := by omega
            · exact ⟨S, AS, nS, cS, LS, HNS, hS, lS, by simp [fBv]⟩
            · exact ⟨M, AM, nM, cM, LM, HNM, hM, lM, by simp [fBv]⟩
            · exact ⟨U, AU, nU, cU, LT, HNU, hU, lU, by simp [fBv]⟩
          have hgk : g < wk.heap.size := Nat.lt_of_lt_of_le hg23 hbr.size
          clear fBv hS hM hU hKk
          go_wp2_with fail
          refine (copied_any X _ (hX.below (by (repeat (first | exact bl_refl | assumption | (apply bl_then; assumption) | refine bl_alloc ?_ _ | refine bl_drew ?_ | refine bl_drewN ?_ _)))) lX').mono ?_
          rintro e w24 ⟨v24, rfl, hC24, hb24⟩
          go_wp2_with fail
          refine (cX X HX.out _ _ (hC24.rd bc_len)).mono ?_
          rintro e w25 ⟨rfl, hb25⟩
          have hb2 : Below wk.heap.size wk w25 := by (repeat (first | exact bl_refl | assumption | (apply bl_then; assumption) | refine bl_alloc ?_ _ | refine bl_drew ?_ | refine bl_drewN ?_ _))
          have hX25 := hX.below hb2
          have hCt25 := hCt.below hb2
          have hLg25 := hLg.below hb2
          have hF25 := hF.below hb2
          clear hb24 hb25 hC24 hX hCt hLg hF
          go_wp2_with (refine wpList_store_blk (Blk.new w25 39 zer5) rfl _ _ _ rfl rfl rfl (by rfl) (by kernel_rfl) (by kernel_rfl) ?_; intro w26 hD hc26)
          have hb26 : Below w25.heap.size w25 w26 := ((Chg.of_below (bl_alloc bl_refl _)).trans hc26).below (by simp) (Nat.le_refl _)
          have hb3 := bl_then hb26 hb2
          have hX26 := hX25.below hb26
          have hCt26 := hCt25.below hb26
          have hLg26 := hLg25.below hb26
          have hF26 := hF25.below hb26
          clear hc26 hb26 hb2 hX25 hCt25 hLg25 hF25
          go_wp2_with fail
          refine (copied_any X _ (hX26.below (by (repeat (first | exact bl_refl | assumption | (apply bl_then; assumption) | refine bl_alloc ?_ _ | refine bl_drew ?_ | refine bl_drewN ?_ _)))) lX').mono ?_
          rintro e w27 ⟨v27, rfl, hC27, hb27⟩
          go_wp2_with fail
          refine (lX X HX.out _ _ (hC27.rd bc_len)).mono ?_
          rintro e w28 ⟨rfl, hb28⟩
          have hb4 : Below w26.heap.size w26 w28 := by (repeat (first | exact bl_refl | assumption | (apply bl_then; assumption) | refine bl_alloc ?_ _ | refine bl_drew ?_ | refine bl_drewN ?_ _))
          have hb5 := bl_then hb4 hb3
          have hX28 := hX26.below hb4
          have hCt28 := hCt26.below hb4
          have hLg28 := hLg26.below hb4
          have hF28 := hF26.below hb4
          have hD28 := hD.below hb4
          clear hb27 hb28 hC27 hX26 hCt26 hLg26 hF26 hD hb4 hb3
          go_wp2_with (refine wpList_store_blk (Blk.new w28 52 zer5) rfl _ _ _ rfl rfl rfl (by rfl) (by kernel_rfl) (by kernel_rfl) ?_; intro w29 hG hc29)
          have hb29 : Below w28.heap.size w28 w29 := ((Chg.of_below (bl_alloc bl_refl _)).trans hc29).below (by simp) (Nat.le_refl _)
          have hb6 := bl_then hb29 hb5
          have hX29 := hX28.below hb29
          have hCt29 := hCt28.below hb29
          have hLg29 := hLg28.below hb29
          have hF29 := hF28.below hb29
          have hD29 := hD28.below hb29
          clear hc29 hb29 hb5 hX28 hCt28 hLg28 hF28 hD28
          go_wp2_with fail
          refine (copied_any X _ (hX29.below (by (repeat (first | exact bl_refl | assumption | (apply bl_then; assumption) | refine bl_alloc ?_ _ | refine bl_drew ?_ | refine bl_drewN ?_ _)))) lX').mono ?_
          rintro e w30 ⟨v30, rfl, hC30, hb30⟩
          go_wp2_with fail
          refine (fX X HX.out _ _ (hC30.rd bc_len)).mono ?_
          rintro e w31 ⟨v31, rfl, hF31, hb31⟩
          have hb7 : Below w29.heap.size w29 w31 := by (repeat (first | exact bl_refl | assumption | (apply bl_then; assumption) | refine bl_alloc ?_ _ | refine bl_drew ?_ | refine bl_drewN ?_ _))
          have hb8 := bl_then hb7 hb6
          have f1 := (hCt29.below hb7).facts
          have f2 := (hLg29.below hb7).facts
          have f3 := (hD29.below hb7).facts
          have f4 := (hG.below hb7).facts
          have hF9 := hF29.below hb7
          clear hb30 hb31 hC30 hX29 hCt29 hLg29 hF29 hD29 hG hb7 hb6
          go_wp2_with fail
          refine (aSame F F _ (hF31.rd bc_len) hF9 rfl).mono ?_
          rintro e w32 ⟨rfl, hb32⟩
          go_wp2
          go_roundw
          case rel => exact ⟨k + 1, by omega, by go_num, bl_then (show Below wk.heap.size wk w32 by (repeat (first | exact bl_refl | assumption | (apply bl_then; assumption) | refine bl_alloc ?_ _ | refine bl_drew ?_ | refine bl_drewN ?_ _))) hbr⟩
          case measure => simp [intOf]; omega
        · have hk3' : k = 3 := by omega
          subst hk3'
          clear fBv hk hk3 hCt hLg hF hBv hCt23 hLg23 hF23 hS23 hM23 hU23 hK23 hbw23 hbr cX lX fX LS LM LT
          have fhK := hKk.facts
          rw [← HNS.out] at hS
          rw [← HNM.out] at hM
          rw [← HNU.out] at hU
          rw [← HNS.out, ← HNM.out, ← HNU.out]
          clear HNS HNM HNU
          go_wp2
          refine wp_region_ords [0, 2, 3, 4, 5, 6, 7, 8] [(1, false), (9, false), (10, false), (11, true), (12, true), (13, false)] [14] (by kernel_rfl) (by kernel_rfl) (fun d _ _ _ _ h => by cases d <;> exact h) ?_
          simp only [List.map_cons, List.map_nil, List.getD_cons_zero, List.getD_cons_succ]
          repeat (go_big_quiet_step (fail))
          refine wpQuiet_nil ?_
          refine wpMid_run rfl (fun K hK => ?_)
          go_simp
          refine (copied_any S _ (hS.below (by (repeat (first | exact bl_refl | assumption | (apply bl_then; assumption) | refine bl_alloc ?_ _ | refine bl_drew ?_ | refine bl_drewN ?_ _)))) lS).mono ?_
          rintro e w33 ⟨v33, rfl, hC33, hb33⟩
          refine hK _ _ (by (repeat (first | exact bl_refl | assumption | (apply bl_then; assumption) | refine bl_alloc ?_ _ | refine bl_drew ?_ | refine bl_drewN ?_ _))) ?_
          clear hK K
          refine wpMid_run rfl (fun K hK => ?_)
          go_simp
          refine (bS _ _ (hC33.rd bc_len)).mono ?_
          rintro e w34 ⟨va, rfl, hR34, hb34⟩
          refine hK _ _ (by (repeat (first | exact bl_refl | assumption | (apply bl_then; assumption) | refine bl_alloc ?_ _ | refine bl_drew ?_ | refine bl_drewN ?_ _))) ?_
          clear hK K
          refine wpMid_run rfl (fun K hK => ?_)
          go_simp
          refine hK _ _ (by (repeat (first | exact bl_refl | assumption | (apply bl_then; assumption) | refine bl_alloc ?_ _ | refine bl_drew ?_ | refine bl_drewN ?_ _))) ?_
          clear hK K
          refine wpMid_take rfl ?_
          intro K hK
          go_big_quiet_op
          go_big_quiet_on
          refine wpMid_take rfl ?_
          intro K hK
          go_big_quiet_op
          go_big_quiet_on
          refine wpMid_run rfl (fun K hK => ?_)
          go_simp
          refine hK _ _ (by (repeat (first | exact bl_refl | assumption | (apply bl_then; assumption) | refine bl_alloc ?_ _ | refine bl_drew ?_ | refine bl_drewN ?_ _))) ?_
          clear hK K
          refine wpMid_nil ?_
          go_wp2_with fail
          refine (copied_any M _ (hM.below (by (repeat (first | exact bl_refl | assumption | (apply bl_then; assumption) | refine bl_alloc ?_ _ | refine bl_drew ?_ | refine bl_drewN ?_ _)))) lM).mono ?_
          rintro e w35 ⟨v35, rfl, hC35, hb35⟩
          go_wp2_with fail
          refine (bM _ _ (hC35.rd bc_len)).mono ?_
          rintro e w36 ⟨vb, rfl, hR36, hb36⟩
          go_wp2_with fail
          refine (copied_any U _ (hU.below (by (repeat (first | exact bl_refl | assumption | (apply bl_then; assumption) | refine bl_alloc ?_ _ | refine bl_drew ?_ | refine bl_drewN ?_ _)))) lU).mono ?_
          rintro e w37 ⟨v37, rfl, hC37, hb37⟩
          go_wp2_with fail
          refine (bT _ _ (hC37.rd bc_len)).mono ?_
          rintro e w38 ⟨vd, rfl, hR38, hb38⟩
          go_wp2_with fail
          refine (copied_any M _ (hM.below (by (repeat (first | exact bl_refl | assumption | (apply bl_then; assumption) | refine bl_alloc ?_ _ | refine bl_drew ?_ | refine bl_drewN ?_ _)))) lM).mono ?_
          rintro e w39 ⟨v39, rfl, hC39, hb39⟩
          go_wp2_with fail
          refine (o1 _ _ (hC39.rd bc_len)).mono ?_
          rintro e w40 ⟨vo, rfl, hR40, hb40⟩
          go_wp2_with fail
          refine (copied_any O1 _ ((hR40.rd bc_len).below (by (repeat (first | exact bl_refl | assumption | (apply bl_then; assumption) | refine bl_alloc ?_ _ | refine bl_drew ?_ | refine bl_drewN ?_ _)))) lO1).mono ?_
          rintro e w41 ⟨v41, rfl, hC41, hb41⟩
          go_wp2_with fail
          refine (o2 _ _ (hC41.rd bc_len)).mono ?_
          rintro e w42 ⟨vt, rfl, hR42, hb42⟩
          go_wp2_with fail
          refine (copied_any O2 _ ((hR42.rd bc_len).below (by (repeat (first | exact bl_refl | assumption | (apply bl_then; assumption) | refine bl_alloc ?_ _ | refine bl_drew ?_ | refine bl_drewN ?_ _)))) lO2).mono ?_
          rintro e w43 ⟨v43, rfl, hC43, hb43⟩
          go_wp2_with fail
          refine (o3 _ _ (hC43.rd bc_len)).mono ?_
          rintro e w44 ⟨vk, rfl, hR44, hb44⟩
          go_wp2_with fail
          refine (aSame l l _ ((hR34.rd bc_len).below (by (repeat (first | exact bl_refl | assumption | (apply bl_then; assumption) | refine bl_alloc ?_ _ | refine bl_drew ?_ | refine bl_drewN ?_ _)))) (hA.below (by (repeat (first | exact bl_refl | assumption | (apply bl_then; assumption) | refine bl_alloc ?_ _ | refine bl_drew ?_ | refine bl_drewN ?_ _)))) rfl).mono ?_
          rintro e w45 ⟨rfl, hb45⟩
          go_wp2_with fail
          refine (aSame l l _ ((hR36.rd bc_len).below (by (repeat (first | exact bl_refl | assumption | (apply bl_then; assumption) | refine bl_alloc ?_ _ | refine bl_drew ?_ | refine bl_drewN ?_ _)))) (hA.below (by (repeat (first | exact bl_refl | assumption | (apply bl_then; assumption) | refine bl_alloc ?_ _ | refine bl_drew ?_ | refine bl_drewN ?_ _)))) rfl).mono ?_
          rintro e w46 ⟨rfl, hb46⟩
          go_wp2_with fail
          refine (aSame l l _ ((hR38.rd bc_len).below (by (repeat (first | exact bl_refl | assumption | (apply bl_then; assumption) | refine bl_alloc ?_ _ | refine bl_drew ?_ | refine bl_drewN ?_ _)))) (hA.below (by (repeat (first | exact bl_refl | assumption | (apply bl_then; assumption) | refine bl_alloc ?_ _ | refine bl_drew ?_ | refine bl_drewN ?_ _)))) rfl).mono ?_
          rintro e w47 ⟨rfl, hb47⟩
          go_wp2_with fail
          refine (aSame l l _ ((hR44.rd bc_len).below (by (repeat (first | exact bl_refl | assumption | (apply bl_then; assumption) | refine bl_alloc ?_ _ | refine bl_drew ?_ | refine bl_drewN ?_ _)))) (hA.below (by (repeat (first | exact bl_refl | assumption | (apply bl_then; assumption) | refine bl_alloc ?_ _ | refine bl_drew ?_ | refine bl_drewN ?_ _)))) rfl).mono ?_
          rintro e w48 ⟨rfl, hb48⟩
          go_wp2
          go_ret
          exact ⟨rfl, by (repeat (first | exact bl_refl | assumption | (apply bl_then; assumption) | refine bl_alloc ?_ _ | refine bl_drew ?_ | refine bl_drewN ?_ _))⟩
end Go.Proofs.YtkmjcoofkgpanaaGreatDoor

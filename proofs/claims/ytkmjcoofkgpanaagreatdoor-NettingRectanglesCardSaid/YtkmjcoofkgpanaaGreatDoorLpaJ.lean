/- NettingParts: the law, walked. Conditions: the variables are laid. -/
import Derived.Test.YtkmjcoofkgpanaaGreatDoorB21
import Derived.Test.YtkmjcoofkgpanaaGreatDoorLknJ
import Derived.Test.YtkmjcoofkgpanaaGreatDoorNrcJ
import Derived.Test.YtkmjcoofkgpanaaGreatDoorB13
namespace Go.Proofs.YtkmjcoofkgpanaaGreatDoor
open Go.RowKit Go.ChangeMaps
set_option maxHeartbeats 4000000
set_option maxRecDepth 100000

attribute [local go_sem] Oper.semAt_some
@[go_sem] theorem eqCN (a b c d e : Int) (w : World) : (Op.equalIn 10000 39 (.agg #[.int .i64 a, .int .i64 b, .int .i64 c, .int .i64 d, .int .i64 e]) (.agg #[.int .i64 a, .int .i64 b, .int .i64 c, .int .i64 d, .int .i64 e])).run Tryz.prog w = .ok true w := by
  rw [run_equalIn_struct w 9999 39 _ _ (by kernel_rfl) (by kernel_rfl)]
  simp [go_sem]
@[go_sem] theorem eqCR (a b c d e : Int) (w : World) : (Op.equalIn 10000 45 (.agg #[.int .i64 a, .int .i64 b, .int .i64 c, .int .i64 d, .int .i64 e]) (.agg #[.int .i64 a, .int .i64 b, .int .i64 c, .int .i64 d, .int .i64 e])).run Tryz.prog w = .ok true w := by
  rw [run_equalIn_struct w 9999 45 _ _ (by kernel_rfl) (by kernel_rfl)]
  simp [go_sem]
theorem aSameN {v u : Value} {base base' : Nat} (a b : List (List Bar)) (w : World) (h : OwRR base w v a) (h' : OwRR base' w u b) (hl : a.length ≤ 100000) (e : a = b) : Calls Tryz.prog 26 #[v, u] w (RV w (.bool true)) := by
  have := sameNets_any a b w h h' hl (by rw [← e]; exact hl)
  rwa [decide_eq_true e] at this
theorem nettingParts_any (l : List Bar) (w : World) {v : Value} (h : SlB w v l) (hL : Lay w) : Calls Tryz.prog 4 #[v] w (RV w (.bool true)) := by
  have ca := fun W (hb : Below w.heap.size w W) => awake_any W (hL.below hb)
  have s1 := fun W (hb : Below w.heap.size w W) => shortNet_any l 40 W (h.below hb)
  by_cases hs1 : shortB l 40 = true
  rotate_left
  · rw [show shortB l 40 = false by simpa using hs1] at s1
    go_enter Tryz.func4, Tryz.ntmps4
    go_wp2_with fail
    refine (ca _ (by (repeat (first | exact bl_refl | assumption | (apply bl_then; assumption) | refine bl_alloc ?_ _ | refine bl_drew ?_ | refine bl_drewN ?_ _)))).mono ?_
    rintro e w1 ⟨rfl, hb1⟩
    go_wp2_with fail
    refine (s1 _ (by (repeat (first | exact bl_refl | assumption | (apply bl_then; assumption) | refine bl_alloc ?_ _ | refine bl_drew ?_ | refine bl_drewN ?_ _)))).mono ?_
    rintro e w2 ⟨rfl, hb2⟩
    go_wp2_with fail
    refine (ca _ (by (repeat (first | exact bl_refl | assumption | (apply bl_then; assumption) | refine bl_alloc ?_ _ | refine bl_drew ?_ | refine bl_drewN ?_ _)))).mono ?_
    rintro e w3 ⟨rfl, hb3⟩
    go_wp2
    go_ret
    exact ⟨rfl, by (repeat (first | exact bl_refl | assumption | (apply bl_then; assumption) | refine bl_alloc ?_ _ | refine bl_drew ?_ | refine bl_drewN ?_ _))⟩
  rw [hs1] at s1
  have hl1 := short_len hs1
  have la : l.length ≤ 100000 := by omega
  have r1 := fun W (hb : Below w.heap.size w W) => rnet_sl l W (h.below hb)
  have m1 := fun W z (p : SlB W z l) => apiParts_any l W p
  have m2 := fun W z (p : SlB W z l) => apiCount_any l W p
  by_cases hE : netE l = 0
  rotate_left
  · have t1 : (netE l != 0) = true := by simp [hE]
    rw [only_err _ hE] at m1
    rw [show cntA l = zer5 by unfold cntA; rw [if_neg hE]] at m2
    obtain ⟨E, hEE⟩ : ∃ E, netE l = E := ⟨_, rfl⟩
    rw [hEE] at t1 m1 m2 r1
    clear hE hEE hs1 hl1
    go_enter Tryz.func4, Tryz.ntmps4
    go_wp2_with fail
    refine (ca _ (by (repeat (first | exact bl_refl | assumption | (apply bl_then; assumption) | refine bl_alloc ?_ _ | refine bl_drew ?_ | refine bl_drewN ?_ _)))).mono ?_
    rintro e w1 ⟨rfl, hb1⟩
    go_wp2_with fail
    refine (s1 _ (by (repeat (first | exact bl_refl | assumption | (apply bl_then; assumption) | refine bl_alloc ?_ _ | refine bl_drew ?_ | refine bl_drewN ?_ _)))).mono ?_
    rintro e w2 ⟨rfl, hb2⟩
    go_wp2_with fail
    refine (copied_any l _ (h.below (by (repeat (first | exact bl_refl | assumption | (apply bl_then; assumption) | refine bl_alloc ?_ _ | refine bl_drew ?_ | refine bl_drewN ?_ _)))) la).mono ?_
    rintro e w3 ⟨v3, rfl, hC3, hb3⟩
    go_wp2_with fail
    refine (m1 _ _ (hC3.rd bc_len)).mono ?_
    rintro e w4 ⟨v4, rfl, hP4, hb4⟩
    obtain ⟨A4, c4, rfl⟩ := hP4.shape
    go_wp2_with fail
    refine (copied_any l _ (h.below (by (repeat (first | exact bl_refl | assumption | (apply bl_then; assumption) | refine bl_alloc ?_ _ | refine bl_drew ?_ | refine bl_drewN ?_ _)))) la).mono ?_
    rintro e w5 ⟨v5, rfl, hC5, hb5⟩
    go_wp2_with fail
    refine (m2 _ _ (hC5.rd bc_len)).mono ?_
    rintro e w6 ⟨rfl, hb6⟩
    have hbw6 : Below w.heap.size w w6 := by (repeat (first | exact bl_refl | assumption | (apply bl_then; assumption) | refine bl_alloc ?_ _ | refine bl_drew ?_ | refine bl_drewN ?_ _))
    go_wp2_with (refine wpList_store_blk (Blk.new w6 39 zer5) rfl _ _ _ rfl rfl rfl (by rfl) (by kernel_rfl) (by kernel_rfl) ?_; intro w7 hBx hc7)
    have hbw7 : Below w.heap.size w w7 := bl_then (((Chg.of_below (bl_alloc bl_refl _)).trans hc7).below (by simp) (Nat.le_refl _)) hbw6
    clear hb1 hb2 hb3 hb4 hb5 hb6 hC3 hC5 hP4 hc7 hbw6
    go_wp2_with fail
    refine (r1 _ (by (repeat (first | exact bl_refl | assumption | (apply bl_then; assumption) | refine bl_alloc ?_ _ | refine bl_drew ?_ | refine bl_drewN ?_ _)))).mono ?_
    rintro e w12 ⟨rfl, hb12⟩
    have fB := (hBx.below (show Below _ _ w12 by (repeat (first | exact bl_refl | assumption | (apply bl_then; assumption) | refine bl_alloc ?_ _ | refine bl_drew ?_ | refine bl_drewN ?_ _)))).facts
    unfold zer5 at fB
    go_wp2
    go_ret
    exact ⟨rfl, by (repeat (first | exact bl_refl | assumption | (apply bl_then; assumption) | refine bl_alloc ?_ _ | refine bl_drew ?_ | refine bl_drewN ?_ _))⟩
  have hok := netE_ok hE
  have hlen := short_le hs1 (by omega) hE
  have hpr := parts_ref hok.sorted (fun b hb => (hok.ok b hb).2.2)
  have hpl : (partsL l).length ≤ l.length := prtO_len l _
  have rc := fun W (hb : Below w.heap.size w W) => rcount_any l W (h.below hb) hE
  have rp := fun W (hb : Below w.heap.size w W) => rparts_any l W (h.below hb) hok
  rw [hE] at m1 m2 r1
  rw [only_ok] at m1
  obtain ⟨a0, a1, a2, a3, a4, hA⟩ : ∃ a0 a1 a2 a3 a4, cntA l = leg5 a0 a1 a2 a3 a4 := ⟨_, _, _, _, _, by unfold cntA; rw [if_pos hE]⟩
  rw [hA] at m2 rc
  have HP := Lib.hid hpr
  clear hE hs1 hl1 hA hok hpr
  go_enter Tryz.func4, Tryz.ntmps4
  go_wp2_with fail
  refine (ca _ (by (repeat (first | exact bl_refl | assumption | (apply bl_then; assumption) | refine bl_alloc ?_ _ | refine bl_drew ?_ | refine bl_drewN ?_ _)))).mono ?_
  rintro e w1 ⟨rfl, hb1⟩
  go_wp2_with fail
  refine (s1 _ (by (repeat (first | exact bl_refl | assumption | (apply bl_then; assumption) | refine bl_alloc ?_ _ | refine bl_drew ?_ | refine bl_drewN ?_ _)))).mono ?_
  rintro e w2 ⟨rfl, hb2⟩
  go_wp2_with fail
  refine (copied_any l _ (h.below (by (repeat (first | exact bl_refl | assumption | (apply bl_then; assumption) | refine bl_alloc ?_ _ | refine bl_drew ?_ | refine bl_drewN ?_ _)))) la).mono ?_
  rintro e w3 ⟨v3, rfl, hC3, hb3⟩
  go_wp2_with fail
  refine (m1 _ _ (hC3.rd bc_len)).mono ?_
  rintro e w4 ⟨v4, rfl, hP4, hb4⟩
  go_wp2_with fail
  refine (copied_any l _ (h.below (by (repeat (first | exact bl_refl | assumption | (apply bl_then; assumption) | refine bl_alloc ?_ _ | refine bl_drew ?_ | refine bl_drewN ?_ _)))) la).mono ?_
  rintro e w5 ⟨v5, rfl, hC5, hb5⟩
  go_wp2_with fail
  refine (m2 _ _ (hC5.rd bc_len)).mono ?_
  rintro e w6 ⟨rfl, hb6⟩
  have hP6 := hP4.below (show Below w4.heap.size w4 w6 by (repeat (first | exact bl_refl | assumption | (apply bl_then; assumption) | refine bl_alloc ?_ _ | refine bl_drew ?_ | refine bl_drewN ?_ _)))
  have hbw6 : Below w.heap.size w w6 := by (repeat (first | exact bl_refl | assumption | (apply bl_then; assumption) | refine bl_alloc ?_ _ | refine bl_drew ?_ | refine bl_drewN ?_ _))
  go_wp2_with (refine wpList_store_blk (Blk.new w6 39 zer5) rfl _ _ _ rfl rfl rfl (by rfl) (by kernel_rfl) (by kernel_rfl) ?_; intro w7 hBx hc7)
  have hb67 : Below w6.heap.size w6 w7 := ((Chg.of_below (bl_alloc bl_refl _)).trans hc7).below (by simp) (Nat.le_refl _)
  have hP7 := hP6.below hb67
  have hbw7 := bl_then hb67 hbw6
  clear hb1 hb2 hb3 hb4 hb5 hb6 hC3 hC5 hP4 hc7 hbw6 hb67 hP6
  go_wp2_with fail
  refine (r1 _ (by (repeat (first | exact bl_refl | assumption | (apply bl_then; assumption) | refine bl_alloc ?_ _ | refine bl_drew ?_ | refine bl_drewN ?_ _)))).mono ?_
  rintro e w12 ⟨rfl, hb12⟩
  have hBx12 := hBx.below hb12
  have fB := hBx12.facts
  go_wp2
  refine wp_region_ords [0, 1, 2, 3, 4, 5, 6] [(7, false), (8, false), (9, false), (10, false), (11, true), (12, false), (13, false)] [14, 15, 16] (by kernel_rfl) (by kernel_rfl) (fun d _ _ _ _ h => by cases d <;> exact h) ?_
  simp only [List.map_cons, List.map_nil, List.getD_cons_zero, List.getD_cons_succ]
  repeat (go_big_quiet_step (fail))
  refine wpQuiet_nil ?_
  refine wpMid_run rfl (fun K hK => ?_)
  go_simp
  refine (rp _ (by (repeat (first | exact bl_refl | assumption | (apply bl_then; assumption) | refine bl_alloc ?_ _ | refine bl_drew ?_ | refine bl_drewN ?_ _)))).mono ?_
  rintro e w15 ⟨v15, rfl, hR15, hb15⟩
  refine hK _ _ (by (repeat (first | exact bl_refl | assumption | (apply bl_then; assumption) | refine bl_alloc ?_ _ | refine bl_drew ?_ | refine bl_drewN ?_ _))) ?_
  clear hK K
  have hBx12_w15 := hBx12.below (show Below _ _ w15 by (repeat (first | exact bl_refl | assumption | (apply bl_then; assumption) | refine bl_alloc ?_ _ | refine bl_drew ?_ | refine bl_drewN ?_ _)))
  have fhBx12_w15 := hBx12_w15.facts
  refine wpMid_run rfl (fun K hK => ?_)
  go_simp
  refine (aSameN _ _ _ (hP7.below (by (repeat (first | exact bl_refl | assumption | (apply bl_then; assumption) | refine bl_alloc ?_ _ | refine bl_drew ?_ | refine bl_drewN ?_ _)))) hR15 (by omega) HP.out).mono ?_
  rintro e w16 ⟨rfl, hb16⟩
  refine hK _ _ (by (repeat (first | exact bl_refl | assumption | (apply bl_then; assumption) | refine bl_alloc ?_ _ | refine bl_drew ?_ | refine bl_drewN ?_ _))) ?_
  clear hK K
  have hBx12_w15_w16 := hBx12_w15.below (show Below _ _ w16 by (repeat (first | exact bl_refl | assumption | (apply bl_then; assumption) | refine bl_alloc ?_ _ | refine bl_drew ?_ | refine bl_drewN ?_ _)))
  have fhBx12_w15_w16 := hBx12_w15_w16.facts
  refine wpMid_run rfl (fun K hK => ?_)
  go_simp
  refine hK _ _ (by (repeat (first | exact bl_refl | assumption | (apply bl_then; assumption) | refine bl_alloc ?_ _ | refine bl_drew ?_ | refine bl_drewN ?_ _))) ?_
  clear hK K
  refine wpMid_run rfl (fun K hK => ?_)
  go_simp
  refine hK _ _ (by (repeat (first | exact bl_refl | assumption | (apply bl_then; assumption) | refine bl_alloc ?_ _ | refine bl_drew ?_ | refine bl_drewN ?_ _))) ?_
  clear hK K
  refine wpMid_take rfl ?_
  intro K hK
  go_big_quiet_op
  go_big_quiet_on
  refine wpMid_run rfl (fun K hK => ?_)
  go_simp
  refine hK _ _ (by (repeat (first | exact bl_refl | assumption | (apply bl_then; assumption) | refine bl_alloc ?_ _ | refine bl_drew ?_ | refine bl_drewN ?_ _))) ?_
  clear hK K
  refine wpMid_run rfl (fun K hK => ?_)
  go_simp
  refine (rc _ (by (repeat (first | exact bl_refl | assumption | (apply bl_then; assumption) | refine bl_alloc ?_ _ | refine bl_drew ?_ | refine bl_drewN ?_ _)))).mono ?_
  rintro e w17 ⟨rfl, hb17⟩
  refine hK _ _ (by (repeat (first | exact bl_refl | assumption | (apply bl_then; assumption) | refine bl_alloc ?_ _ | refine bl_drew ?_ | refine bl_drewN ?_ _))) ?_
  clear hK K
  refine wpMid_nil ?_
  go_wp2
  go_ret
  exact ⟨rfl, by (repeat (first | exact bl_refl | assumption | (apply bl_then; assumption) | refine bl_alloc ?_ _ | refine bl_drew ?_ | refine bl_drewN ?_ _))⟩
end Go.Proofs.YtkmjcoofkgpanaaGreatDoor

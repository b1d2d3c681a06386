/- NettingBars: the law, walked. Conditions: the variables are laid. -/
import Derived.Test.YtkmjcoofkgpanaaGreatDoorB21
import Derived.Test.YtkmjcoofkgpanaaGreatDoorNbaJ
import Derived.ChangeKeysEq
import Derived.Deep.CutRange
namespace Go.Proofs.YtkmjcoofkgpanaaGreatDoor
open Go.RowKit Go.ChangeMaps
set_option maxHeartbeats 4000000
set_option maxRecDepth 100000

attribute [local go_sem] Oper.semAt_some
@[go_sem] theorem eqE2 (a b c d : Int) (w : World) : (Op.equalIn 10000 97 (.agg #[.int .i64 a, .int .i64 b, .int .i64 c, .int .i64 d]) (.agg #[.int .i64 a, .int .i64 b, .int .i64 c, .int .i64 d])).run Tryz.prog w = .ok true w := by
  obtain ⟨i, hi⟩ : ∃ i, Tryz.prog.info? 23 = some i := Option.isSome_iff_exists.1 (by kernel_rfl)
  rw [run_equalIn_array w 9999 (t := 97) (e := 23) (n := 2) _ _ (by kernel_rfl) hi]
  have hc : Tryz.prog.cellsOf 23 = 2 := by kernel_rfl
  rw [hc]
  have h1 : ∀ (x y : Int) W, (Op.equalIn 9999 23 (.agg #[.int .i64 x, .int .i64 y]) (.agg #[.int .i64 x, .int .i64 y])).run Tryz.prog W = .ok true W := fun x y W => by
    rw [eqin_knot 9997]
    unfold beqK
    simp
  have p0 : ∀ W, (part 23 #[Value.int .i64 a, .int .i64 b, .int .i64 c, .int .i64 d] (0 * 2)).run Tryz.prog W = .ok (.agg #[.int .i64 a, .int .i64 b]) W := fun W => by kernel_rfl
  have p1 : ∀ W, (part 23 #[Value.int .i64 a, .int .i64 b, .int .i64 c, .int .i64 d] (1 * 2)).run Tryz.prog W = .ok (.agg #[.int .i64 c, .int .i64 d]) W := fun W => by kernel_rfl
  rw [show List.range 2 = [0, 1] from rfl]
  simp only [Op.eqItems, Sem.run_bind, p0, p1, h1, Result.andThen_ok, Bool.not_true, Bool.false_eq_true, if_false, Sem.run_pure]
theorem nettingBars_any (l : List Bar) (x y s p q : Int) (w : World) {v : Value} (h : SlB w v l) (hL : Lay w) : Calls Tryz.prog 12 #[v, .agg #[.int .i64 x, .int .i64 y, .int .i64 s], .agg #[.int .i64 p, .int .i64 q]] w (RV w (.bool true)) := by
  have ca := fun W (hb : Below w.heap.size w W) => awake_any W (hL.below hb)
  have s1 := fun W (hb : Below w.heap.size w W) => shortNet_any l 40 W (h.below hb)
  have hB := (Blk.new w 60 #[.int .i64 x, .int .i64 y, .int .i64 s]).alloc (.cells #[.int .i64 p, .int .i64 q] 23)
  have hK := Blk.new1 w (.cells #[.int .i64 x, .int .i64 y, .int .i64 s] 60) 23 #[.int .i64 p, .int .i64 q]
  by_cases hs1 : shortB l 40 = true
  rotate_left
  · rw [show shortB l 40 = false by simpa using hs1] at s1
    go_enter Tryz.func12, Tryz.ntmps12
    go_wp2_with fail
    refine (ca _ (by (repeat (first | exact bl_refl | assumption | (apply bl_then; assumption) | refine bl_alloc ?_ _ | refine bl_drew ?_ | refine bl_drewN ?_ _)))).mono ?_
    rintro e w1 ⟨rfl, hb1⟩
    go_wp2_with fail
    refine (s1 _ (by (repeat (first | exact bl_refl | assumption | (apply bl_then; assumption) | refine bl_alloc ?_ _ | refine bl_drew ?_ | refine bl_drewN ?_ _)))).mono ?_
    rintro e w2 ⟨rfl, hb2⟩
    go_wp2_with fail
    refine (ca _ (by (repeat (first | exact bl_refl | assumption | (apply bl_then; assumption) | refine bl_alloc ?_ _ | refine bl_drew ?_ | refine bl_drewN ?_ _)))).mono ?_
    rintro e w3 ⟨rfl, hb3⟩
    go_wp2
    go_ret
    exact ⟨rfl, by (repeat (first | exact bl_refl | assumption | (apply bl_then; assumption) | refine bl_alloc ?_ _ | refine bl_drew ?_ | refine bl_drewN ?_ _))⟩
  rw [hs1] at s1
  have hl1 := short_len hs1
  have la : l.length ≤ 100000 := by omega
  obtain ⟨E, hE⟩ : ∃ E, netE l = E := ⟨_, rfl⟩
  obtain ⟨one, hone⟩ : ∃ E, barE x y s = E := ⟨_, rfl⟩
  obtain ⟨two, htwo⟩ : ∃ E, knotE p q = E := ⟨_, rfl⟩
  have r1 := fun W (hb : Below w.heap.size w W) => rnet_sl l W (h.below hb)
  have r2 := fun W => rbar_any x y s W
  have r3 := fun W => rknot_any p q W
  have n1 := fun W z (u : SlB W z l) => nnet_sl l W u
  have n2 := fun W => nbar_any x y s W
  have n3 := fun W => nknot_any p q W
  have m1 := fun W => apiEnds_any x y s W
  have m2 := fun W => apiAround_any p q W
  have m3 := fun W z (u : SlB W z l) => apiHas_any l x y s W u
  obtain ⟨a, b, c, d, hA⟩ : ∃ a b c d : Int, endsV x y s = #[.int .i64 a, .int .i64 b, .int .i64 c, .int .i64 d] := by
    unfold endsV
    split
    · exact ⟨_, _, _, _, rfl⟩
    · exact ⟨_, _, _, _, rfl⟩
  obtain ⟨F, hF⟩ : ∃ F, hasE l x y s = F := ⟨_, rfl⟩
  obtain ⟨G, hG⟩ : ∃ G, hasR l x y s = G := ⟨_, rfl⟩
  have HF : Hid (firstI [E, one] = F) := by unfold Hid; rw [← hE, ← hone]; exact hF
  have HH : Hid (G = (decide (F = 0) && hasb l (x, y, s))) := by unfold Hid; rw [← hG, ← hF]; rfl
  rw [hA, hone] at m1
  rw [htwo] at m2
  rw [hF, hG] at m3
  rw [hE] at r1 n1
  rw [hone] at r2 n2
  rw [htwo] at r3 n3
  have HA := Lib.hid hA
  have H1 := Lib.hid hone
  have H2 := Lib.hid htwo
  clear hs1 hl1 hE hone htwo hA hF hG
  go_enter Tryz.func12, Tryz.ntmps12
  go_wp2_with fail
  refine (ca _ (by (repeat (first | exact bl_refl | assumption | (apply bl_then; assumption) | refine bl_alloc ?_ _ | refine bl_drew ?_ | refine bl_drewN ?_ _)))).mono ?_
  rintro e w1 ⟨rfl, hb1⟩
  go_wp2_with fail
  refine (s1 _ (by (repeat (first | exact bl_refl | assumption | (apply bl_then; assumption) | refine bl_alloc ?_ _ | refine bl_drew ?_ | refine bl_drewN ?_ _)))).mono ?_
  rintro e w2 ⟨rfl, hb2⟩
  have hB2 := hB.below (show Below _ _ w2 by (repeat (first | exact bl_refl | assumption | (apply bl_then; assumption) | refine bl_alloc ?_ _ | refine bl_drew ?_ | refine bl_drewN ?_ _)))
  have hK2 := hK.below (show Below _ _ w2 by (repeat (first | exact bl_refl | assumption | (apply bl_then; assumption) | refine bl_alloc ?_ _ | refine bl_drew ?_ | refine bl_drewN ?_ _)))
  have hbw2 : Below w.heap.size w w2 := by (repeat (first | exact bl_refl | assumption | (apply bl_then; assumption) | refine bl_alloc ?_ _ | refine bl_drew ?_ | refine bl_drewN ?_ _))
  clear hB hK hb1 hb2
  have fhB2 := hB2.facts
  have fhK2 := hK2.facts
  go_wp2
  refine wp_region_ords [0, 2, 4] [(1, false), (3, false)] [5, 6, 7, 8] (by kernel_rfl) (by kernel_rfl) (fun d _ _ _ _ h => by cases d <;> exact h) ?_
  simp only [List.map_cons, List.map_nil, List.getD_cons_zero, List.getD_cons_succ]
  repeat (go_big_quiet_step (fail))
  refine wpQuiet_nil ?_
  refine wpMid_run rfl (fun K hK => ?_)
  go_simp
  refine (r1 _ (by (repeat (first | exact bl_refl | assumption | (apply bl_then; assumption) | refine bl_alloc ?_ _ | refine bl_drew ?_ | refine bl_drewN ?_ _)))).mono ?_
  rintro e w3 ⟨rfl, hb3⟩
  refine hK _ _ (by (repeat (first | exact bl_refl | assumption | (apply bl_then; assumption) | refine bl_alloc ?_ _ | refine bl_drew ?_ | refine bl_drewN ?_ _))) ?_
  clear hK K
  refine wpMid_run rfl (fun K hK => ?_)
  go_simp
  refine (r2 _).mono ?_
  rintro e w4 ⟨rfl, hb4⟩
  refine hK _ _ (by (repeat (first | exact bl_refl | assumption | (apply bl_then; assumption) | refine bl_alloc ?_ _ | refine bl_drew ?_ | refine bl_drewN ?_ _))) ?_
  clear hK K
  refine wpMid_nil ?_
  go_wp2_with fail
  refine (r3 _).mono ?_
  rintro e w5 ⟨rfl, hb5⟩
  replace hB2 := hB2.below (show Below _ _ w5 by (repeat (first | exact bl_refl | assumption | (apply bl_then; assumption) | refine bl_alloc ?_ _ | refine bl_drew ?_ | refine bl_drewN ?_ _)))
  replace fhB2 := hB2.facts
  replace hK2 := hK2.below (show Below _ _ w5 by (repeat (first | exact bl_refl | assumption | (apply bl_then; assumption) | refine bl_alloc ?_ _ | refine bl_drew ?_ | refine bl_drewN ?_ _)))
  replace fhK2 := hK2.facts
  go_wp2_with fail
  refine (copied_any l _ (h.below (by (repeat (first | exact bl_refl | assumption | (apply bl_then; assumption) | refine bl_alloc ?_ _ | refine bl_drew ?_ | refine bl_drewN ?_ _)))) la).mono ?_
  rintro e w6 ⟨v6, rfl, hC6, hb6⟩
  replace hB2 := hB2.below (show Below _ _ w6 by (repeat (first | exact bl_refl | assumption | (apply bl_then; assumption) | refine bl_alloc ?_ _ | refine bl_drew ?_ | refine bl_drewN ?_ _)))
  replace fhB2 := hB2.facts
  replace hK2 := hK2.below (show Below _ _ w6 by (repeat (first | exact bl_refl | assumption | (apply bl_then; assumption) | refine bl_alloc ?_ _ | refine bl_drew ?_ | refine bl_drewN ?_ _)))
  replace fhK2 := hK2.facts
  go_wp2_with fail
  refine (n1 _ _ (hC6.rd bc_len)).mono ?_
  rintro e w7 ⟨rfl, hb7⟩
  replace hB2 := hB2.below (show Below _ _ w7 by (repeat (first | exact bl_refl | assumption | (apply bl_then; assumption) | refine bl_alloc ?_ _ | refine bl_drew ?_ | refine bl_drewN ?_ _)))
  replace fhB2 := hB2.facts
  replace hK2 := hK2.below (show Below _ _ w7 by (repeat (first | exact bl_refl | assumption | (apply bl_then; assumption) | refine bl_alloc ?_ _ | refine bl_drew ?_ | refine bl_drewN ?_ _)))
  replace fhK2 := hK2.facts
  go_wp2_with fail
  refine (n2 _).mono ?_
  rintro e w8 ⟨rfl, hb8⟩
  replace hB2 := hB2.below (show Below _ _ w8 by (repeat (first | exact bl_refl | assumption | (apply bl_then; assumption) | refine bl_alloc ?_ _ | refine bl_drew ?_ | refine bl_drewN ?_ _)))
  replace fhB2 := hB2.facts
  replace hK2 := hK2.below (show Below _ _ w8 by (repeat (first | exact bl_refl | assumption | (apply bl_then; assumption) | refine bl_alloc ?_ _ | refine bl_drew ?_ | refine bl_drewN ?_ _)))
  replace fhK2 := hK2.facts
  go_wp2_with fail
  refine (n3 _).mono ?_
  rintro e w9 ⟨rfl, hb9⟩
  replace hB2 := hB2.below (show Below _ _ w9 by (repeat (first | exact bl_refl | assumption | (apply bl_then; assumption) | refine bl_alloc ?_ _ | refine bl_drew ?_ | refine bl_drewN ?_ _)))
  replace fhB2 := hB2.facts
  replace hK2 := hK2.below (show Below _ _ w9 by (repeat (first | exact bl_refl | assumption | (apply bl_then; assumption) | refine bl_alloc ?_ _ | refine bl_drew ?_ | refine bl_drewN ?_ _)))
  replace fhK2 := hK2.facts
  go_wp2_with fail
  refine (m1 _).mono ?_
  rintro e w10 ⟨rfl, hb10⟩
  replace hB2 := hB2.below (show Below _ _ w10 by (repeat (first | exact bl_refl | assumption | (apply bl_then; assumption) | refine bl_alloc ?_ _ | refine bl_drew ?_ | refine bl_drewN ?_ _)))
  replace fhB2 := hB2.facts
  replace hK2 := hK2.below (show Below _ _ w10 by (repeat (first | exact bl_refl | assumption | (apply bl_then; assumption) | refine bl_alloc ?_ _ | refine bl_drew ?_ | refine bl_drewN ?_ _)))
  replace fhK2 := hK2.facts
  have hbw10 : Below w.heap.size w w10 := by (repeat (first | exact bl_refl | assumption | (apply bl_then; assumption) | refine bl_alloc ?_ _ | refine bl_drew ?_ | refine bl_drewN ?_ _))
  go_wp2_with (refine wpList_store_blk (Blk.new w10 97 #[.int .i64 0, .int .i64 0, .int .i64 0, .int .i64 0]) rfl _ _ _ rfl rfl rfl (by rfl) (by kernel_rfl) (by kernel_rfl) ?_; intro w11 hEn hc11; have hb11 : Below w10.heap.size w10 w11 := (((Chg.of_below (bl_alloc bl_refl _)).trans hc11).below (by simp) (Nat.le_refl _)); replace hB2 := hB2.below hb11; replace hK2 := hK2.below hb11; replace fhB2 := hB2.facts; replace fhK2 := hK2.facts)
  have hbw11 := bl_then hb11 hbw10
  clear hb3 hb4 hb5 hb6 hb7 hb8 hb9 hb10 hb11 hbw2 hbw10 hC6 hc11
  have fhEn := hEn.facts
  go_wp2_with fail
  refine (m2 _).mono ?_
  rintro e w12 ⟨v12, rfl, hAr, hb12⟩
  replace hB2 := hB2.below (show Below _ _ w12 by (repeat (first | exact bl_refl | assumption | (apply bl_then; assumption) | refine bl_alloc ?_ _ | refine bl_drew ?_ | refine bl_drewN ?_ _)))
  replace fhB2 := hB2.facts
  replace hK2 := hK2.below (show Below _ _ w12 by (repeat (first | exact bl_refl | assumption | (apply bl_then; assumption) | refine bl_alloc ?_ _ | refine bl_drew ?_ | refine bl_drewN ?_ _)))
  replace fhK2 := hK2.facts
  replace hEn := hEn.below (show Below _ _ w12 by (repeat (first | exact bl_refl | assumption | (apply bl_then; assumption) | refine bl_alloc ?_ _ | refine bl_drew ?_ | refine bl_drewN ?_ _)))
  replace fhEn := hEn.facts
  replace hAr := hAr.rd bc_len
  go_wp2
  refine wp_region_ords [0, 2] [(1, false), (3, false), (4, false), (5, true), (6, true), (7, false)] [8] (by kernel_rfl) (by kernel_rfl) (fun d _ _ _ _ h => by cases d <;> exact h) ?_
  simp only [List.map_cons, List.map_nil, List.getD_cons_zero, List.getD_cons_succ]
  repeat (go_big_quiet_step (fail))
  refine wpQuiet_nil ?_
  refine wpMid_run rfl (fun K hK => ?_)
  go_simp
  refine (copied_any l _ (h.below (by (repeat (first | exact bl_refl | assumption | (apply bl_then; assumption) | refine bl_alloc ?_ _ | refine bl_drew ?_ | refine bl_drewN ?_ _)))) la).mono ?_
  rintro e w13 ⟨v13, rfl, hC13, hb13⟩
  refine hK _ _ (by (repeat (first | exact bl_refl | assumption | (apply bl_then; assumption) | refine bl_alloc ?_ _ | refine bl_drew ?_ | refine bl_drewN ?_ _))) ?_
  clear hK K
  refine wpMid_run rfl (fun K hK => ?_)
  go_simp
  refine (m3 _ _ (hC13.rd bc_len)).mono ?_
  rintro e w14 ⟨rfl, hb14⟩
  refine hK _ _ (by (repeat (first | exact bl_refl | assumption | (apply bl_then; assumption) | refine bl_alloc ?_ _ | refine bl_drew ?_ | refine bl_drewN ?_ _))) ?_
  clear hK K
  refine wpMid_run rfl (fun K hK => ?_)
  go_simp
  refine hK _ _ (by (repeat (first | exact bl_refl | assumption | (apply bl_then; assumption) | refine bl_alloc ?_ _ | refine bl_drew ?_ | refine bl_drewN ?_ _))) ?_
  clear hK K
  refine wpMid_take rfl ?_
  intro K hK
  go_big_quiet_op
  go_big_quiet_on
  refine wpMid_take rfl ?_
  intro K hK
  go_big_quiet_op
  go_big_quiet_on
  refine wpMid_run rfl (fun K hK => ?_)
  go_simp
  refine hK _ _ (by (repeat (first | exact bl_refl | assumption | (apply bl_then; assumption) | refine bl_alloc ?_ _ | refine bl_drew ?_ | refine bl_drewN ?_ _))) ?_
  clear hK K
  refine wpMid_nil ?_
  have hAr14 := hAr.below (show Below w12.heap.size w12 w14 by (repeat (first | exact bl_refl | assumption | (apply bl_then; assumption) | refine bl_alloc ?_ _ | refine bl_drew ?_ | refine bl_drewN ?_ _)))
  have hB14 := hB2.below (show Below w12.heap.size w12 w14 by (repeat (first | exact bl_refl | assumption | (apply bl_then; assumption) | refine bl_alloc ?_ _ | refine bl_drew ?_ | refine bl_drewN ?_ _)))
  have hK14 := hK2.below (show Below w12.heap.size w12 w14 by (repeat (first | exact bl_refl | assumption | (apply bl_then; assumption) | refine bl_alloc ?_ _ | refine bl_drew ?_ | refine bl_drewN ?_ _)))
  have hEn14 := hEn.below (show Below w12.heap.size w12 w14 by (repeat (first | exact bl_refl | assumption | (apply bl_then; assumption) | refine bl_alloc ?_ _ | refine bl_drew ?_ | refine bl_drewN ?_ _)))
  have hbw14 : Below w.heap.size w w14 := by (repeat (first | exact bl_refl | assumption | (apply bl_then; assumption) | refine bl_alloc ?_ _ | refine bl_drew ?_ | refine bl_drewN ?_ _))
  clear hAr hB2 hK2 hEn fhB2 fhK2 fhEn hb12 hb13 hb14 hC13 hbw11
  have fhB := hB14.facts
  have fhK := hK14.facts
  have fhEn := hEn14.facts
  go_upto_region 9 with fail
  go_cut [89] from 64 (fun s89 wx => s89 = .bool false ∧ Below w14.heap.size w14 wx)
  case first =>
    by_cases h1 : one = 0
    · have hb := barE_ok (H1.out.trans h1)
      obtain ⟨q1, q2, q3⟩ := hb
      simp only at q1 q2 q3
      have hAA : endsV x y s = #[.int .i64 x, .int .i64 y, .int .i64 (x + s), .int .i64 (y + 1)] := by unfold endsV; rw [if_pos (H1.out.trans h1)]
      have hAB := HA.out.symm.trans hAA
      simp only [Array.mk.injEq, List.cons.injEq, Value.int.injEq, true_and, and_true] at hAB
      obtain ⟨rfl, rfl, rfl, rfl⟩ := hAB
      subst h1
      have re := fun W => rends_any a b s (by omega) (by omega) (by omega) W
      clear hAA HA
      refine wp_region_ords [0, 1, 2, 3, 4, 5, 6, 7, 8, 9, 10, 11, 12, 13, 14, 15, 16, 17, 18, 19, 20] [(21, false)] [22, 23, 24, 25] (by kernel_rfl) (by kernel_rfl) (fun d _ _ _ _ h => by cases d <;> exact h) ?_
      simp only [List.map_cons, List.map_nil, List.getD_cons_zero, List.getD_cons_succ]
      repeat (go_big_quiet_step (fail))
      refine wpQuiet_nil ?_
      refine wpMid_run rfl (fun K hK => ?_)
      go_simp
      refine (re _).mono ?_
      rintro e w15 ⟨rfl, hb15⟩
      refine hK _ _ (by (repeat (first | exact bl_refl | assumption | (apply bl_then; assumption) | refine bl_alloc ?_ _ | refine bl_drew ?_ | refine bl_drewN ?_ _))) ?_
      clear hK K
      refine wpMid_nil ?_
      go_wp2_with fail
      go_meet
      case rel => exact ⟨rfl, by (repeat (first | exact bl_refl | assumption | (apply bl_then; assumption) | refine bl_alloc ?_ _ | refine bl_drew ?_ | refine bl_drewN ?_ _))⟩
    · have hAA : endsV x y s = #[.int .i64 0, .int .i64 0, .int .i64 0, .int .i64 0] := by unfold endsV; rw [if_neg (by rw [H1.out]; exact h1)]
      have hAB := HA.out.symm.trans hAA
      simp only [Array.mk.injEq, List.cons.injEq, Value.int.injEq, true_and, and_true] at hAB
      obtain ⟨rfl, rfl, rfl, rfl⟩ := hAB
      have t1 : (one != 0) = true := by simp [h1]
      have t2 : (one == 0) = false := by simp [h1]
      clear hAA HA h1
      refine wp_region_ords [0, 1, 2, 3, 4, 5, 6, 7, 8, 9, 10, 11, 12, 13, 14, 15, 16, 17, 18, 19, 20] [(21, false)] [22, 23, 24, 25] (by kernel_rfl) (by kernel_rfl) (fun d _ _ _ _ h => by cases d <;> exact h) ?_
      simp only [List.map_cons, List.map_nil, List.getD_cons_zero, List.getD_cons_succ]
      repeat (go_big_quiet_step (fail))
      refine wpQuiet_nil ?_
      refine wpMid_skipF (by kernel_rfl) ?_
      intro K hK
      simp only [Act.put, List.setIfInBounds_toArray, List.set_cons_zero, List.set_cons_succ]
      refine hK _ ?_
      clear hK K
      refine wpMid_nil ?_
      go_wp2_with fail
      go_meet
      case rel => exact ⟨rfl, by (repeat (first | exact bl_refl | assumption | (apply bl_then; assumption) | refine bl_alloc ?_ _ | refine bl_drew ?_ | refine bl_drewN ?_ _))⟩
  obtain ⟨rfl, hbc⟩ := hcut
  obtain ⟨w15, rfl⟩ : ∃ x, x = wc := ⟨_, rfl⟩
  have hB15 := hB14.below hbc
  have hK15 := hK14.below hbc
  have hAr15 := hAr14.below hbc
  have hbw15 := bl_then hbc hbw14
  clear hB14 hK14 hEn14 hAr14 fhB fhK fhEn hbw14 hbc
  have fhB := hB15.facts
  have fhK := hK15.facts
  go_upto_region 11 with fail
  go_cut [110] from 90 (fun s110 wx => s110 = .bool false ∧ Below w15.heap.size w15 wx)
  case first =>
    by_cases h2 : two = 0
    · obtain ⟨z1, z2, z3, z4, _⟩ := knotE_zero (H2.out.trans h2)
      have hAL : aroundL (p, q) = arL (p, q) 4 := by unfold aroundL; rw [if_pos (H2.out.trans h2)]
      rw [hAL] at hAr15
      have ra := fun W => raround_any p q (by omega) (by omega) W
      subst h2
      clear hAL
      go_wp2_with fail
      refine (ra _).mono ?_
      rintro e w16 ⟨v16, rfl, hR16, hb16⟩
      go_wp2_with fail
      refine (lnet_any _ _ _ _ _ (hAr15.below (by (repeat (first | exact bl_refl | assumption | (apply bl_then; assumption) | refine bl_alloc ?_ _ | refine bl_drew ?_ | refine bl_drewN ?_ _)))) (hR16.rd bc_len)).mono ?_
      rintro e w17 ⟨rfl, hb17⟩
      rw [show ∀ L : List Bar, netB L 0 0 L = true from fun L => by simp [netB]]
      go_wp2_with fail
      go_meet
      case rel => exact ⟨rfl, by (repeat (first | exact bl_refl | assumption | (apply bl_then; assumption) | refine bl_alloc ?_ _ | refine bl_drew ?_ | refine bl_drewN ?_ _))⟩
    · have hAL : aroundL (p, q) = [] := by unfold aroundL; rw [if_neg (by rw [H2.out]; exact h2)]
      rw [hAL] at hAr15
      have t1 : (two != 0) = true := by simp [h2]
      have t2 : (two == 0) = false := by simp [h2]
      have hn := net_err h2
      clear hAL h2
      go_wp2_with fail
      refine (lnet_any [] [] two two _ hAr15 Sl.nil_).mono ?_
      rintro e w17 ⟨rfl, hb17⟩
      rw [hn]
      go_wp2_with fail
      go_meet
      case rel => exact ⟨rfl, by (repeat (first | exact bl_refl | assumption | (apply bl_then; assumption) | refine bl_alloc ?_ _ | refine bl_drew ?_ | refine bl_drewN ?_ _))⟩
  obtain ⟨rfl, hbc⟩ := hcut
  obtain ⟨w18, rfl⟩ : ∃ x, x = wc := ⟨_, rfl⟩
  have hB18 := hB15.below hbc
  have hbw18 := bl_then hbc hbw15
  clear hB15 hK15 hAr15 fhB fhK hbw15 hbc
  have fhB := hB18.facts
  go_wp2_with fail
  go_must (refine (lfirst_any [E, one] _ _ _ (by simp [maxLen]) (Rd.ints2 (by simp) (by go_simp) (by go_simp))).mono ?_)
  rintro e w19 ⟨rfl, hb19⟩
  rw [HF.out]
  have hB19 := (hB18.alloc _).below hb19
  have fhB19 := hB19.facts
  have hbw19 : Below w.heap.size w w19 := by (repeat (first | exact bl_refl | assumption | (apply bl_then; assumption) | refine bl_alloc ?_ _ | refine bl_drew ?_ | refine bl_drewN ?_ _))
  by_cases hF0 : F = 0
  · have HG : Hid (G = hasb l (x, y, s)) := by unfold Hid; rw [HH.out, hF0]; rfl
    obtain ⟨g, hg⟩ : ∃ g, hasb l (x, y, s) = g := ⟨_, rfl⟩
    rw [hg] at HG
    have hc := fun W (u : SlB W v l) => has_any l x y s W u
    rw [hg] at hc
    obtain rfl : g = G := HG.out.symm
    subst hF0
    clear hg
    go_wp2_with fail
    refine (hc _ (h.below hbw19)).mono ?_
    rintro e w20 ⟨rfl, hb20⟩
    go_wp2
    go_ret
    exact ⟨by cases g <;> rfl, by (repeat (first | exact bl_refl | assumption | (apply bl_then; assumption) | refine bl_alloc ?_ _ | refine bl_drew ?_ | refine bl_drewN ?_ _))⟩
  · obtain rfl : false = G := by rw [HH.out, decide_eq_false hF0]; rfl
    have t2 : (F == 0) = false := by simp [hF0]
    clear hF0
    go_wp2
    go_ret
    exact ⟨rfl, by (repeat (first | exact bl_refl | assumption | (apply bl_then; assumption) | refine bl_alloc ?_ _ | refine bl_drew ?_ | refine bl_drewN ?_ _))⟩
end Go.Proofs.YtkmjcoofkgpanaaGreatDoor

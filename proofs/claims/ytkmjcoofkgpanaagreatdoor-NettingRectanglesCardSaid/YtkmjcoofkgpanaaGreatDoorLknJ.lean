/- NettingKnots: the law, walked. Conditions: the variables are laid. -/
import Derived.Test.YtkmjcoofkgpanaaGreatDoorB21
import Derived.Test.YtkmjcoofkgpanaaGreatDoorLmoJ
import Derived.Test.YtkmjcoofkgpanaaGreatDoorLalJ
import Derived.Test.YtkmjcoofkgpanaaGreatDoorNraJ
import Derived.ChangeKeysEq
namespace Go.Proofs.YtkmjcoofkgpanaaGreatDoor
open Go.RowKit Go.ChangeMaps
set_option maxHeartbeats 4000000
set_option maxRecDepth 100000

attribute [local go_sem] Oper.semAt_some
@[go_sem] theorem eq5 (a b c d e : Int) (w : World) : (Op.equalIn 10000 52 (.agg #[.int .i64 a, .int .i64 b, .int .i64 c, .int .i64 d, .int .i64 e]) (.agg #[.int .i64 a, .int .i64 b, .int .i64 c, .int .i64 d, .int .i64 e])).run Tryz.prog w = .ok true w := by
  obtain ⟨i, hi⟩ : ∃ i, Tryz.prog.info? 3 = some i := Option.isSome_iff_exists.1 (by kernel_rfl)
  rw [run_equalIn_array w 9999 (t := 52) (e := 3) (n := 5) _ _ (by kernel_rfl) hi]
  have hc : Tryz.prog.cellsOf 3 = 1 := by kernel_rfl
  rw [hc]
  have h1 : ∀ (x : Int) W, (Op.equalIn 9999 3 (.int .i64 x) (.int .i64 x)).run Tryz.prog W = .ok true W := fun x W => by simp [go_sem]
  have p0 : ∀ W, (part 3 #[Value.int .i64 a, .int .i64 b, .int .i64 c, .int .i64 d, .int .i64 e] (0 * 1)).run Tryz.prog W = .ok (.int .i64 a) W := fun W => by kernel_rfl
  have p1 : ∀ W, (part 3 #[Value.int .i64 a, .int .i64 b, .int .i64 c, .int .i64 d, .int .i64 e] (1 * 1)).run Tryz.prog W = .ok (.int .i64 b) W := fun W => by kernel_rfl
  have p2 : ∀ W, (part 3 #[Value.int .i64 a, .int .i64 b, .int .i64 c, .int .i64 d, .int .i64 e] (2 * 1)).run Tryz.prog W = .ok (.int .i64 c) W := fun W => by kernel_rfl
  have p3 : ∀ W, (part 3 #[Value.int .i64 a, .int .i64 b, .int .i64 c, .int .i64 d, .int .i64 e] (3 * 1)).run Tryz.prog W = .ok (.int .i64 d) W := fun W => by kernel_rfl
  have p4 : ∀ W, (part 3 #[Value.int .i64 a, .int .i64 b, .int .i64 c, .int .i64 d, .int .i64 e] (4 * 1)).run Tryz.prog W = .ok (.int .i64 e) W := fun W => by kernel_rfl
  rw [show List.range 5 = [0, 1, 2, 3, 4] from rfl]
  simp only [Op.eqItems, Sem.run_bind, p0, p1, p2, p3, p4, h1, Result.andThen_ok, Bool.not_true, Bool.false_eq_true, if_false, Sem.run_pure]
theorem deg_err {l : List Bar} {x y : Int} (h : netE l ≠ 0) : degE l x y = netE l ∧ degR l x y = 0 := by
  have h1 : degE l x y = netE l := by unfold degE firstI; rw [if_neg h]
  exact ⟨h1, by unfold degR; rw [if_neg (by rw [h1]; exact h)]⟩
theorem deg_err2 {l : List Bar} {x y : Int} (h : netE l = 0) (hk : knotE x y ≠ 0) : degE l x y = knotE x y ∧ degR l x y = 0 := by
  have h1 : degE l x y = knotE x y := by unfold degE firstI; rw [if_pos h]; unfold firstI; rw [if_neg hk]
  exact ⟨h1, by unfold degR; rw [if_neg (by rw [h1]; exact hk)]⟩
theorem aSameK {v u : Value} (a b : List Knot) (w : World) (h : SlK w v a) (h' : SlK w u b) (e : a = b) : Calls Tryz.prog 44 #[v, u] w (RV w (.bool true)) := by
  have := sameKnots_any a b w h h'
  rwa [decide_eq_true e] at this
theorem aSameM {v u : Value} (a b : List Knot) (w : World) (h : SlK w v a) (h' : SlK w u b) (e : a = b) : Calls Tryz.prog 47 #[v, u] w (RV w (.bool true)) := by
  have := sameMeshes_any a b w h h'
  rwa [decide_eq_true e] at this
theorem only_ok {α : Type} (l : List α) : onlyOk 0 l = l := rfl
abbrev leg5 (a b c d e : Int) : Array Value := #[.int .i64 a, .int .i64 b, .int .i64 c, .int .i64 d, .int .i64 e]
theorem nettingKnots_any (l : List Bar) (x y : Int) (w : World) {v : Value} (h : SlB w v l) (hL : Lay w) : Calls Tryz.prog 8 #[v, .agg #[.int .i64 x, .int .i64 y]] w (RV w (.bool true)) := by
  have ca := fun W (hb : Below w.heap.size w W) => awake_any W (hL.below hb)
  have s1 := fun W (hb : Below w.heap.size w W) => shortNet_any l 40 W (h.below hb)
  have hK := Blk.new w 23 #[.int .i64 x, .int .i64 y]
  by_cases hs1 : shortB l 40 = true
  rotate_left
  · rw [show shortB l 40 = false by simpa using hs1] at s1
    go_enter Tryz.func8, Tryz.ntmps8
    go_wp2_with fail
    refine (ca _ (by (repeat (first | exact bl_refl | assumption | (apply bl_then; assumption) | refine bl_alloc ?_ _ | refine bl_drew ?_ | refine bl_drewN ?_ _)))).mono ?_
    rintro e w1 ⟨rfl, hb1⟩
    go_wp2_with fail
    refine (s1 _ (by (repeat (first | exact bl_refl | assumption | (apply bl_then; assumption) | refine bl_alloc ?_ _ | refine bl_drew ?_ | refine bl_drewN ?_ _)))).mono ?_
    rintro e w2 ⟨rfl, hb2⟩
    go_wp2_with fail
    refine (ca _ (by (repeat (first | exact bl_refl | assumption | (apply bl_then; assumption) | refine bl_alloc ?_ _ | refine bl_drew ?_ | refine bl_drewN ?_ _)))).mono ?_
    rintro e w3 ⟨rfl, hb3⟩
    go_wp2
    go_ret
    exact ⟨rfl, by (repeat (first | exact bl_refl | assumption | (apply bl_then; assumption) | refine bl_alloc ?_ _ | refine bl_drew ?_ | refine bl_drewN ?_ _))⟩
  rw [hs1] at s1
  have hl1 := short_len hs1
  have la : l.length ≤ 100000 := by omega
  have r1 := fun W (hb : Below w.heap.size w W) => rnet_sl l W (h.below hb)
  have m1 := fun W z (p : SlB W z l) => apiKnots_any l W p
  have m2 := fun W z (p : SlB W z l) => degree_any l x y W p
  have m3 := fun W z (p : SlB W z l) => apiLegs_any l W p
  have m4 := fun W z (p : SlB W z l) => apiMeshes_any l W p
  by_cases hE : netE l = 0
  rotate_left
  · have t1 : (netE l != 0) = true := by simp [hE]
    have t0 : netE l = netE l := rfl
    rw [only_err _ hE] at m1
    rw [(deg_err hE).1, (deg_err hE).2] at m2
    rw [show legsR l = zer5 by unfold legsR; rw [if_neg hE]] at m3
    rw [only_err _ hE] at m4
    obtain ⟨E, hEE⟩ : ∃ E, netE l = E := ⟨_, rfl⟩
    rw [hEE] at t1 m1 m2 m3 m4 r1
    clear hE hEE hs1 hl1 t0
    go_enter Tryz.func8, Tryz.ntmps8
    go_wp2_with fail
    refine (ca _ (by (repeat (first | exact bl_refl | assumption | (apply bl_then; assumption) | refine bl_alloc ?_ _ | refine bl_drew ?_ | refine bl_drewN ?_ _)))).mono ?_
    rintro e w1 ⟨rfl, hb1⟩
    go_wp2_with fail
    refine (s1 _ (by (repeat (first | exact bl_refl | assumption | (apply bl_then; assumption) | refine bl_alloc ?_ _ | refine bl_drew ?_ | refine bl_drewN ?_ _)))).mono ?_
    rintro e w2 ⟨rfl, hb2⟩
    go_wp2_with fail
    refine (copied_any l _ (h.below (by (repeat (first | exact bl_refl | assumption | (apply bl_then; assumption) | refine bl_alloc ?_ _ | refine bl_drew ?_ | refine bl_drewN ?_ _)))) la).mono ?_
    rintro e w3 ⟨v3, rfl, hC3, hb3⟩
    go_wp2_with fail
    refine (m1 _ _ (hC3.rd bc_len)).mono ?_
    rintro e w4 ⟨v4, rfl, hK4, hb4⟩
    obtain ⟨A4, c4, rfl⟩ := hK4.shape
    have fK := (hK.below (show Below _ _ w4 by (repeat (first | exact bl_refl | assumption | (apply bl_then; assumption) | refine bl_alloc ?_ _ | refine bl_drew ?_ | refine bl_drewN ?_ _)))).facts
    go_wp2
    refine wp_region_ords [0, 2] [(1, false), (3, false), (4, false), (5, true), (6, true), (7, false)] [8] (by kernel_rfl) (by kernel_rfl) (fun d _ _ _ _ h => by cases d <;> exact h) ?_
    simp only [List.map_cons, List.map_nil, List.getD_cons_zero, List.getD_cons_succ]
    repeat (go_big_quiet_step (fail))
    refine wpQuiet_nil ?_
    refine wpMid_run rfl (fun K hK => ?_)
    go_simp
    refine (copied_any l _ (h.below (by (repeat (first | exact bl_refl | assumption | (apply bl_then; assumption) | refine bl_alloc ?_ _ | refine bl_drew ?_ | refine bl_drewN ?_ _)))) la).mono ?_
    rintro e w5 ⟨v5, rfl, hC5, hb5⟩
    refine hK _ _ (by (repeat (first | exact bl_refl | assumption | (apply bl_then; assumption) | refine bl_alloc ?_ _ | refine bl_drew ?_ | refine bl_drewN ?_ _))) ?_
    clear hK K
    refine wpMid_run rfl (fun K hK => ?_)
    go_simp
    refine (m2 _ _ (hC5.rd bc_len)).mono ?_
    rintro e w6 ⟨rfl, hb6⟩
    refine hK _ _ (by (repeat (first | exact bl_refl | assumption | (apply bl_then; assumption) | refine bl_alloc ?_ _ | refine bl_drew ?_ | refine bl_drewN ?_ _))) ?_
    clear hK K
    refine wpMid_run rfl (fun K hK => ?_)
    go_simp
    refine hK _ _ (by (repeat (first | exact bl_refl | assumption | (apply bl_then; assumption) | refine bl_alloc ?_ _ | refine bl_drew ?_ | refine bl_drewN ?_ _))) ?_
    clear hK K
    refine wpMid_take rfl ?_
    intro K hK
    go_big_quiet_op
    go_big_quiet_on
    refine wpMid_take rfl ?_
    intro K hK
    go_big_quiet_op
    go_big_quiet_on
    refine wpMid_run rfl (fun K hK => ?_)
    go_simp
    refine hK _ _ (by (repeat (first | exact bl_refl | assumption | (apply bl_then; assumption) | refine bl_alloc ?_ _ | refine bl_drew ?_ | refine bl_drewN ?_ _))) ?_
    clear hK K
    refine wpMid_nil ?_
    have hbw6 : Below w.heap.size w w6 := by (repeat (first | exact bl_refl | assumption | (apply bl_then; assumption) | refine bl_alloc ?_ _ | refine bl_drew ?_ | refine bl_drewN ?_ _))
    clear fK hK hb1 hb2 hb3 hb4 hb5 hb6 hC3 hC5 hK4
    go_wp2_with fail
    refine (copied_any l _ (h.below (by (repeat (first | exact bl_refl | assumption | (apply bl_then; assumption) | refine bl_alloc ?_ _ | refine bl_drew ?_ | refine bl_drewN ?_ _)))) la).mono ?_
    rintro e w8 ⟨v8, rfl, hC8, hb8⟩
    go_wp2_with fail
    refine (m3 _ _ (hC8.rd bc_len)).mono ?_
    rintro e w9 ⟨rfl, hb9⟩
    have hb69 : Below w6.heap.size w6 w9 := by (repeat (first | exact bl_refl | assumption | (apply bl_then; assumption) | refine bl_alloc ?_ _ | refine bl_drew ?_ | refine bl_drewN ?_ _))
    go_wp2_with (refine wpList_store_blk (Blk.new w9 52 #[.int .i64 0, .int .i64 0, .int .i64 0, .int .i64 0, .int .i64 0]) rfl _ _ _ rfl rfl rfl (by rfl) (by kernel_rfl) (by kernel_rfl) ?_; intro w7 hBx hc7)
    have hbc : Below w6.heap.size w6 w7 := bl_then (((Chg.of_below (bl_alloc bl_refl _)).trans hc7).below (by simp) (Nat.le_refl _)) hb69
    clear hb8 hb9 hb69 hc7 hC8
    have hbw7 := bl_then hbc hbw6
    go_wp2_with fail
    refine (copied_any l _ (h.below (by (repeat (first | exact bl_refl | assumption | (apply bl_then; assumption) | refine bl_alloc ?_ _ | refine bl_drew ?_ | refine bl_drewN ?_ _)))) la).mono ?_
    rintro e w10 ⟨v10, rfl, hC10, hb10⟩
    go_wp2_with fail
    refine (m4 _ _ (hC10.rd bc_len)).mono ?_
    rintro e w11 ⟨v11, rfl, hM11, hb11⟩
    obtain ⟨A11, c11, rfl⟩ := hM11.shape
    go_wp2_with fail
    refine (r1 _ (by (repeat (first | exact bl_refl | assumption | (apply bl_then; assumption) | refine bl_alloc ?_ _ | refine bl_drew ?_ | refine bl_drewN ?_ _)))).mono ?_
    rintro e w12 ⟨rfl, hb12⟩
    have fB := (hBx.below (show Below _ _ w12 by (repeat (first | exact bl_refl | assumption | (apply bl_then; assumption) | refine bl_alloc ?_ _ | refine bl_drew ?_ | refine bl_drewN ?_ _)))).facts
    unfold zer5 at fB
    go_wp2
    go_ret
    exact ⟨rfl, by (repeat (first | exact bl_refl | assumption | (apply bl_then; assumption) | refine bl_alloc ?_ _ | refine bl_drew ?_ | refine bl_drewN ?_ _))⟩
  have hok := netE_ok hE
  have hlen := short_le hs1 (by omega) hE
  have HO := Lib.hid hok
  rw [show legsR l = legA l (holeK l) by unfold legsR; rw [if_pos hE]] at m3
  rw [hE] at m1 m3 m4 r1
  rw [only_ok] at m1 m4
  have rk := fun W (hb : Below w.heap.size w W) => rknots_any l W (h.below hb) hok.ok (by omega)
  have rl := fun W (hb : Below w.heap.size w W) => rlegs_any l W (h.below hb) hok
  have rm := fun W (hb : Below w.heap.size w W) => rmeshes_any l W (h.below hb) hok.ok (by omega)
  have rd := fun W (hb : Below w.heap.size w W) => rdegree_any l x y W (h.below hb) hok.ok (by omega)
  have hml := meshL_len l l
  obtain ⟨a0, a1, a2, a3, a4, hA⟩ : ∃ a0 a1 a2 a3 a4, legA l (holeK l) = leg5 a0 a1 a2 a3 a4 := ⟨_, _, _, _, _, rfl⟩
  rw [hA] at m3 rl
  have t0 : ∀ D F : Int, (D = degR l x y ∧ F = degE l x y) → Hid (D = degR l x y ∧ F = degE l x y) := fun D F q => q
  have hd0 := degN_small l (x, y)
  obtain ⟨D, hD⟩ : ∃ D, degR l x y = D := ⟨_, rfl⟩
  obtain ⟨F, hF⟩ : ∃ F, degE l x y = F := ⟨_, rfl⟩
  have HDF : Hid (degR l x y = D ∧ degE l x y = F) := ⟨hD, hF⟩
  rw [hD, hF] at m2
  have HE := Lib.hid hE
  clear hE hok hs1 hl1 hA t0 hD hF
  go_enter Tryz.func8, Tryz.ntmps8
  go_wp2_with fail
  refine (ca _ (by (repeat (first | exact bl_refl | assumption | (apply bl_then; assumption) | refine bl_alloc ?_ _ | refine bl_drew ?_ | refine bl_drewN ?_ _)))).mono ?_
  rintro e w1 ⟨rfl, hb1⟩
  go_wp2_with fail
  refine (s1 _ (by (repeat (first | exact bl_refl | assumption | (apply bl_then; assumption) | refine bl_alloc ?_ _ | refine bl_drew ?_ | refine bl_drewN ?_ _)))).mono ?_
  rintro e w2 ⟨rfl, hb2⟩
  go_wp2_with fail
  refine (copied_any l _ (h.below (by (repeat (first | exact bl_refl | assumption | (apply bl_then; assumption) | refine bl_alloc ?_ _ | refine bl_drew ?_ | refine bl_drewN ?_ _)))) la).mono ?_
  rintro e w3 ⟨v3, rfl, hC3, hb3⟩
  go_wp2_with fail
  refine (m1 _ _ (hC3.rd bc_len)).mono ?_
  rintro e w4 ⟨v4, rfl, hK4, hb4⟩
  have fK := (hK.below (show Below _ _ w4 by (repeat (first | exact bl_refl | assumption | (apply bl_then; assumption) | refine bl_alloc ?_ _ | refine bl_drew ?_ | refine bl_drewN ?_ _)))).facts
  go_wp2
  refine wp_region_ords [0, 2] [(1, false), (3, false), (4, false), (5, true), (6, true), (7, false)] [8] (by kernel_rfl) (by kernel_rfl) (fun d _ _ _ _ h => by cases d <;> exact h) ?_
  simp only [List.map_cons, List.map_nil, List.getD_cons_zero, List.getD_cons_succ]
  repeat (go_big_quiet_step (fail))
  refine wpQuiet_nil ?_
  refine wpMid_run rfl (fun K hK => ?_)
  go_simp
  refine (copied_any l _ (h.below (by (repeat (first | exact bl_refl | assumption | (apply bl_then; assumption) | refine bl_alloc ?_ _ | refine bl_drew ?_ | refine bl_drewN ?_ _)))) la).mono ?_
  rintro e w5 ⟨v5, rfl, hC5, hb5⟩
  refine hK _ _ (by (repeat (first | exact bl_refl | assumption | (apply bl_then; assumption) | refine bl_alloc ?_ _ | refine bl_drew ?_ | refine bl_drewN ?_ _))) ?_
  clear hK K
  refine wpMid_run rfl (fun K hK => ?_)
  go_simp
  refine (m2 _ _ (hC5.rd bc_len)).mono ?_
  rintro e w6 ⟨rfl, hb6⟩
  refine hK _ _ (by (repeat (first | exact bl_refl | assumption | (apply bl_then; assumption) | refine bl_alloc ?_ _ | refine bl_drew ?_ | refine bl_drewN ?_ _))) ?_
  clear hK K
  refine wpMid_run rfl (fun K hK => ?_)
  go_simp
  refine hK _ _ (by (repeat (first | exact bl_refl | assumption | (apply bl_then; assumption) | refine bl_alloc ?_ _ | refine bl_drew ?_ | refine bl_drewN ?_ _))) ?_
  clear hK K
  refine wpMid_take rfl ?_
  intro K hK
  go_big_quiet_op
  go_big_quiet_on
  refine wpMid_take rfl ?_
  intro K hK
  go_big_quiet_op
  go_big_quiet_on
  refine wpMid_run rfl (fun K hK => ?_)
  go_simp
  refine hK _ _ (by (repeat (first | exact bl_refl | assumption | (apply bl_then; assumption) | refine bl_alloc ?_ _ | refine bl_drew ?_ | refine bl_drewN ?_ _))) ?_
  clear hK K
  refine wpMid_nil ?_
  have hK6 := hK.below (show Below _ _ w6 by (repeat (first | exact bl_refl | assumption | (apply bl_then; assumption) | refine bl_alloc ?_ _ | refine bl_drew ?_ | refine bl_drewN ?_ _)))
  have hKn := (hK4.rd kc_len).below (show Below w4.heap.size w4 w6 by (repeat (first | exact bl_refl | assumption | (apply bl_then; assumption) | refine bl_alloc ?_ _ | refine bl_drew ?_ | refine bl_drewN ?_ _)))
  have hbw6 : Below w.heap.size w w6 := by (repeat (first | exact bl_refl | assumption | (apply bl_then; assumption) | refine bl_alloc ?_ _ | refine bl_drew ?_ | refine bl_drewN ?_ _))
  clear fK hK hb1 hb2 hb3 hb4 hb5 hb6 hC3 hC5 hK4
  go_wp2_with fail
  refine (copied_any l _ (h.below (by (repeat (first | exact bl_refl | assumption | (apply bl_then; assumption) | refine bl_alloc ?_ _ | refine bl_drew ?_ | refine bl_drewN ?_ _)))) la).mono ?_
  rintro e w8 ⟨v8, rfl, hC8, hb8⟩
  go_wp2_with fail
  refine (m3 _ _ (hC8.rd bc_len)).mono ?_
  rintro e w9 ⟨rfl, hb9⟩
  have hb69 : Below w6.heap.size w6 w9 := by (repeat (first | exact bl_refl | assumption | (apply bl_then; assumption) | refine bl_alloc ?_ _ | refine bl_drew ?_ | refine bl_drewN ?_ _))
  go_wp2_with (refine wpList_store_blk (Blk.new w9 52 #[.int .i64 0, .int .i64 0, .int .i64 0, .int .i64 0, .int .i64 0]) rfl _ _ _ rfl rfl rfl (by rfl) (by kernel_rfl) (by kernel_rfl) ?_; intro w7 hBx hc7)
  have hbc : Below w6.heap.size w6 w7 := bl_then (((Chg.of_below (bl_alloc bl_refl _)).trans hc7).below (by simp) (Nat.le_refl _)) hb69
  clear hb8 hb9 hb69 hc7 hC8
  have hKn7 := hKn.below hbc
  have hK7 := hK6.below hbc
  have hbw7 := bl_then hbc hbw6
  clear hKn hK6
  go_wp2_with fail
  refine (copied_any l _ (h.below (by (repeat (first | exact bl_refl | assumption | (apply bl_then; assumption) | refine bl_alloc ?_ _ | refine bl_drew ?_ | refine bl_drewN ?_ _)))) la).mono ?_
  rintro e w10 ⟨v10, rfl, hC10, hb10⟩
  go_wp2_with fail
  refine (m4 _ _ (hC10.rd bc_len)).mono ?_
  rintro e w11 ⟨v11, rfl, hM11, hb11⟩
  replace hM11 := hM11.rd kc_len
  go_wp2_with fail
  refine (r1 _ (by (repeat (first | exact bl_refl | assumption | (apply bl_then; assumption) | refine bl_alloc ?_ _ | refine bl_drew ?_ | refine bl_drewN ?_ _)))).mono ?_
  rintro e w12 ⟨rfl, hb12⟩
  have fK := (hK7.below (show Below _ _ w12 by (repeat (first | exact bl_refl | assumption | (apply bl_then; assumption) | refine bl_alloc ?_ _ | refine bl_drew ?_ | refine bl_drewN ?_ _)))).facts
  go_wp2_with fail
  refine (rknot_any x y _).mono ?_
  rintro e w13 ⟨rfl, hb13⟩
  have fK2 := (hK7.below (show Below _ _ w13 by (repeat (first | exact bl_refl | assumption | (apply bl_then; assumption) | refine bl_alloc ?_ _ | refine bl_drew ?_ | refine bl_drewN ?_ _)))).facts
  have hBx13 := hBx.below (show Below _ _ w13 by (repeat (first | exact bl_refl | assumption | (apply bl_then; assumption) | refine bl_alloc ?_ _ | refine bl_drew ?_ | refine bl_drewN ?_ _)))
  have hKn13 := hKn7.below (show Below _ _ w13 by (repeat (first | exact bl_refl | assumption | (apply bl_then; assumption) | refine bl_alloc ?_ _ | refine bl_drew ?_ | refine bl_drewN ?_ _)))
  have hM13 := hM11.below (show Below _ _ w13 by (repeat (first | exact bl_refl | assumption | (apply bl_then; assumption) | refine bl_alloc ?_ _ | refine bl_drew ?_ | refine bl_drewN ?_ _)))
  have hbw13 : Below w.heap.size w w13 := by (repeat (first | exact bl_refl | assumption | (apply bl_then; assumption) | refine bl_alloc ?_ _ | refine bl_drew ?_ | refine bl_drewN ?_ _))
  clear hC10 hb10 hb11 hb12 hb13 hBx hKn7 hK7 hM11 fK hbc
  by_cases hk : knotE x y = 0
  · have e1 : degE l x y = 0 := by unfold degE; rw [HE.out, hk]; rfl
    have e2 : degR l x y = degN l (x, y) := by unfold degR; rw [if_pos e1]
    obtain rfl : 0 = F := e1.symm.trans HDF.out.2
    obtain rfl : degN l (x, y) = D := e2.symm.trans HDF.out.1
    have t2 : (knotE x y != 0) = false := by simp [hk]
    have t3 : (knotE x y == 0) = true := by simp [hk]
    clear e1 e2 HDF hk
    go_wp2_with fail
    refine (rd _ (by (repeat (first | exact bl_refl | assumption | (apply bl_then; assumption) | refine bl_alloc ?_ _ | refine bl_drew ?_ | refine bl_drewN ?_ _)))).mono ?_
    rintro e w14 ⟨rfl, hb14⟩
    replace hBx13 := hBx13.below hb14
    have fBx := hBx13.facts
    go_wp2
    refine wp_region_ords [0, 1, 2, 3, 4, 5, 6, 7, 8] [(9, false), (10, false), (11, false), (12, false), (13, true), (14, false), (15, false), (16, false), (17, false), (18, false), (19, true), (21, true), (20, false)] [22, 23, 24, 25] (by kernel_rfl) (by kernel_rfl) (fun d _ _ _ _ h => by cases d <;> exact h) ?_
    simp only [List.map_cons, List.map_nil, List.getD_cons_zero, List.getD_cons_succ]
    repeat (go_big_quiet_step (fail))
    refine wpQuiet_nil ?_
    refine wpMid_run rfl (fun K hK => ?_)
    go_simp
    refine (rk _ (by (repeat (first | exact bl_refl | assumption | (apply bl_then; assumption) | refine bl_alloc ?_ _ | refine bl_drew ?_ | refine bl_drewN ?_ _)))).mono ?_
    rintro e w15 ⟨v15, rfl, hR15, hb15⟩
    refine hK _ _ (by (repeat (first | exact bl_refl | assumption | (apply bl_then; assumption) | refine bl_alloc ?_ _ | refine bl_drew ?_ | refine bl_drewN ?_ _))) ?_
    clear hK K
    have hBx13_w15 := hBx13.below (show Below _ _ w15 by (repeat (first | exact bl_refl | assumption | (apply bl_then; assumption) | refine bl_alloc ?_ _ | refine bl_drew ?_ | refine bl_drewN ?_ _)))
    have fhBx13_w15 := hBx13_w15.facts
    refine wpMid_run rfl (fun K hK => ?_)
    go_simp
    refine (aSameK _ _ _ (hKn13.below (by (repeat (first | exact bl_refl | assumption | (apply bl_then; assumption) | refine bl_alloc ?_ _ | refine bl_drew ?_ | refine bl_drewN ?_ _)))) (hR15.rd kc_len) rfl).mono ?_
    rintro e w16 ⟨rfl, hb16⟩
    refine hK _ _ (by (repeat (first | exact bl_refl | assumption | (apply bl_then; assumption) | refine bl_alloc ?_ _ | refine bl_drew ?_ | refine bl_drewN ?_ _))) ?_
    clear hK K
    have hBx13_w15_w16 := hBx13_w15.below (show Below _ _ w16 by (repeat (first | exact bl_refl | assumption | (apply bl_then; assumption) | refine bl_alloc ?_ _ | refine bl_drew ?_ | refine bl_drewN ?_ _)))
    have fhBx13_w15_w16 := hBx13_w15_w16.facts
    refine wpMid_run rfl (fun K hK => ?_)
    go_simp
    refine hK _ _ (by (repeat (first | exact bl_refl | assumption | (apply bl_then; assumption) | refine bl_alloc ?_ _ | refine bl_drew ?_ | refine bl_drewN ?_ _))) ?_
    clear hK K
    refine wpMid_run rfl (fun K hK => ?_)
    go_simp
    refine hK _ _ (by (repeat (first | exact bl_refl | assumption | (apply bl_then; assumption) | refine bl_alloc ?_ _ | refine bl_drew ?_ | refine bl_drewN ?_ _))) ?_
    clear hK K
    refine wpMid_take rfl ?_
    intro K hK
    go_big_quiet_op
    go_big_quiet_on
    refine wpMid_run rfl (fun K hK => ?_)
    go_simp
    refine hK _ _ (by (repeat (first | exact bl_refl | assumption | (apply bl_then; assumption) | refine bl_alloc ?_ _ | refine bl_drew ?_ | refine bl_drewN ?_ _))) ?_
    clear hK K
    refine wpMid_run rfl (fun K hK => ?_)
    go_simp
    refine (rl _ (by (repeat (first | exact bl_refl | assumption | (apply bl_then; assumption) | refine bl_alloc ?_ _ | refine bl_drew ?_ | refine bl_drewN ?_ _)))).mono ?_
    rintro e w17 ⟨rfl, hb17⟩
    refine hK _ _ (by (repeat (first | exact bl_refl | assumption | (apply bl_then; assumption) | refine bl_alloc ?_ _ | refine bl_drew ?_ | refine bl_drewN ?_ _))) ?_
    clear hK K
    have hBx13_w15_w16_w17 := hBx13_w15_w16.below (show Below _ _ w17 by (repeat (first | exact bl_refl | assumption | (apply bl_then; assumption) | refine bl_alloc ?_ _ | refine bl_drew ?_ | refine bl_drewN ?_ _)))
    have fhBx13_w15_w16_w17 := hBx13_w15_w16_w17.facts
    refine wpMid_run rfl (fun K hK => ?_)
    go_simp
    refine hK _ _ (by (repeat (first | exact bl_refl | assumption | (apply bl_then; assumption) | refine bl_alloc ?_ _ | refine bl_drew ?_ | refine bl_drewN ?_ _))) ?_
    clear hK K
    refine wpMid_run rfl (fun K hK => ?_)
    go_simp
    refine hK _ _ (by (repeat (first | exact bl_refl | assumption | (apply bl_then; assumption) | refine bl_alloc ?_ _ | refine bl_drew ?_ | refine bl_drewN ?_ _))) ?_
    clear hK K
    refine wpMid_run rfl (fun K hK => ?_)
    go_simp
    refine hK _ _ (by (repeat (first | exact bl_refl | assumption | (apply bl_then; assumption) | refine bl_alloc ?_ _ | refine bl_drew ?_ | refine bl_drewN ?_ _))) ?_
    clear hK K
    refine wpMid_take rfl ?_
    intro K hK
    go_big_quiet_op
    go_big_quiet_on
    refine wpMid_take rfl ?_
    intro K hK
    go_big_quiet_op
    go_big_quiet_on
    refine wpMid_run rfl (fun K hK => ?_)
    go_simp
    refine (lmeshes_any _ _ (hM13.below (by (repeat (first | exact bl_refl | assumption | (apply bl_then; assumption) | refine bl_alloc ?_ _ | refine bl_drew ?_ | refine bl_drewN ?_ _)))) (by omega)).mono ?_
    rintro e w18 ⟨v18, rfl, hM18, hb18⟩
    refine hK _ _ (by (repeat (first | exact bl_refl | assumption | (apply bl_then; assumption) | refine bl_alloc ?_ _ | refine bl_drew ?_ | refine bl_drewN ?_ _))) ?_
    clear hK K
    refine wpMid_nil ?_
    go_wp2_with fail
    refine (rm _ (by (repeat (first | exact bl_refl | assumption | (apply bl_then; assumption) | refine bl_alloc ?_ _ | refine bl_drew ?_ | refine bl_drewN ?_ _)))).mono ?_
    rintro e w19 ⟨v19, rfl, hM19, hb19⟩
    go_wp2_with fail
    refine (aSameM _ _ _ ((hM18.rd kc_len).below (by (repeat (first | exact bl_refl | assumption | (apply bl_then; assumption) | refine bl_alloc ?_ _ | refine bl_drew ?_ | refine bl_drewN ?_ _)))) (hM19.rd kc_len) rfl).mono ?_
    rintro e w20 ⟨rfl, hb20⟩
    go_wp2
    go_ret
    exact ⟨rfl, by (repeat (first | exact bl_refl | assumption | (apply bl_then; assumption) | refine bl_alloc ?_ _ | refine bl_drew ?_ | refine bl_drewN ?_ _))⟩
  · obtain ⟨e1, e2⟩ := deg_err2 HE.out hk
    obtain rfl : knotE x y = F := e1.symm.trans HDF.out.2
    obtain rfl : 0 = D := e2.symm.trans HDF.out.1
    have t2 : (knotE x y != 0) = true := by simp [hk]
    have t3 : (knotE x y == 0) = false := by simp [hk]
    clear e1 e2 HDF hk
    have fBx := hBx13.facts
    go_wp2
    refine wp_region_ords [0, 1, 2, 3, 4, 5, 6, 7, 8] [(9, false), (10, false), (11, false), (12, false), (13, true), (14, false), (15, false), (16, false), (17, false), (18, false), (19, true), (21, true), (20, false)] [22, 23, 24, 25] (by kernel_rfl) (by kernel_rfl) (fun d _ _ _ _ h => by cases d <;> exact h) ?_
    simp only [List.map_cons, List.map_nil, List.getD_cons_zero, List.getD_cons_succ]
    repeat (go_big_quiet_step (fail))
    refine wpQuiet_nil ?_
    refine wpMid_run rfl (fun K hK => ?_)
    go_simp
    refine (rk _ (by (repeat (first | exact bl_refl | assumption | (apply bl_then; assumption) | refine bl_alloc ?_ _ | refine bl_drew ?_ | refine bl_drewN ?_ _)))).mono ?_
    rintro e w15 ⟨v15, rfl, hR15, hb15⟩
    refine hK _ _ (by (repeat (first | exact bl_refl | assumption | (apply bl_then; assumption) | refine bl_alloc ?_ _ | refine bl_drew ?_ | refine bl_drewN ?_ _))) ?_
    clear hK K
    have hBx13_w15 := hBx13.below (show Below _ _ w15 by (repeat (first | exact bl_refl | assumption | (apply bl_then; assumption) | refine bl_alloc ?_ _ | refine bl_drew ?_ | refine bl_drewN ?_ _)))
    have fhBx13_w15 := hBx13_w15.facts
    refine wpMid_run rfl (fun K hK => ?_)
    go_simp
    refine (aSameK _ _ _ (hKn13.below (by (repeat (first | exact bl_refl | assumption | (apply bl_then; assumption) | refine bl_alloc ?_ _ | refine bl_drew ?_ | refine bl_drewN ?_ _)))) (hR15.rd kc_len) rfl).mono ?_
    rintro e w16 ⟨rfl, hb16⟩
    refine hK _ _ (by (repeat (first | exact bl_refl | assumption | (apply bl_then; assumption) | refine bl_alloc ?_ _ | refine bl_drew ?_ | refine bl_drewN ?_ _))) ?_
    clear hK K
    have hBx13_w15_w16 := hBx13_w15.below (show Below _ _ w16 by (repeat (first | exact bl_refl | assumption | (apply bl_then; assumption) | refine bl_alloc ?_ _ | refine bl_drew ?_ | refine bl_drewN ?_ _)))
    have fhBx13_w15_w16 := hBx13_w15_w16.facts
    refine wpMid_run rfl (fun K hK => ?_)
    go_simp
    refine hK _ _ (by (repeat (first | exact bl_refl | assumption | (apply bl_then; assumption) | refine bl_alloc ?_ _ | refine bl_drew ?_ | refine bl_drewN ?_ _))) ?_
    clear hK K
    refine wpMid_run rfl (fun K hK => ?_)
    go_simp
    refine hK _ _ (by (repeat (first | exact bl_refl | assumption | (apply bl_then; assumption) | refine bl_alloc ?_ _ | refine bl_drew ?_ | refine bl_drewN ?_ _))) ?_
    clear hK K
    refine wpMid_take rfl ?_
    intro K hK
    go_big_quiet_op
    go_big_quiet_on
    refine wpMid_run rfl (fun K hK => ?_)
    go_simp
    refine hK _ _ (by (repeat (first | exact bl_refl | assumption | (apply bl_then; assumption) | refine bl_alloc ?_ _ | refine bl_drew ?_ | refine bl_drewN ?_ _))) ?_
    clear hK K
    refine wpMid_run rfl (fun K hK => ?_)
    go_simp
    refine (rl _ (by (repeat (first | exact bl_refl | assumption | (apply bl_then; assumption) | refine bl_alloc ?_ _ | refine bl_drew ?_ | refine bl_drewN ?_ _)))).mono ?_
    rintro e w17 ⟨rfl, hb17⟩
    refine hK _ _ (by (repeat (first | exact bl_refl | assumption | (apply bl_then; assumption) | refine bl_alloc ?_ _ | refine bl_drew ?_ | refine bl_drewN ?_ _))) ?_
    clear hK K
    have hBx13_w15_w16_w17 := hBx13_w15_w16.below (show Below _ _ w17 by (repeat (first | exact bl_refl | assumption | (apply bl_then; assumption) | refine bl_alloc ?_ _ | refine bl_drew ?_ | refine bl_drewN ?_ _)))
    have fhBx13_w15_w16_w17 := hBx13_w15_w16_w17.facts
    refine wpMid_run rfl (fun K hK => ?_)
    go_simp
    refine hK _ _ (by (repeat (first | exact bl_refl | assumption | (apply bl_then; assumption) | refine bl_alloc ?_ _ | refine bl_drew ?_ | refine bl_drewN ?_ _))) ?_
    clear hK K
    refine wpMid_run rfl (fun K hK => ?_)
    go_simp
    refine hK _ _ (by (repeat (first | exact bl_refl | assumption | (apply bl_then; assumption) | refine bl_alloc ?_ _ | refine bl_drew ?_ | refine bl_drewN ?_ _))) ?_
    clear hK K
    refine wpMid_run rfl (fun K hK => ?_)
    go_simp
    refine hK _ _ (by (repeat (first | exact bl_refl | assumption | (apply bl_then; assumption) | refine bl_alloc ?_ _ | refine bl_drew ?_ | refine bl_drewN ?_ _))) ?_
    clear hK K
    refine wpMid_take rfl ?_
    intro K hK
    go_big_quiet_op
    go_big_quiet_on
    refine wpMid_take rfl ?_
    intro K hK
    go_big_quiet_op
    go_big_quiet_on
    refine wpMid_run rfl (fun K hK => ?_)
    go_simp
    refine (lmeshes_any _ _ (hM13.below (by (repeat (first | exact bl_refl | assumption | (apply bl_then; assumption) | refine bl_alloc ?_ _ | refine bl_drew ?_ | refine bl_drewN ?_ _)))) (by omega)).mono ?_
    rintro e w18 ⟨v18, rfl, hM18, hb18⟩
    refine hK _ _ (by (repeat (first | exact bl_refl | assumption | (apply bl_then; assumption) | refine bl_alloc ?_ _ | refine bl_drew ?_ | refine bl_drewN ?_ _))) ?_
    clear hK K
    refine wpMid_nil ?_
    go_wp2_with fail
    refine (rm _ (by (repeat (first | exact bl_refl | assumption | (apply bl_then; assumption) | refine bl_alloc ?_ _ | refine bl_drew ?_ | refine bl_drewN ?_ _)))).mono ?_
    rintro e w19 ⟨v19, rfl, hM19, hb19⟩
    go_wp2_with fail
    refine (aSameM _ _ _ ((hM18.rd kc_len).below (by (repeat (first | exact bl_refl | assumption | (apply bl_then; assumption) | refine bl_alloc ?_ _ | refine bl_drew ?_ | refine bl_drewN ?_ _)))) (hM19.rd kc_len) rfl).mono ?_
    rintro e w20 ⟨rfl, hb20⟩
    go_wp2
    go_ret
    exact ⟨rfl, by (repeat (first | exact bl_refl | assumption | (apply bl_then; assumption) | refine bl_alloc ?_ _ | refine bl_drew ?_ | refine bl_drewN ?_ _))⟩
end Go.Proofs.YtkmjcoofkgpanaaGreatDoor

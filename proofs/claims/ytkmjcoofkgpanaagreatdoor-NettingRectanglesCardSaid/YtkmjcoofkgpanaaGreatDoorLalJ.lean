/- NettingAlgebra: the law, walked. Conditions: the variables are laid. -/
import Derived.Test.YtkmjcoofkgpanaaGreatDoorB21
import Derived.Test.YtkmjcoofkgpanaaGreatDoorLseJ
namespace Go.Proofs.YtkmjcoofkgpanaaGreatDoor
open Go.RowKit Go.ChangeMaps
set_option maxHeartbeats 4000000
set_option maxRecDepth 100000

theorem two_zero {a b : List Bar} (ha : netE a = 0) (hb : netE b = 0) : twoE a b = 0 := by unfold twoE; rw [ha, hb]; rfl
theorem aUnion {v u : Value} (a b : List Bar) (w : World) (h : SlB w v a) (h' : SlB w u b) (ha : netE a = 0) (hb : netE b = 0) (hl : a.length + b.length ≤ 4096) : Calls Tryz.prog 50 #[v, u] w (RBE w (setB (a ++ b)) 0) := by
  have hul : (setB (a ++ b)).length ≤ 4096 := by have := setB_len (a ++ b); simp at this; omega
  obtain ⟨e1, e2⟩ := put_zero (two_zero ha hb) (merge_union (netE_ok ha).sorted (netE_ok hb).sorted) hul
  have := apiUnion_any a b w h h'
  rwa [e1, e2] at this
theorem aMinus {v u : Value} (a b : List Bar) (w : World) (h : SlB w v a) (h' : SlB w u b) (ha : netE a = 0) (hb : netE b = 0) : Calls Tryz.prog 37 #[v, u] w (RBE w (wout a b) 0) := by
  obtain ⟨e1, e2⟩ := put_zero (two_zero ha hb) (merge_minus (netE_ok ha).sorted (netE_ok hb).sorted) (Nat.le_trans (wout_le a b) (netE_ok ha).len)
  have := apiMinus_any a b w h h'
  rwa [e1, e2] at this
theorem aMeet {v u : Value} (a b : List Bar) (w : World) (h : SlB w v a) (h' : SlB w u b) (ha : netE a = 0) (hb : netE b = 0) : Calls Tryz.prog 51 #[v, u] w (RBE w (meetL a b) 0) := by
  obtain ⟨e1, e2⟩ := put_zero (two_zero ha hb) (merge_meet (netE_ok ha).sorted (netE_ok hb).sorted) (Nat.le_trans (meetL_le a b) (netE_ok ha).len)
  have := apiMeet_any a b w h h'
  rwa [e1, e2] at this
theorem aDegree {v : Value} (a : List Bar) (x y : Int) (w : World) (h : SlB w v a) (ha : netE a = 0) (hk : knotE x y = 0) : Calls Tryz.prog 40 #[v, .agg #[.int .i64 x, .int .i64 y]] w (RV w (.tuple #[.int .i64 (degN a (x, y) : Nat), .int .i64 0])) := by
  have e1 : degE a x y = 0 := by unfold degE; rw [ha, hk]; rfl
  have e2 : degR a x y = degN a (x, y) := by unfold degR; rw [if_pos e1]
  have := degree_any a x y w h
  rwa [e1, e2] at this
theorem aNet {v : Value} (a : List Bar) (w : World) (h : SlB w v a) (ha : netE a = 0) : Calls Tryz.prog 25 #[v] w (RV w (.int .i64 0)) := by
  have := rnet_sl a w h
  rwa [ha] at this
theorem aSame {v u : Value} (a b : List Bar) (w : World) (h : SlB w v a) (h' : SlB w u b) (e : a = b) : Calls Tryz.prog 35 #[v, u] w (RV w (.bool true)) := by
  have := sameBars_any a b w h h'
  rwa [decide_eq_true e] at this
theorem netE_union {a b : List Bar} (ha : netE a = 0) (hb : netE b = 0) (hl : a.length + b.length ≤ 4096) : netE (setB (a ++ b)) = 0 := by
  refine netE_zero (fun x hx => ?_) (setB_sorted _) (by have := setB_len (a ++ b); simp at this; omega)
  rw [setB_mem, List.mem_append] at hx
  rcases hx with hx | hx
  · exact netE_bars ha x hx
  · exact netE_bars hb x hx
theorem netE_meet {a b : List Bar} (ha : netE a = 0) : netE (meetL a b) = 0 := netE_sub ha ((netE_ok ha).sorted.filter _) fun x hx => ((meet_mem a b x).1 hx).1
theorem netE_wout {a b : List Bar} (ha : netE a = 0) : netE (wout a b) = 0 := netE_sub ha ((netE_ok ha).sorted.filter _) fun x hx => ((wout_mem a b x).1 hx).1
theorem degN_small (l : List Bar) (k : Knot) : degN l k ≤ 2 * l.length := by
  have h1 : (endsL l).count k ≤ (endsL l).length := List.count_le_length
  rw [endsL_len] at h1
  exact h1
theorem nettingAlgebra_any (a b : List Bar) (x y : Int) (w : World) {v u : Value} (h : SlB w v a) (h' : SlB w u b) (hL : Lay w) : Calls Tryz.prog 14 #[v, u, .agg #[.int .i64 x, .int .i64 y]] w (RV w (.bool true)) := by
  have ca := fun W (hb : Below w.heap.size w W) => awake_any W (hL.below hb)
  have hK := Blk.new w 23 #[.int .i64 x, .int .i64 y]
  have hA := h
  have hB := h'
  obtain ⟨A0, c0, rfl, _, _, _⟩ := h
  obtain ⟨A1, c1, rfl, _, _, _⟩ := h'
  by_cases h1 : 30 < a.length
  · have t1 : (30 < (a.length : Int)) = True := eq_true (by omega)
    clear h1
    go_enter Tryz.func14, Tryz.ntmps14
    go_wp2_with fail
    refine (ca _ (by (repeat (first | exact bl_refl | assumption | (apply bl_then; assumption) | refine bl_alloc ?_ _ | refine bl_drew ?_ | refine bl_drewN ?_ _)))).mono ?_
    rintro e w1 ⟨rfl, hb1⟩
    go_wp2_with fail
    refine (ca _ (by (repeat (first | exact bl_refl | assumption | (apply bl_then; assumption) | refine bl_alloc ?_ _ | refine bl_drew ?_ | refine bl_drewN ?_ _)))).mono ?_
    rintro e w2 ⟨rfl, hb2⟩
    go_wp2
    go_ret
    exact ⟨rfl, by (repeat (first | exact bl_refl | assumption | (apply bl_then; assumption) | refine bl_alloc ?_ _ | refine bl_drew ?_ | refine bl_drewN ?_ _))⟩
  have t1 : (30 < (a.length : Int)) = False := eq_false (by omega)
  by_cases h2 : 30 < b.length
  · have t2 : (30 < (b.length : Int)) = True := eq_true (by omega)
    clear h1 h2
    go_enter Tryz.func14, Tryz.ntmps14
    go_wp2_with fail
    refine (ca _ (by (repeat (first | exact bl_refl | assumption | (apply bl_then; assumption) | refine bl_alloc ?_ _ | refine bl_drew ?_ | refine bl_drewN ?_ _)))).mono ?_
    rintro e w1 ⟨rfl, hb1⟩
    go_wp2_with fail
    refine (ca _ (by (repeat (first | exact bl_refl | assumption | (apply bl_then; assumption) | refine bl_alloc ?_ _ | refine bl_drew ?_ | refine bl_drewN ?_ _)))).mono ?_
    rintro e w2 ⟨rfl, hb2⟩
    go_wp2
    go_ret
    exact ⟨rfl, by (repeat (first | exact bl_refl | assumption | (apply bl_then; assumption) | refine bl_alloc ?_ _ | refine bl_drew ?_ | refine bl_drewN ?_ _))⟩
  have t2 : (30 < (b.length : Int)) = False := eq_false (by omega)
  by_cases h3 : netE a = 0
  rotate_left
  · have t3 : (netE a != 0) = true := by simp [h3]
    clear h1 h2 h3
    go_enter Tryz.func14, Tryz.ntmps14
    go_wp2_with fail
    refine (ca _ (by (repeat (first | exact bl_refl | assumption | (apply bl_then; assumption) | refine bl_alloc ?_ _ | refine bl_drew ?_ | refine bl_drewN ?_ _)))).mono ?_
    rintro e w1 ⟨rfl, hb1⟩
    go_wp2_with fail
    refine (rnet_sl a _ (hA.below (by (repeat (first | exact bl_refl | assumption | (apply bl_then; assumption) | refine bl_alloc ?_ _ | refine bl_drew ?_ | refine bl_drewN ?_ _))))).mono ?_
    rintro e w2 ⟨rfl, hb2⟩
    go_wp2_with fail
    refine (ca _ (by (repeat (first | exact bl_refl | assumption | (apply bl_then; assumption) | refine bl_alloc ?_ _ | refine bl_drew ?_ | refine bl_drewN ?_ _)))).mono ?_
    rintro e w3 ⟨rfl, hb3⟩
    go_wp2
    go_ret
    exact ⟨rfl, by (repeat (first | exact bl_refl | assumption | (apply bl_then; assumption) | refine bl_alloc ?_ _ | refine bl_drew ?_ | refine bl_drewN ?_ _))⟩
  by_cases h4 : netE b = 0
  rotate_left
  · have t4 : (netE b != 0) = true := by simp [h4]
    have H3 := Lib.hid h3
    clear h1 h2 h3 h4
    go_enter Tryz.func14, Tryz.ntmps14
    go_wp2_with fail
    refine (ca _ (by (repeat (first | exact bl_refl | assumption | (apply bl_then; assumption) | refine bl_alloc ?_ _ | refine bl_drew ?_ | refine bl_drewN ?_ _)))).mono ?_
    rintro e w1 ⟨rfl, hb1⟩
    go_wp2_with fail
    refine (aNet a _ (hA.below (by (repeat (first | exact bl_refl | assumption | (apply bl_then; assumption) | refine bl_alloc ?_ _ | refine bl_drew ?_ | refine bl_drewN ?_ _)))) H3.out).mono ?_
    rintro e w2 ⟨rfl, hb2⟩
    go_wp2_with fail
    refine (rnet_sl b _ (hB.below (by (repeat (first | exact bl_refl | assumption | (apply bl_then; assumption) | refine bl_alloc ?_ _ | refine bl_drew ?_ | refine bl_drewN ?_ _))))).mono ?_
    rintro e w3 ⟨rfl, hb3⟩
    go_wp2_with fail
    refine (ca _ (by (repeat (first | exact bl_refl | assumption | (apply bl_then; assumption) | refine bl_alloc ?_ _ | refine bl_drew ?_ | refine bl_drewN ?_ _)))).mono ?_
    rintro e w4 ⟨rfl, hb4⟩
    go_wp2
    go_ret
    exact ⟨rfl, by (repeat (first | exact bl_refl | assumption | (apply bl_then; assumption) | refine bl_alloc ?_ _ | refine bl_drew ?_ | refine bl_drewN ?_ _))⟩
  have H3 := Lib.hid h3
  have H4 := Lib.hid h4
  by_cases h5 : knotE x y = 0
  rotate_left
  · have t5 : (knotE x y != 0) = true := by simp [h5]
    clear h1 h2 h3 h4 h5
    go_enter Tryz.func14, Tryz.ntmps14
    go_wp2_with fail
    refine (ca _ (by (repeat (first | exact bl_refl | assumption | (apply bl_then; assumption) | refine bl_alloc ?_ _ | refine bl_drew ?_ | refine bl_drewN ?_ _)))).mono ?_
    rintro e w1 ⟨rfl, hb1⟩
    go_wp2_with fail
    refine (aNet a _ (hA.below (by (repeat (first | exact bl_refl | assumption | (apply bl_then; assumption) | refine bl_alloc ?_ _ | refine bl_drew ?_ | refine bl_drewN ?_ _)))) H3.out).mono ?_
    rintro e w2 ⟨rfl, hb2⟩
    go_wp2_with fail
    refine (aNet b _ (hB.below (by (repeat (first | exact bl_refl | assumption | (apply bl_then; assumption) | refine bl_alloc ?_ _ | refine bl_drew ?_ | refine bl_drewN ?_ _)))) H4.out).mono ?_
    rintro e w3 ⟨rfl, hb3⟩
    have fK := (hK.below (show Below _ _ w3 by (repeat (first | exact bl_refl | assumption | (apply bl_then; assumption) | refine bl_alloc ?_ _ | refine bl_drew ?_ | refine bl_drewN ?_ _)))).facts
    go_wp2_with fail
    refine (rknot_any x y _).mono ?_
    rintro e w4 ⟨rfl, hb4⟩
    go_wp2_with fail
    refine (ca _ (by (repeat (first | exact bl_refl | assumption | (apply bl_then; assumption) | refine bl_alloc ?_ _ | refine bl_drew ?_ | refine bl_drewN ?_ _)))).mono ?_
    rintro e w5 ⟨rfl, hb5⟩
    go_wp2
    go_ret
    exact ⟨rfl, by (repeat (first | exact bl_refl | assumption | (apply bl_then; assumption) | refine bl_alloc ?_ _ | refine bl_drew ?_ | refine bl_drewN ?_ _))⟩
  have hu : netE (setB (a ++ b)) = 0 := netE_union h3 h4 (by omega)
  have hv : netE (setB (b ++ a)) = 0 := netE_union h4 h3 (by omega)
  have hm : netE (meetL a b) = 0 := netE_meet h3
  have hn : netE (wout a b) = 0 := netE_wout h3
  have hul := union_len (netE_ok h3).nodup (netE_ok h4).nodup
  have hul2 : (setB (a ++ b)).length ≤ a.length + b.length := by have := setB_len (a ++ b); simpa using this
  have hwl := wout_le a b
  have hml := meetL_le a b
  have hdg := deg_union (netE_ok h3).nodup (netE_ok h4).nodup (x, y)
  have d1 := degN_small a (x, y)
  have d2 := degN_small b (x, y)
  have d3 := degN_small (setB (a ++ b)) (x, y)
  have d4 := degN_small (meetL a b) (x, y)
  obtain ⟨nu, hnu⟩ : ∃ n, (setB (a ++ b)).length = n := ⟨_, rfl⟩
  obtain ⟨nm, hnm⟩ : ∃ n, (meetL a b).length = n := ⟨_, rfl⟩
  rw [hnu] at hul hul2 d3
  rw [hnm] at hul hml d4
  have HNU := Lib.hid hnu
  have HNM := Lib.hid hnm
  obtain ⟨p1, hp1⟩ : ∃ n, degN a (x, y) = n := ⟨_, rfl⟩
  obtain ⟨p2, hp2⟩ : ∃ n, degN b (x, y) = n := ⟨_, rfl⟩
  obtain ⟨p3, hp3⟩ : ∃ n, degN (setB (a ++ b)) (x, y) = n := ⟨_, rfl⟩
  obtain ⟨p4, hp4⟩ : ∃ n, degN (meetL a b) (x, y) = n := ⟨_, rfl⟩
  rw [hp1] at hdg d1
  rw [hp2] at hdg d2
  rw [hp3] at hdg d3
  rw [hp4] at hdg d4
  have g1 := fun W z (q : SlB W z a) => aDegree a x y W q h3 h5
  have g2 := fun W z (q : SlB W z b) => aDegree b x y W q h4 h5
  have g3 := fun W z (q : SlB W z (setB (a ++ b))) => aDegree (setB (a ++ b)) x y W q hu h5
  have g4 := fun W z (q : SlB W z (meetL a b)) => aDegree (meetL a b) x y W q hm h5
  rw [hp1] at g1
  rw [hp2] at g2
  rw [hp3] at g3
  rw [hp4] at g4
  have gk := fun W => rknot_any x y W
  rw [h5] at gk
  have u1 := fun W z z' (q : SlB W z a) (q' : SlB W z' b) => aUnion a b W q q' h3 h4 (by omega)
  have u2 := fun W z z' (q : SlB W z b) (q' : SlB W z' a) => aUnion b a W q q' h4 h3 (by omega)
  have u3 := fun W z z' (q : SlB W z a) (q' : SlB W z' b) => aMeet a b W q q' h3 h4
  have u4 := fun W z z' (q : SlB W z b) (q' : SlB W z' a) => aMeet b a W q q' h4 h3
  have u5 := fun W z z' (q : SlB W z a) (q' : SlB W z' b) => aMinus a b W q q' h3 h4
  have u6 := fun W z z' (q : SlB W z (wout a b)) (q' : SlB W z' (meetL a b)) => aUnion (wout a b) (meetL a b) W q q' hn hm (by omega)
  have u7 := fun W z z' (q : SlB W z (wout a b)) (q' : SlB W z' b) => aMeet (wout a b) b W q q' hn h4
  rw [union_back b (netE_ok h3).sorted] at u6
  rw [meet_none] at u7
  have s1 := union_comm a b
  have s2 := meet_comm (netE_ok h3).sorted (netE_ok h4).sorted
  have S1 := Lib.hid s1
  have S2 := Lib.hid s2
  have n1 := fun W z (q : SlB W z (setB (a ++ b))) => aNet _ W q hu
  have n2 := fun W z (q : SlB W z (meetL a b)) => aNet _ W q hm
  have n3 := fun W z (q : SlB W z (wout a b)) => aNet _ W q hn
  have la : a.length ≤ 100000 := by omega
  have lb : b.length ≤ 100000 := by omega
  have lu : (setB (a ++ b)).length ≤ 100000 := by omega
  have lm : (meetL a b).length ≤ 100000 := by omega
  have lw : (wout a b).length ≤ 100000 := by omega
  have t6 : (60 < (nu : Int)) = False := eq_false (by omega)
  have t7 : (nu : Int) + nm = (a.length : Int) + b.length := by omega
  have t8 : (p3 : Int) + p4 = (p1 : Int) + p2 := by omega
  have b1 : nu ≤ 60 := by omega
  have b2 : nm ≤ 60 := by omega
  have b3 : a.length ≤ 30 := by omega
  have b4 : b.length ≤ 30 := by omega
  have b5 : p1 ≤ 120 := by omega
  have b6 : p2 ≤ 120 := by omega
  have b7 : p3 ≤ 120 := by omega
  have b8 : p4 ≤ 120 := by omega
  clear h1 h2 h3 h4 h5 hu hv hm hn s1 s2 hnu hnm hp1 hp2 hp3 hp4 hdg d1 d2 d3 d4 hul hul2 hwl hml
  go_enter Tryz.func14, Tryz.ntmps14
  go_wp2_with fail
  refine (ca _ (by (repeat (first | exact bl_refl | assumption | (apply bl_then; assumption) | refine bl_alloc ?_ _ | refine bl_drew ?_ | refine bl_drewN ?_ _)))).mono ?_
  rintro e w1 ⟨rfl, hb1⟩
  go_wp2_with fail
  refine (aNet a _ (hA.below (by (repeat (first | exact bl_refl | assumption | (apply bl_then; assumption) | refine bl_alloc ?_ _ | refine bl_drew ?_ | refine bl_drewN ?_ _)))) H3.out).mono ?_
  rintro e w2 ⟨rfl, hb2⟩
  go_wp2_with fail
  refine (aNet b _ (hB.below (by (repeat (first | exact bl_refl | assumption | (apply bl_then; assumption) | refine bl_alloc ?_ _ | refine bl_drew ?_ | refine bl_drewN ?_ _)))) H4.out).mono ?_
  rintro e w3 ⟨rfl, hb3⟩
  have fK := (hK.below (show Below _ _ w3 by (repeat (first | exact bl_refl | assumption | (apply bl_then; assumption) | refine bl_alloc ?_ _ | refine bl_drew ?_ | refine bl_drewN ?_ _)))).facts
  go_wp2_with fail
  refine (gk _).mono ?_
  rintro e w4 ⟨rfl, hb4⟩
  go_wp2_with fail
  refine (copied_any a _ (hA.below (by (repeat (first | exact bl_refl | assumption | (apply bl_then; assumption) | refine bl_alloc ?_ _ | refine bl_drew ?_ | refine bl_drewN ?_ _)))) la).mono ?_
  rintro e w5 ⟨v5, rfl, hC5, hb5⟩
  go_wp2_with fail
  refine (copied_any b _ (hB.below (by (repeat (first | exact bl_refl | assumption | (apply bl_then; assumption) | refine bl_alloc ?_ _ | refine bl_drew ?_ | refine bl_drewN ?_ _)))) lb).mono ?_
  rintro e w6 ⟨v6, rfl, hC6, hb6⟩
  go_wp2_with fail
  refine (u1 _ _ _ ((hC5.rd bc_len).below (by (repeat (first | exact bl_refl | assumption | (apply bl_then; assumption) | refine bl_alloc ?_ _ | refine bl_drew ?_ | refine bl_drewN ?_ _)))) (hC6.rd bc_len)).mono ?_
  rintro e w7 ⟨vU, rfl, hU, hb7⟩
  replace hU := hU.rd bc_len
  go_wp2_with fail
  refine (copied_any b _ (hB.below (by (repeat (first | exact bl_refl | assumption | (apply bl_then; assumption) | refine bl_alloc ?_ _ | refine bl_drew ?_ | refine bl_drewN ?_ _)))) lb).mono ?_
  rintro e w8 ⟨v8, rfl, hC8, hb8⟩
  go_wp2_with fail
  refine (copied_any a _ (hA.below (by (repeat (first | exact bl_refl | assumption | (apply bl_then; assumption) | refine bl_alloc ?_ _ | refine bl_drew ?_ | refine bl_drewN ?_ _)))) la).mono ?_
  rintro e w9 ⟨v9, rfl, hC9, hb9⟩
  go_wp2_with fail
  refine (u2 _ _ _ ((hC8.rd bc_len).below (by (repeat (first | exact bl_refl | assumption | (apply bl_then; assumption) | refine bl_alloc ?_ _ | refine bl_drew ?_ | refine bl_drewN ?_ _)))) (hC9.rd bc_len)).mono ?_
  rintro e w10 ⟨vV, rfl, hV, hb10⟩
  replace hV := hV.rd bc_len
  go_wp2_with fail
  refine (copied_any a _ (hA.below (by (repeat (first | exact bl_refl | assumption | (apply bl_then; assumption) | refine bl_alloc ?_ _ | refine bl_drew ?_ | refine bl_drewN ?_ _)))) la).mono ?_
  rintro e w11 ⟨v11, rfl, hC11, hb11⟩
  go_wp2_with fail
  refine (copied_any b _ (hB.below (by (repeat (first | exact bl_refl | assumption | (apply bl_then; assumption) | refine bl_alloc ?_ _ | refine bl_drew ?_ | refine bl_drewN ?_ _)))) lb).mono ?_
  rintro e w12 ⟨v12, rfl, hC12, hb12⟩
  go_wp2_with fail
  refine (u3 _ _ _ ((hC11.rd bc_len).below (by (repeat (first | exact bl_refl | assumption | (apply bl_then; assumption) | refine bl_alloc ?_ _ | refine bl_drew ?_ | refine bl_drewN ?_ _)))) (hC12.rd bc_len)).mono ?_
  rintro e w13 ⟨vM, rfl, hM, hb13⟩
  replace hM := hM.rd bc_len
  go_wp2_with fail
  refine (copied_any b _ (hB.below (by (repeat (first | exact bl_refl | assumption | (apply bl_then; assumption) | refine bl_alloc ?_ _ | refine bl_drew ?_ | refine bl_drewN ?_ _)))) lb).mono ?_
  rintro e w14 ⟨v14, rfl, hC14, hb14⟩
  go_wp2_with fail
  refine (copied_any a _ (hA.below (by (repeat (first | exact bl_refl | assumption | (apply bl_then; assumption) | refine bl_alloc ?_ _ | refine bl_drew ?_ | refine bl_drewN ?_ _)))) la).mono ?_
  rintro e w15 ⟨v15, rfl, hC15, hb15⟩
  go_wp2_with fail
  refine (u4 _ _ _ ((hC14.rd bc_len).below (by (repeat (first | exact bl_refl | assumption | (apply bl_then; assumption) | refine bl_alloc ?_ _ | refine bl_drew ?_ | refine bl_drewN ?_ _)))) (hC15.rd bc_len)).mono ?_
  rintro e w16 ⟨vN, rfl, hN, hb16⟩
  replace hN := hN.rd bc_len
  go_wp2_with fail
  refine (copied_any a _ (hA.below (by (repeat (first | exact bl_refl | assumption | (apply bl_then; assumption) | refine bl_alloc ?_ _ | refine bl_drew ?_ | refine bl_drewN ?_ _)))) la).mono ?_
  rintro e w17 ⟨v17, rfl, hC17, hb17⟩
  go_wp2_with fail
  refine (copied_any b _ (hB.below (by (repeat (first | exact bl_refl | assumption | (apply bl_then; assumption) | refine bl_alloc ?_ _ | refine bl_drew ?_ | refine bl_drewN ?_ _)))) lb).mono ?_
  rintro e w18 ⟨v18, rfl, hC18, hb18⟩
  go_wp2_with fail
  refine (u5 _ _ _ ((hC17.rd bc_len).below (by (repeat (first | exact bl_refl | assumption | (apply bl_then; assumption) | refine bl_alloc ?_ _ | refine bl_drew ?_ | refine bl_drewN ?_ _)))) (hC18.rd bc_len)).mono ?_
  rintro e w19 ⟨vW, rfl, hW, hb19⟩
  replace hW := hW.rd bc_len
  clear hC5 hC6 hC8 hC9 hC11 hC12 hC14 hC15 hC17 hC18
  have hK1 := hK.below (show Below _ _ w19 by (repeat (first | exact bl_refl | assumption | (apply bl_then; assumption) | refine bl_alloc ?_ _ | refine bl_drew ?_ | refine bl_drewN ?_ _)))
  clear fK hK
  replace hU := hU.below (show Below w7.heap.size w7 w19 by (repeat (first | exact bl_refl | assumption | (apply bl_then; assumption) | refine bl_alloc ?_ _ | refine bl_drew ?_ | refine bl_drewN ?_ _)))
  replace hV := hV.below (show Below w10.heap.size w10 w19 by (repeat (first | exact bl_refl | assumption | (apply bl_then; assumption) | refine bl_alloc ?_ _ | refine bl_drew ?_ | refine bl_drewN ?_ _)))
  replace hM := hM.below (show Below w13.heap.size w13 w19 by (repeat (first | exact bl_refl | assumption | (apply bl_then; assumption) | refine bl_alloc ?_ _ | refine bl_drew ?_ | refine bl_drewN ?_ _)))
  replace hN := hN.below (show Below w16.heap.size w16 w19 by (repeat (first | exact bl_refl | assumption | (apply bl_then; assumption) | refine bl_alloc ?_ _ | refine bl_drew ?_ | refine bl_drewN ?_ _)))
  have hbw : Below w.heap.size w w19 := by (repeat (first | exact bl_refl | assumption | (apply bl_then; assumption) | refine bl_alloc ?_ _ | refine bl_drew ?_ | refine bl_drewN ?_ _))
  clear hb1 hb2 hb3 hb4 hb5 hb6 hb7 hb8 hb9 hb10 hb11 hb12 hb13 hb14 hb15 hb16 hb17 hb18 hb19
  have hU0 := hU
  have hM0 := hM
  have hW0 := hW
  obtain ⟨AU, cU, rfl, _, _, _⟩ := hU0
  obtain ⟨AM, cM, rfl, _, _, _⟩ := hM0
  obtain ⟨AW, cW, rfl, _, _, _⟩ := hW0
  rw [HNU.out] at hU
  rw [HNM.out] at hM
  rw [HNU.out, HNM.out]
  go_wp2_with fail
  refine (n1 _ _ hU).mono ?_
  rintro e w20 ⟨rfl, hb20⟩
  go_wp2_with fail
  refine (n2 _ _ (hM.below (by (repeat (first | exact bl_refl | assumption | (apply bl_then; assumption) | refine bl_alloc ?_ _ | refine bl_drew ?_ | refine bl_drewN ?_ _))))).mono ?_
  rintro e w21 ⟨rfl, hb21⟩
  go_wp2_with fail
  refine (n3 _ _ (hW.below (by (repeat (first | exact bl_refl | assumption | (apply bl_then; assumption) | refine bl_alloc ?_ _ | refine bl_drew ?_ | refine bl_drewN ?_ _))))).mono ?_
  rintro e w22 ⟨rfl, hb22⟩
  go_wp2_with fail
  refine (aSame _ _ _ (hU.below (by (repeat (first | exact bl_refl | assumption | (apply bl_then; assumption) | refine bl_alloc ?_ _ | refine bl_drew ?_ | refine bl_drewN ?_ _)))) (hV.below (by (repeat (first | exact bl_refl | assumption | (apply bl_then; assumption) | refine bl_alloc ?_ _ | refine bl_drew ?_ | refine bl_drewN ?_ _)))) S1.out).mono ?_
  rintro e w23 ⟨rfl, hb23⟩
  go_wp2_with fail
  refine (aSame _ _ _ (hM.below (by (repeat (first | exact bl_refl | assumption | (apply bl_then; assumption) | refine bl_alloc ?_ _ | refine bl_drew ?_ | refine bl_drewN ?_ _)))) (hN.below (by (repeat (first | exact bl_refl | assumption | (apply bl_then; assumption) | refine bl_alloc ?_ _ | refine bl_drew ?_ | refine bl_drewN ?_ _)))) S2.out).mono ?_
  rintro e w24 ⟨rfl, hb24⟩
  go_wp2_with fail
  refine (copied_any (wout a b) _ (hW.below (by (repeat (first | exact bl_refl | assumption | (apply bl_then; assumption) | refine bl_alloc ?_ _ | refine bl_drew ?_ | refine bl_drewN ?_ _)))) lw).mono ?_
  rintro e w25 ⟨v25, rfl, hC25, hb25⟩
  go_wp2_with fail
  refine (copied_any (meetL a b) _ (hM.below (by (repeat (first | exact bl_refl | assumption | (apply bl_then; assumption) | refine bl_alloc ?_ _ | refine bl_drew ?_ | refine bl_drewN ?_ _)))) lm).mono ?_
  rintro e w26 ⟨v26, rfl, hC26, hb26⟩
  go_wp2_with fail
  refine (u6 _ _ _ ((hC25.rd bc_len).below (by (repeat (first | exact bl_refl | assumption | (apply bl_then; assumption) | refine bl_alloc ?_ _ | refine bl_drew ?_ | refine bl_drewN ?_ _)))) (hC26.rd bc_len)).mono ?_
  rintro e w27 ⟨vB, rfl, hBk, hb27⟩
  go_wp2_with fail
  refine (copied_any (wout a b) _ (hW.below (by (repeat (first | exact bl_refl | assumption | (apply bl_then; assumption) | refine bl_alloc ?_ _ | refine bl_drew ?_ | refine bl_drewN ?_ _)))) lw).mono ?_
  rintro e w28 ⟨v28, rfl, hC28, hb28⟩
  go_wp2_with fail
  refine (copied_any b _ (hB.below (by (repeat (first | exact bl_refl | assumption | (apply bl_then; assumption) | refine bl_alloc ?_ _ | refine bl_drew ?_ | refine bl_drewN ?_ _)))) lb).mono ?_
  rintro e w29 ⟨v29, rfl, hC29, hb29⟩
  go_wp2_with fail
  refine (u7 _ _ _ ((hC28.rd bc_len).below (by (repeat (first | exact bl_refl | assumption | (apply bl_then; assumption) | refine bl_alloc ?_ _ | refine bl_drew ?_ | refine bl_drewN ?_ _)))) (hC29.rd bc_len)).mono ?_
  rintro e w30 ⟨vO, rfl, hO, hb30⟩
  obtain ⟨AO, cO, rfl⟩ := hO.shape
  have fg3 := (hK1.below (show Below _ _ w30 by (repeat (first | exact bl_refl | assumption | (apply bl_then; assumption) | refine bl_alloc ?_ _ | refine bl_drew ?_ | refine bl_drewN ?_ _)))).facts
  go_wp2
  refine wp_region_ords [0, 2] [(1, false), (3, false), (4, false), (5, true), (6, true), (7, false)] [8] (by kernel_rfl) (by kernel_rfl) (fun d _ _ _ _ h => by cases d <;> exact h) ?_
  simp only [List.map_cons, List.map_nil, List.getD_cons_zero, List.getD_cons_succ]
  repeat (go_big_quiet_step (fail))
  refine wpQuiet_nil ?_
  refine wpMid_run rfl (fun K hK => ?_)
  go_simp
  refine (copied_any (setB (a ++ b)) _ (hU.below (by (repeat (first | exact bl_refl | assumption | (apply bl_then; assumption) | refine bl_alloc ?_ _ | refine bl_drew ?_ | refine bl_drewN ?_ _)))) lu).mono ?_
  rintro e w31 ⟨v31, rfl, hC31, hb31⟩
  refine hK _ _ (by (repeat (first | exact bl_refl | assumption | (apply bl_then; assumption) | refine bl_alloc ?_ _ | refine bl_drew ?_ | refine bl_drewN ?_ _))) ?_
  clear hK K
  refine wpMid_run rfl (fun K hK => ?_)
  go_simp
  refine (g3 _ _ (hC31.rd bc_len)).mono ?_
  rintro e w32 ⟨rfl, hb32⟩
  refine hK _ _ (by (repeat (first | exact bl_refl | assumption | (apply bl_then; assumption) | refine bl_alloc ?_ _ | refine bl_drew ?_ | refine bl_drewN ?_ _))) ?_
  clear hK K
  refine wpMid_run rfl (fun K hK => ?_)
  go_simp
  refine hK _ _ (by (repeat (first | exact bl_refl | assumption | (apply bl_then; assumption) | refine bl_alloc ?_ _ | refine bl_drew ?_ | refine bl_drewN ?_ _))) ?_
  clear hK K
  refine wpMid_take rfl ?_
  intro K hK
  go_big_quiet_op
  go_big_quiet_on
  refine wpMid_take rfl ?_
  intro K hK
  go_big_quiet_op
  go_big_quiet_on
  refine wpMid_run rfl (fun K hK => ?_)
  go_simp
  refine hK _ _ (by (repeat (first | exact bl_refl | assumption | (apply bl_then; assumption) | refine bl_alloc ?_ _ | refine bl_drew ?_ | refine bl_drewN ?_ _))) ?_
  clear hK K
  refine wpMid_nil ?_
  have fg1 := (hK1.below (show Below _ _ w32 by (repeat (first | exact bl_refl | assumption | (apply bl_then; assumption) | refine bl_alloc ?_ _ | refine bl_drew ?_ | refine bl_drewN ?_ _)))).facts
  go_wp2
  refine wp_region_ords [0, 2] [(1, false), (3, false), (4, false), (5, true), (6, true), (7, false)] [8] (by kernel_rfl) (by kernel_rfl) (fun d _ _ _ _ h => by cases d <;> exact h) ?_
  simp only [List.map_cons, List.map_nil, List.getD_cons_zero, List.getD_cons_succ]
  repeat (go_big_quiet_step (fail))
  refine wpQuiet_nil ?_
  refine wpMid_run rfl (fun K hK => ?_)
  go_simp
  refine (copied_any a _ (hA.below (by (repeat (first | exact bl_refl | assumption | (apply bl_then; assumption) | refine bl_alloc ?_ _ | refine bl_drew ?_ | refine bl_drewN ?_ _)))) la).mono ?_
  rintro e w33 ⟨v33, rfl, hC33, hb33⟩
  refine hK _ _ (by (repeat (first | exact bl_refl | assumption | (apply bl_then; assumption) | refine bl_alloc ?_ _ | refine bl_drew ?_ | refine bl_drewN ?_ _))) ?_
  clear hK K
  refine wpMid_run rfl (fun K hK => ?_)
  go_simp
  refine (g1 _ _ (hC33.rd bc_len)).mono ?_
  rintro e w34 ⟨rfl, hb34⟩
  refine hK _ _ (by (repeat (first | exact bl_refl | assumption | (apply bl_then; assumption) | refine bl_alloc ?_ _ | refine bl_drew ?_ | refine bl_drewN ?_ _))) ?_
  clear hK K
  refine wpMid_run rfl (fun K hK => ?_)
  go_simp
  refine hK _ _ (by (repeat (first | exact bl_refl | assumption | (apply bl_then; assumption) | refine bl_alloc ?_ _ | refine bl_drew ?_ | refine bl_drewN ?_ _))) ?_
  clear hK K
  refine wpMid_take rfl ?_
  intro K hK
  go_big_quiet_op
  go_big_quiet_on
  refine wpMid_take rfl ?_
  intro K hK
  go_big_quiet_op
  go_big_quiet_on
  refine wpMid_run rfl (fun K hK => ?_)
  go_simp
  refine hK _ _ (by (repeat (first | exact bl_refl | assumption | (apply bl_then; assumption) | refine bl_alloc ?_ _ | refine bl_drew ?_ | refine bl_drewN ?_ _))) ?_
  clear hK K
  refine wpMid_nil ?_
  have fg2 := (hK1.below (show Below _ _ w34 by (repeat (first | exact bl_refl | assumption | (apply bl_then; assumption) | refine bl_alloc ?_ _ | refine bl_drew ?_ | refine bl_drewN ?_ _)))).facts
  go_wp2
  refine wp_region_ords [0, 2] [(1, false), (3, false), (4, false), (5, true), (6, true), (7, false)] [8] (by kernel_rfl) (by kernel_rfl) (fun d _ _ _ _ h => by cases d <;> exact h) ?_
  simp only [List.map_cons, List.map_nil, List.getD_cons_zero, List.getD_cons_succ]
  repeat (go_big_quiet_step (fail))
  refine wpQuiet_nil ?_
  refine wpMid_run rfl (fun K hK => ?_)
  go_simp
  refine (copied_any b _ (hB.below (by (repeat (first | exact bl_refl | assumption | (apply bl_then; assumption) | refine bl_alloc ?_ _ | refine bl_drew ?_ | refine bl_drewN ?_ _)))) lb).mono ?_
  rintro e w35 ⟨v35, rfl, hC35, hb35⟩
  refine hK _ _ (by (repeat (first | exact bl_refl | assumption | (apply bl_then; assumption) | refine bl_alloc ?_ _ | refine bl_drew ?_ | refine bl_drewN ?_ _))) ?_
  clear hK K
  refine wpMid_run rfl (fun K hK => ?_)
  go_simp
  refine (g2 _ _ (hC35.rd bc_len)).mono ?_
  rintro e w36 ⟨rfl, hb36⟩
  refine hK _ _ (by (repeat (first | exact bl_refl | assumption | (apply bl_then; assumption) | refine bl_alloc ?_ _ | refine bl_drew ?_ | refine bl_drewN ?_ _))) ?_
  clear hK K
  refine wpMid_run rfl (fun K hK => ?_)
  go_simp
  refine hK _ _ (by (repeat (first | exact bl_refl | assumption | (apply bl_then; assumption) | refine bl_alloc ?_ _ | refine bl_drew ?_ | refine bl_drewN ?_ _))) ?_
  clear hK K
  refine wpMid_take rfl ?_
  intro K hK
  go_big_quiet_op
  go_big_quiet_on
  refine wpMid_take rfl ?_
  intro K hK
  go_big_quiet_op
  go_big_quiet_on
  refine wpMid_run rfl (fun K hK => ?_)
  go_simp
  refine hK _ _ (by (repeat (first | exact bl_refl | assumption | (apply bl_then; assumption) | refine bl_alloc ?_ _ | refine bl_drew ?_ | refine bl_drewN ?_ _))) ?_
  clear hK K
  refine wpMid_nil ?_
  have fg4 := (hK1.below (show Below _ _ w36 by (repeat (first | exact bl_refl | assumption | (apply bl_then; assumption) | refine bl_alloc ?_ _ | refine bl_drew ?_ | refine bl_drewN ?_ _)))).facts
  go_wp2
  refine wp_region_ords [0, 2] [(1, false), (3, false), (4, false), (5, true), (6, true), (7, false)] [8] (by kernel_rfl) (by kernel_rfl) (fun d _ _ _ _ h => by cases d <;> exact h) ?_
  simp only [List.map_cons, List.map_nil, List.getD_cons_zero, List.getD_cons_succ]
  repeat (go_big_quiet_step (fail))
  refine wpQuiet_nil ?_
  refine wpMid_run rfl (fun K hK => ?_)
  go_simp
  refine (copied_any (meetL a b) _ (hM.below (by (repeat (first | exact bl_refl | assumption | (apply bl_then; assumption) | refine bl_alloc ?_ _ | refine bl_drew ?_ | refine bl_drewN ?_ _)))) lm).mono ?_
  rintro e w37 ⟨v37, rfl, hC37, hb37⟩
  refine hK _ _ (by (repeat (first | exact bl_refl | assumption | (apply bl_then; assumption) | refine bl_alloc ?_ _ | refine bl_drew ?_ | refine bl_drewN ?_ _))) ?_
  clear hK K
  refine wpMid_run rfl (fun K hK => ?_)
  go_simp
  refine (g4 _ _ (hC37.rd bc_len)).mono ?_
  rintro e w38 ⟨rfl, hb38⟩
  refine hK _ _ (by (repeat (first | exact bl_refl | assumption | (apply bl_then; assumption) | refine bl_alloc ?_ _ | refine bl_drew ?_ | refine bl_drewN ?_ _))) ?_
  clear hK K
  refine wpMid_run rfl (fun K hK => ?_)
  go_simp
  refine hK _ _ (by (repeat (first | exact bl_refl | assumption | (apply bl_then; assumption) | refine bl_alloc ?_ _ | refine bl_drew ?_ | refine bl_drewN ?_ _))) ?_
  clear hK K
  refine wpMid_take rfl ?_
  intro K hK
  go_big_quiet_op
  go_big_quiet_on
  refine wpMid_take rfl ?_
  intro K hK
  go_big_quiet_op
  go_big_quiet_on
  refine wpMid_run rfl (fun K hK => ?_)
  go_simp
  refine hK _ _ (by (repeat (first | exact bl_refl | assumption | (apply bl_then; assumption) | refine bl_alloc ?_ _ | refine bl_drew ?_ | refine bl_drewN ?_ _))) ?_
  clear hK K
  refine wpMid_nil ?_
  go_wp2_with fail
  refine (aSame _ _ _ ((hBk.rd bc_len).below (by (repeat (first | exact bl_refl | assumption | (apply bl_then; assumption) | refine bl_alloc ?_ _ | refine bl_drew ?_ | refine bl_drewN ?_ _)))) (hA.below (by (repeat (first | exact bl_refl | assumption | (apply bl_then; assumption) | refine bl_alloc ?_ _ | refine bl_drew ?_ | refine bl_drewN ?_ _)))) rfl).mono ?_
  rintro e w39 ⟨rfl, hb39⟩
  go_wp2
  go_ret
  exact ⟨rfl, by (repeat (first | exact bl_refl | assumption | (apply bl_then; assumption) | refine bl_alloc ?_ _ | refine bl_drew ?_ | refine bl_drewN ?_ _))⟩
end Go.Proofs.YtkmjcoofkgpanaaGreatDoor

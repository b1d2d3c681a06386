/- BaleShortest, walked. Conditions: the variables are laid. -/
import Derived.Test.YtpcgeihemkhkjaaGreatDoorR42
import Derived.Test.YtpcgeihemkhkjaaGreatDoorR46
import Derived.Test.YtpcgeihemkhkjaaGreatDoorR45
import Derived.Test.YtpcgeihemkhkjaaGreatDoorR48
namespace Go.Proofs.YtpcgeihemkhkjaaGreatDoor
open Go.RowKit Go.ChangeMaps
set_option maxHeartbeats 4000000
set_option maxRecDepth 100000
attribute [local go_sem] Oper.semAt_some
theorem baleShortest_any {v1 : Value} (l : List Pan) (key ways : Int) (w : World) (hl : SlP w v1 l) (hn : ∀ p ∈ l, p.1.length ≤ maxLen) (hk : 0 ≤ key ∧ key ≤ 65535) (hwy : 0 ≤ ways ∧ ways ≤ 65535) (hLay : LayB w) :
  Calls Tryz.prog 3 #[v1, .int .u16 key, .int .u16 ways] w (RV w (.bool true)) := by
 have cAw := fun W' (hb : Below w.heap.size w W') => awake5_any W' (hLay.below hb)
 have cVa := fun W' (hb : Below w.heap.size w W') => l5valid_any l 3 W' (hl.below hb) hn
 obtain ⟨A1, c1, rfl⟩ := slP_shape hl
 obtain ⟨q, hq⟩ : ∃ q, vldP l 3 = q := ⟨_, rfl⟩
 rw [hq] at cVa
 cases q
 ·clear hq hl hn hk hwy
  go_enter Tryz.func3, Tryz.ntmps3
  go_wp2_with fail
  refine (cAw _ (by (repeat first|exact J0|assumption|(apply J1;assumption)|apply J2|apply J3|apply J4))).mono ?_
  rintro e w1 ⟨rfl, hb1⟩
  go_wp2_with fail
  refine (cVa _ (by (repeat first|exact J0|assumption|(apply J1;assumption)|apply J2|apply J3|apply J4))).mono ?_
  rintro e w2 ⟨rfl, hb2⟩
  go_wp2_with fail
  refine (cAw _ (by (repeat first|exact J0|assumption|(apply J1;assumption)|apply J2|apply J3|apply J4))).mono ?_
  rintro e w9 ⟨rfl, hb9⟩
  go_wp2
  go_ret
  exact ⟨rfl, by (repeat first|exact J0|assumption|(apply J1;assumption)|apply J2|apply J3|apply J4)⟩
 obtain ⟨hl3, hsh, hpi⟩ := vld_of hq
 clear hq hn
 by_cases hl0 : l.length = 0
 ·have t1 : ((l.length : Int) == 0) = true := by simp [hl0]
  clear hl0 hl3 hsh hpi hl hk hwy
  go_enter Tryz.func3, Tryz.ntmps3
  go_wp2_with fail
  refine (cAw _ (by (repeat first|exact J0|assumption|(apply J1;assumption)|apply J2|apply J3|apply J4))).mono ?_
  rintro e w1 ⟨rfl, hb1⟩
  go_wp2_with fail
  refine (cVa _ (by (repeat first|exact J0|assumption|(apply J1;assumption)|apply J2|apply J3|apply J4))).mono ?_
  rintro e w2 ⟨rfl, hb2⟩
  go_wp2_with fail
  refine (cAw _ (by (repeat first|exact J0|assumption|(apply J1;assumption)|apply J2|apply J3|apply J4))).mono ?_
  rintro e w9 ⟨rfl, hb9⟩
  go_wp2
  go_ret
  exact ⟨rfl, by (repeat first|exact J0|assumption|(apply J1;assumption)|apply J2|apply J3|apply J4)⟩
 have t1 : ((l.length : Int) == 0) = false := beq_false_of_ne (by omega)
 have hne : l ≠ [] := fun e => hl0 (by rw [e]; rfl)
 have hl3 : l.length ≤ 3 := by omega
 obtain ⟨_, _, hsp⟩ := shortPs_in hsh
 have hP := pcs_of hpi hsp
 have hnm : ∀ p ∈ l, p.1.length ≤ 1000000 := fun p hp => by have := (shortP_words (hsp p hp)).1; omega
 have hwl : ∀ p ∈ l, p.2.2.1.length ≤ 100000 ∧ p.2.2.2.length ≤ 100000 := fun p hp => by
  obtain ⟨_, ⟨h1, _⟩, h2, _⟩ := shortP_words (hsp p hp)
  omega
 obtain ⟨x, n, f1, f2, f3, f4, f5, f6, f7, f8, f9, f10, f11, f12⟩ := short_facts hP hpi hl3 hne
 have ho : Ordr l (ordW l.length key ways) := ordW_ordr hl3 hne
 have f7 := f7 _ ho ordW_zero
 have g1 := ord_both hpi ho ordW_zero
 have g2 := lay_both5 hP hpi ho
 have cGi := fun W' (hb : Below w.heap.size w W') => l5given_any l W' (hl.below hb) (by omega) hwl
 have cOr := fun W' => l5order_any l.length key ways hk hwy (by omega) W'
 have cB1 := fun (v : Value) W' (h : SlP W' v l) => apiBest_any ([98], 256, 2000) l W' h (by simp) hnm (by omega)
 rw [show bstR ([98], 256, 2000) l = _ from f1] at cB1
 have cB2 := fun (v : Value) W' (h : SlP W' v l) => apiBest_any ([98], 256, n) l W' h (by simp) hnm (by omega)
 rw [show bstR ([98], 256, n) l = _ from f11] at cB2
 have HB3 := Lib.hid (fun (hn1 : n ≠ 1) (v : Value) W' (h : SlP W' v l) => show Calls Tryz.prog 10 #[.agg #[.string ⟨#[98]⟩, .int .i64 256, .int .i64 (n - 1)], v] W' (RPB W' ([], 0, 23)) from by
  have := apiBest_any ([98], 256, n - 1) l W' h (by simp) hnm (by omega)
  rwa [show bstR ([98], 256, n - 1) l = _ from f12 hn1] at this)
 have cBo := fun (v : Value) W' (h : SlP W' v l) => apiBound_any ([98], 256, 2000) l W' (by simp) h hnm (by omega)
 rw [show bndE ([98], 256, 2000) l = 0 from f10] at cBo
 have cLa := fun (v u : Value) W' (h : SlP W' v l) (h' : SlL W' u (ordW l.length key ways)) => apiLay_any l (ordW l.length key ways) W' h h' hnm (by omega) (by rw [ordW_len]; omega)
 rw [g1] at cLa
 have cCp := fun (v u : Value) W' (h : SlP W' v l) (h' : SlL W' u x) => apiCheckPlan_any ([98], 256, 2000) l x W' (by simp) h h' hnm (by omega) (by omega)
 rw [show cpnE ([98], 256, 2000) l x = 0 from f3] at cCp
 have cLy := fun (v u : Value) W' (h : SlP W' v l) (h' : SlL W' u (layP l (ordW l.length key ways))) => apiLength_any l (layP l (ordW l.length key ways)) W' h h' hnm (by omega) (by rw [layP_len, ordW_len]; omega)
 rw [g2] at cLy
 have cLx := fun (v u : Value) W' (h : SlP W' v l) (h' : SlL W' u x) => apiLength_any l x W' h h' hnm (by omega) (by omega)
 rw [f5, f6] at cLx
 have cPs := fun (A' : Option Addr) (c' : Nat) W' (h : Rd plc 3 W' A' x) => l5places_any x A' c' W' h (by omega)
 have cSm := fun (A' B' : Option Addr) (c' d' : Nat) W' (h : Rd plc 3 W' A' x) (h' : Rd plc 3 W' B' x) => samePlan_any x x A' B' c' d' W' h h' (by omega) (by omega)
 rw [decide_eq_true (rfl : x = x)] at cSm
 have hon : ∀ z, onlyN 0 z = z := fun _ => rfl
 have hoo : onlyOk 0 (layP l (ordW l.length key ways)) = layP l (ordW l.length key ways) := rfl
 rw [hoo] at cLa
 simp only [hon, sV] at cB1 cB2 cBo cCp cLy cLx
 obtain ⟨o, hoe⟩ : ∃ z, ordW l.length key ways = z := ⟨_, rfl⟩
 rw [hoe] at cOr cLa cLy f7
 obtain ⟨y, hye⟩ : ∃ z, layP l o = z := ⟨_, rfl⟩
 rw [hye] at cLa cLy f7
 obtain ⟨m, hm⟩ : ∃ z, lenP l y = z := ⟨_, rfl⟩
 rw [hm] at cLy f7
 obtain ⟨⟨B1, B2⟩, hB⟩ : ∃ z, boundP ([98], 256, 2000) l = z := ⟨_, rfl⟩
 rw [hB] at cBo
 rw [show boundP (bigB 2000) l = (B1, B2) from hB] at f8 f9
 simp only at cBo f8 f9
 have s1 : (n < 1) = False := eq_false (by omega)
 have s2 : (200 < n) = False := eq_false (by omega)
 have s3 : ((x.length : Int) != (l.length : Int)) = false := by rw [f4]; simp
 have s4 : (m < n) = False := eq_false (by omega)
 have s5 : (n < B1) = False := eq_false (by omega)
 have s6 : (n < B2) = False := eq_false (by omega)
 obtain ⟨n1, n2⟩ := f2
 clear f1 f3 f5 f6 f7 f8 f9 f10 f11 f12 g1 g2 ho hon hoo hoe hye hm hB hP hpi hsh hsp hnm hwl hl hne hl0
 have HX4 := Lib.hid f4
 clear f4
 go_enter Tryz.func3, Tryz.ntmps3
 go_wp2_with fail
 refine (cAw _ (by (repeat first|exact J0|assumption|(apply J1;assumption)|apply J2|apply J3|apply J4))).mono ?_
 rintro e w1 ⟨rfl, hb1⟩
 go_wp2_with fail
 refine (cVa _ (by (repeat first|exact J0|assumption|(apply J1;assumption)|apply J2|apply J3|apply J4))).mono ?_
 rintro e w2 ⟨rfl, hb2⟩
 have hbw2 : Below w.heap.size w w2 := by (repeat first|exact J0|assumption|(apply J1;assumption)|apply J2|apply J3|apply J4)
 clear hb1 hb2
 have hB := Blk.new w2 27 #[.string ⟨#[98]⟩, .int .i64 256, .int .i64 2000]
 obtain ⟨G, hG⟩ : ∃ z, w2.heap.size = z := ⟨_, rfl⟩
 have hGw : w.heap.size ≤ G := by have := hbw2.size; omega
 have hG3 : G < (w2.alloc (.cells #[.string ⟨#[98]⟩, .int .i64 256, .int .i64 2000] 27)).heap.size := by rw [← hG]; exact hB.lt
 go_upto_region 4 with fail
 obtain ⟨w3, hw3⟩ : ∃ X, w2.alloc (.cells #[.string ⟨#[98]⟩, .int .i64 256, .int .i64 2000] 27) = X := ⟨_, rfl⟩
 have hbw3 : Below w.heap.size w w3 := by rw [← hw3]; exact bl_alloc hbw2 _
 rw [hw3] at hB hG3 ⊢
 rw [hG] at hB
 have fhB := hB.facts
 clear hG hw3 hbw2
 refine wp_region_ords [0, 1] [(2, false), (3, false), (4, false), (5, true), (6, true), (7, true), (8, false), (9, false)] [10] (by kernel_rfl) (by kernel_rfl) (fun d _ _ _ _ h => by cases d <;> exact h) ?_
 simp only [List.map_cons, List.map_nil, List.getD_cons_zero, List.getD_cons_succ]
 repeat (go_big_quiet_step (fail))
 refine wpQuiet_nil ?_
 refine wpMid_run rfl (fun K hK => ?_)
 go_simp
 refine (cGi _ (bl_then (by (repeat first|exact J0|assumption|(apply J1;assumption)|apply J2|apply J3|apply J4)) hbw3)).mono ?_
 rintro e w4 ⟨v4, rfl, hS4, hb4⟩
 refine hK _ _ (by (repeat first|exact J0|assumption|(apply J1;assumption)|apply J2|apply J3|apply J4)) ?_
 clear hK K
 refine wpMid_run rfl (fun K hK => ?_)
 go_simp
 refine (cB1 _ _ hS4).mono ?_
 rintro e w5 ⟨v5, rfl, hO5, hb5⟩
 refine hK _ _ (by (repeat first|exact J0|assumption|(apply J1;assumption)|apply J2|apply J3|apply J4)) ?_
 clear hK K
 obtain ⟨A5, c5, rfl⟩ := hO5.shape
 refine wpMid_run rfl (fun K hK => ?_)
 go_simp
 refine hK _ _ (by (repeat first|exact J0|assumption|(apply J1;assumption)|apply J2|apply J3|apply J4)) ?_
 clear hK K
 refine wpMid_take rfl ?_
 intro K hK
 go_big_quiet_op
 go_big_quiet_on
 refine wpMid_take rfl ?_
 intro K hK
 go_big_quiet_op
 go_big_quiet_on
 refine wpMid_take rfl ?_
 intro K hK
 go_big_quiet_op
 go_big_quiet_on
 refine wpMid_run rfl (fun K hK => ?_)
 go_simp
 refine hK _ _ (by (repeat first|exact J0|assumption|(apply J1;assumption)|apply J2|apply J3|apply J4)) ?_
 clear hK K
 refine wpMid_run rfl (fun K hK => ?_)
 go_simp
 refine hK _ _ (by (repeat first|exact J0|assumption|(apply J1;assumption)|apply J2|apply J3|apply J4)) ?_
 clear hK K
 refine wpMid_nil ?_
 have hb35 : Below w3.heap.size w3 w5 := by (repeat first|exact J0|assumption|(apply J1;assumption)|apply J2|apply J3|apply J4)
 have hG4 : G < w4.heap.size := by have := (show Below w3.heap.size w3 w4 by (repeat first|exact J0|assumption|(apply J1;assumption)|apply J2|apply J3|apply J4)).size; omega
 have hB5 := hB.below hb35
 have fB5 := hB5.facts
 have hbw5 := bl_then hb35 hbw3
 clear hb4 hb5 hS4 hB fhB hb35 hbw3 hG3
 go_upto_region 5 with fail
 go_upto_region 5 with fail
 go_cut [11, 12] from 47 ((fun s11 s12 wx => ∃ g, s11 = .pointer (some ⟨g, 0, none⟩) ∧ s12 = .int .i64 0 ∧ Blk wx g 35 #[.int .i64 B1, .int .i64 B2] ∧ Below w5.heap.size w5 wx))
 case first =>
  refine wp_region_tree [0, 1] (.alt (.br 2 (.alt (.br 3 (.take 4 (.take 5 (.take 6 (.alt (.br 7 (.alt (.br 8 (.fin) (.stop))) (.stop)))))) (.br 7 (.alt (.br 3 (.take 4 (.take 5 (.take 6 (.alt (.br 8 (.fin) (.stop)))))) (.stop))) (.stop)))) (.br 7 (.alt (.br 2 (.alt (.br 3 (.take 4 (.take 5 (.take 6 (.alt (.br 8 (.fin) (.stop)))))) (.stop))) (.stop))) (.stop)))) [9] (by kernel_rfl) (by kernel_rfl) (fun d _ _ _ _ h => by cases d <;> exact h) ?_
  simp only [List.map_cons, List.map_nil, List.getD_cons_zero, List.getD_cons_succ]
  repeat (go_big_quiet_step (fail))
  refine wpQuiet_nil ?_
  refine wpTree_alt (wpTree_br rfl rfl ?_ (wpTree_br rfl rfl ?_ wpTree_stop))
  ·intro K hK
   go_simp
   refine (cGi _ (bl_then (by (repeat first|exact J0|assumption|(apply J1;assumption)|apply J2|apply J3|apply J4)) hbw5)).mono ?_
   rintro e w16 ⟨v16, rfl, hS16, hb16⟩
   refine hK _ _ (by (repeat first|exact J0|assumption|(apply J1;assumption)|apply J2|apply J3|apply J4)) ?_
   clear hK K
   refine wpTree_alt (wpTree_br rfl rfl ?_ (wpTree_br rfl rfl ?_ wpTree_stop))
   ·intro K hK
    go_simp
    refine (cBo _ _ (hS16.below (by (repeat first|exact J0|assumption|(apply J1;assumption)|apply J2|apply J3|apply J4)))).mono ?_
    rintro e w17 ⟨rfl, hb17⟩
    refine hK _ _ (by (repeat first|exact J0|assumption|(apply J1;assumption)|apply J2|apply J3|apply J4)) ?_
    clear hK K
    refine wpTree_take rfl rfl ?_; intro K hK; simp only [Array.getD_eq_getD_getElem?, List.getElem?_toArray, List.getElem?_cons_succ, List.getElem?_cons_zero, Option.getD_some]; go_big_quiet_op; go_big_quiet_on
    refine wpTree_take rfl rfl ?_; intro K hK; simp only [Array.getD_eq_getD_getElem?, List.getElem?_toArray, List.getElem?_cons_succ, List.getElem?_cons_zero, Option.getD_some]; go_big_quiet_op; go_big_quiet_on
    refine wpTree_take rfl rfl ?_; intro K hK; simp only [Array.getD_eq_getD_getElem?, List.getElem?_toArray, List.getElem?_cons_succ, List.getElem?_cons_zero, Option.getD_some]; go_big_quiet_op; go_big_quiet_on
    refine wpTree_alt (wpTree_br rfl rfl ?_ wpTree_stop)
    have hS0 := Blk.new (w17) 35 #[.int .i64 0, .int .i64 0]
    intro K hK
    go_simp
    refine hK _ _ (by (repeat first|exact J0|assumption|(apply J1;assumption)|apply J2|apply J3|apply J4)) ?_
    clear hK K
    refine wpTree_alt (wpTree_br rfl rfl ?_ wpTree_stop)
    have hS1 := hS0.below (show Below _ _ (w17.alloc (.cells #[.int .i64 0, .int .i64 0] 35)) by (repeat first|exact J0|assumption|(apply J1;assumption)|apply J2|apply J3|apply J4))
    intro K hK
    simp only [Array.getD_eq_getD_getElem?, List.getElem?_toArray, List.getElem?_cons_succ, List.getElem?_cons_zero, Option.getD_some]
    refine op_store_blk hS1 _ _ _ rfl rfl rfl rfl (by kernel_rfl) (by kernel_rfl) ?_
    intro w7 hS7 hc7
    have hg7 : w5.heap.size ≤ (w17).heap.size := Below.size (show Below w5.heap.size w5 (w17) by (repeat first|exact J0|assumption|(apply J1;assumption)|apply J2|apply J3|apply J4))
    have hb7 : Below w5.heap.size w5 w7 := chg_bl (by (repeat first|exact J0|assumption|(apply J1;assumption)|apply J2|apply J3|apply J4)) hc7 hg7
    refine hK _ _ (chg_bl (by (repeat first|exact J0|assumption|(apply J1;assumption)|apply J2|apply J3|apply J4)) hc7 (by first | exact Nat.le_refl _ | exact hg7)) ?_
    clear hK K
    refine wpTree_fin ?_
    go_wp2_with fail
    go_meet
    case rel => exact ⟨((w17).heap.size), rfl, rfl, hS7, hb7⟩
   ·have hS0 := Blk.new (w16) 35 #[.int .i64 0, .int .i64 0]
    intro K hK
    go_simp
    refine hK _ _ (by (repeat first|exact J0|assumption|(apply J1;assumption)|apply J2|apply J3|apply J4)) ?_
    clear hK K
    refine wpTree_alt (wpTree_br rfl rfl ?_ wpTree_stop)
    intro K hK
    go_simp
    refine (cBo _ _ (hS16.below (by (repeat first|exact J0|assumption|(apply J1;assumption)|apply J2|apply J3|apply J4)))).mono ?_
    rintro e w17 ⟨rfl, hb17⟩
    refine hK _ _ (by (repeat first|exact J0|assumption|(apply J1;assumption)|apply J2|apply J3|apply J4)) ?_
    clear hK K
    refine wpTree_take rfl rfl ?_; intro K hK; simp only [Array.getD_eq_getD_getElem?, List.getElem?_toArray, List.getElem?_cons_succ, List.getElem?_cons_zero, Option.getD_some]; go_big_quiet_op; go_big_quiet_on
    refine wpTree_take rfl rfl ?_; intro K hK; simp only [Array.getD_eq_getD_getElem?, List.getElem?_toArray, List.getElem?_cons_succ, List.getElem?_cons_zero, Option.getD_some]; go_big_quiet_op; go_big_quiet_on
    refine wpTree_take rfl rfl ?_; intro K hK; simp only [Array.getD_eq_getD_getElem?, List.getElem?_toArray, List.getElem?_cons_succ, List.getElem?_cons_zero, Option.getD_some]; go_big_quiet_op; go_big_quiet_on
    refine wpTree_alt (wpTree_br rfl rfl ?_ wpTree_stop)
    have hS1 := hS0.below (show Below _ _ (w17) by (repeat first|exact J0|assumption|(apply J1;assumption)|apply J2|apply J3|apply J4))
    intro K hK
    simp only [Array.getD_eq_getD_getElem?, List.getElem?_toArray, List.getElem?_cons_succ, List.getElem?_cons_zero, Option.getD_some]
    refine op_store_blk hS1 _ _ _ rfl rfl rfl rfl (by kernel_rfl) (by kernel_rfl) ?_
    intro w7 hS7 hc7
    have hg7 : w5.heap.size ≤ (w16).heap.size := Below.size (show Below w5.heap.size w5 (w16) by (repeat first|exact J0|assumption|(apply J1;assumption)|apply J2|apply J3|apply J4))
    have hb7 : Below w5.heap.size w5 w7 := chg_bl (by (repeat first|exact J0|assumption|(apply J1;assumption)|apply J2|apply J3|apply J4)) hc7 hg7
    refine hK _ _ (chg_bl (by (repeat first|exact J0|assumption|(apply J1;assumption)|apply J2|apply J3|apply J4)) hc7 (by first | exact Nat.le_refl _ | exact hg7)) ?_
    clear hK K
    refine wpTree_fin ?_
    go_wp2_with fail
    go_meet
    case rel => exact ⟨((w16).heap.size), rfl, rfl, hS7, hb7⟩
  ·have hS0 := Blk.new (w5.drew) 35 #[.int .i64 0, .int .i64 0]
   intro K hK
   go_simp
   refine hK _ _ (by (repeat first|exact J0|assumption|(apply J1;assumption)|apply J2|apply J3|apply J4)) ?_
   clear hK K
   refine wpTree_alt (wpTree_br rfl rfl ?_ wpTree_stop)
   intro K hK
   go_simp
   refine (cGi _ (bl_then (by (repeat first|exact J0|assumption|(apply J1;assumption)|apply J2|apply J3|apply J4)) hbw5)).mono ?_
   rintro e w16 ⟨v16, rfl, hS16, hb16⟩
   refine hK _ _ (by (repeat first|exact J0|assumption|(apply J1;assumption)|apply J2|apply J3|apply J4)) ?_
   clear hK K
   refine wpTree_alt (wpTree_br rfl rfl ?_ wpTree_stop)
   intro K hK
   go_simp
   refine (cBo _ _ (hS16.below (by (repeat first|exact J0|assumption|(apply J1;assumption)|apply J2|apply J3|apply J4)))).mono ?_
   rintro e w17 ⟨rfl, hb17⟩
   refine hK _ _ (by (repeat first|exact J0|assumption|(apply J1;assumption)|apply J2|apply J3|apply J4)) ?_
   clear hK K
   refine wpTree_take rfl rfl ?_; intro K hK; simp only [Array.getD_eq_getD_getElem?, List.getElem?_toArray, List.getElem?_cons_succ, List.getElem?_cons_zero, Option.getD_some]; go_big_quiet_op; go_big_quiet_on
   refine wpTree_take rfl rfl ?_; intro K hK; simp only [Array.getD_eq_getD_getElem?, List.getElem?_toArray, List.getElem?_cons_succ, List.getElem?_cons_zero, Option.getD_some]; go_big_quiet_op; go_big_quiet_on
   refine wpTree_take rfl rfl ?_; intro K hK; simp only [Array.getD_eq_getD_getElem?, List.getElem?_toArray, List.getElem?_cons_succ, List.getElem?_cons_zero, Option.getD_some]; go_big_quiet_op; go_big_quiet_on
   refine wpTree_alt (wpTree_br rfl rfl ?_ wpTree_stop)
   have hS1 := hS0.below (show Below _ _ (w17) by (repeat first|exact J0|assumption|(apply J1;assumption)|apply J2|apply J3|apply J4))
   intro K hK
   simp only [Array.getD_eq_getD_getElem?, List.getElem?_toArray, List.getElem?_cons_succ, List.getElem?_cons_zero, Option.getD_some]
   refine op_store_blk hS1 _ _ _ rfl rfl rfl rfl (by kernel_rfl) (by kernel_rfl) ?_
   intro w7 hS7 hc7
   have hg7 : w5.heap.size ≤ (w5.drew).heap.size := Below.size (show Below w5.heap.size w5 (w5.drew) by (repeat first|exact J0|assumption|(apply J1;assumption)|apply J2|apply J3|apply J4))
   have hb7 : Below w5.heap.size w5 w7 := chg_bl (by (repeat first|exact J0|assumption|(apply J1;assumption)|apply J2|apply J3|apply J4)) hc7 hg7
   refine hK _ _ (chg_bl (by (repeat first|exact J0|assumption|(apply J1;assumption)|apply J2|apply J3|apply J4)) hc7 (by first | exact Nat.le_refl _ | exact hg7)) ?_
   clear hK K
   refine wpTree_fin ?_
   go_wp2_with fail
   go_meet
   case rel => exact ⟨((w5.drew).heap.size), rfl, rfl, hS7, hb7⟩
 case rest =>
  obtain ⟨g11, rfl, rfl, hS11, hbc⟩ := hcut
  obtain ⟨w6, rfl⟩ : ∃ x, x = wc := ⟨_, rfl⟩
  have hB6 := hB5.below hbc
  have hO6 := hO5.below hbc
  have hbw6 := bl_then hbc hbw5
  clear hB5 fB5 hO5 hbc hbw5
  go_wp2_with fail
  refine (cGi _ hbw6).mono ?_
  rintro e w7 ⟨v7, rfl, hS7, hb7⟩
  go_wp2_with fail
  refine (cOr _).mono ?_
  rintro e w8 ⟨v8, rfl, hO8, hb8⟩
  go_wp2_with fail
  refine (cLa _ _ _ (hS7.below hb8) (hO8.rd plc_len)).mono ?_
  rintro e w9 ⟨v9, rfl, hO9, hb9⟩
  obtain ⟨A9, c9, rfl⟩ := hO9.shape
  have hb69 : Below w6.heap.size w6 w9 := by (repeat first|exact J0|assumption|(apply J1;assumption)|apply J2|apply J3|apply J4)
  have hB9 := hB6.below hb69
  have hS9 := hS11.below hb69
  have hX9 := hO6.below hb69
  have hbw9 := bl_then hb69 hbw6
  have fB9 := hB9.facts
  clear hb7 hb8 hb9 hS7 hO8 hB6 hS11 hO6 hb69 hbw6
  go_upto_region 7 with fail
  refine wp_region_ords [0, 1, 2, 3, 4, 5, 6, 7, 8, 9, 10, 11, 12, 13, 14, 15, 16, 18] [(17, false), (19, false), (20, false), (21, false), (22, false), (23, true), (24, true), (25, false), (26, false)] [27, 28] (by kernel_rfl) (by kernel_rfl) (fun d _ _ _ _ h => by cases d <;> exact h) ?_
  simp only [List.map_cons, List.map_nil, List.getD_cons_zero, List.getD_cons_succ]
  repeat (go_big_quiet_step (fail))
  refine wpQuiet_nil ?_
  refine wpMid_run rfl (fun K hK => ?_)
  go_simp
  refine (cGi _ (bl_then (by (repeat first|exact J0|assumption|(apply J1;assumption)|apply J2|apply J3|apply J4)) hbw9)).mono ?_
  rintro e w10 ⟨v10, rfl, hS10, hb10⟩
  refine hK _ _ (by (repeat first|exact J0|assumption|(apply J1;assumption)|apply J2|apply J3|apply J4)) ?_
  clear hK K
  refine wpMid_run rfl (fun K hK => ?_)
  go_simp
  refine (cCp _ _ _ hS10 ((hX9.rd plc_len).below (by (repeat first|exact J0|assumption|(apply J1;assumption)|apply J2|apply J3|apply J4)))).mono ?_
  rintro e w11 ⟨rfl, hb11⟩
  refine hK _ _ (by (repeat first|exact J0|assumption|(apply J1;assumption)|apply J2|apply J3|apply J4)) ?_
  clear hK K
  refine wpMid_run rfl (fun K hK => ?_)
  go_simp
  refine hK _ _ (by (repeat first|exact J0|assumption|(apply J1;assumption)|apply J2|apply J3|apply J4)) ?_
  clear hK K
  refine wpMid_run rfl (fun K hK => ?_)
  go_simp
  refine hK _ _ (by (repeat first|exact J0|assumption|(apply J1;assumption)|apply J2|apply J3|apply J4)) ?_
  clear hK K
  refine wpMid_run rfl (fun K hK => ?_)
  go_simp
  refine hK _ _ (by (repeat first|exact J0|assumption|(apply J1;assumption)|apply J2|apply J3|apply J4)) ?_
  clear hK K
  refine wpMid_take rfl ?_
  intro K hK
  go_big_quiet_op
  go_big_quiet_on
  refine wpMid_take rfl ?_
  intro K hK
  go_big_quiet_op
  go_big_quiet_on
  refine wpMid_run rfl (fun K hK => ?_)
  go_simp
  refine hK _ _ (by (repeat first|exact J0|assumption|(apply J1;assumption)|apply J2|apply J3|apply J4)) ?_
  clear hK K
  refine wpMid_run rfl (fun K hK => ?_)
  go_simp
  refine hK _ _ (by (repeat first|exact J0|assumption|(apply J1;assumption)|apply J2|apply J3|apply J4)) ?_
  clear hK K
  refine wpMid_nil ?_
  have hb911 : Below w9.heap.size w9 w11 := by (repeat first|exact J0|assumption|(apply J1;assumption)|apply J2|apply J3|apply J4)
  have hB11 := hB9.below hb911
  have hS11 := hS9.below hb911
  have hX11 := hX9.below hb911
  have hY11 := hO9.below hb911
  have hbw11 := bl_then hb911 hbw9
  clear hb10 hb11 hS10 hB9 hS9 hX9 hO9 hb911 hbw9 fB9
  go_wp2_with fail
  refine (cGi _ hbw11).mono ?_
  rintro e w12 ⟨v12, rfl, hS12, hb12⟩
  go_wp2_with fail
  refine (cLy _ _ _ hS12 ((hY11.rd plc_len).below hb12)).mono ?_
  rintro e w13 ⟨rfl, hb13⟩
  have hbw13 := bl_then (bl_then hb13 hb12) hbw11
  go_wp2_with fail
  refine (cGi _ hbw13).mono ?_
  rintro e w14 ⟨v14, rfl, hS14, hb14⟩
  go_wp2_with fail
  refine (cLx _ _ _ hS14 ((hX11.rd plc_len).below (bl_then hb14 (bl_then hb13 hb12)))).mono ?_
  rintro e w15 ⟨rfl, hb15⟩
  have hb1115 : Below w11.heap.size w11 w15 := bl_then hb15 (bl_then hb14 (bl_then hb13 hb12))
  have hB15 := hB11.below hb1115
  have hS15 := hS11.below hb1115
  have hX15 := hX11.below hb1115
  have hbw15 := bl_then hb1115 hbw11
  have fS15 := hS15.facts
  have fB15 := hB15.facts
  clear hb12 hb13 hb14 hb15 hS12 hS14 hB11 hS11 hX11 hY11 hb1115 hbw11 hbw13
  go_upto_region 14 with fail
  have hB16 : Blk (w15.setCell ⟨G, 2, none⟩ (.int .i64 n)) G 27 #[.string ⟨#[98]⟩, .int .i64 256, .int .i64 n] := hB15.set_ 2 (.int .i64 n)
  have hX16 : Own plc 3 w4.heap.size 100 (w15.setCell ⟨G, 2, none⟩ (.int .i64 n)) (.slice A5 x.length c5) x := hX15.set (by intro e; have := (hX15.lt _ e).1; simp only at *; omega) _
  have hbw16 : Below w.heap.size w (w15.setCell ⟨G, 2, none⟩ (.int .i64 n)) := bl_set hbw15 hGw _
  obtain ⟨w16, hw16⟩ : ∃ z, w15.setCell ⟨G, 2, none⟩ (.int .i64 n) = z := ⟨_, rfl⟩
  rw [hw16] at hB16 hX16 hbw16 ⊢
  have fB16 := hB16.facts
  clear hw16 hB15 hS15 hX15 hbw15 fS15 fB15
  refine wp_region_ords [0, 1] [(2, false), (3, false), (4, false), (5, true), (6, true), (7, true), (8, false), (9, false)] [10] (by kernel_rfl) (by kernel_rfl) (fun d _ _ _ _ h => by cases d <;> exact h) ?_
  simp only [List.map_cons, List.map_nil, List.getD_cons_zero, List.getD_cons_succ]
  repeat (go_big_quiet_step (fail))
  refine wpQuiet_nil ?_
  refine wpMid_run rfl (fun K hK => ?_)
  go_simp
  refine (cGi _ (bl_then (by (repeat first|exact J0|assumption|(apply J1;assumption)|apply J2|apply J3|apply J4)) hbw16)).mono ?_
  rintro e w17 ⟨v17, rfl, hS17, hb17⟩
  refine hK _ _ (by (repeat first|exact J0|assumption|(apply J1;assumption)|apply J2|apply J3|apply J4)) ?_
  clear hK K
  refine wpMid_run rfl (fun K hK => ?_)
  go_simp
  refine (cB2 _ _ hS17).mono ?_
  rintro e w18 ⟨v18, rfl, hO18, hb18⟩
  refine hK _ _ (by (repeat first|exact J0|assumption|(apply J1;assumption)|apply J2|apply J3|apply J4)) ?_
  clear hK K
  obtain ⟨A18, c18, rfl⟩ := hO18.shape
  refine wpMid_run rfl (fun K hK => ?_)
  go_simp
  refine hK _ _ (by (repeat first|exact J0|assumption|(apply J1;assumption)|apply J2|apply J3|apply J4)) ?_
  clear hK K
  refine wpMid_take rfl ?_
  intro K hK
  go_big_quiet_op
  go_big_quiet_on
  refine wpMid_take rfl ?_
  intro K hK
  go_big_quiet_op
  go_big_quiet_on
  refine wpMid_take rfl ?_
  intro K hK
  go_big_quiet_op
  go_big_quiet_on
  refine wpMid_run rfl (fun K hK => ?_)
  go_simp
  refine hK _ _ (by (repeat first|exact J0|assumption|(apply J1;assumption)|apply J2|apply J3|apply J4)) ?_
  clear hK K
  refine wpMid_run rfl (fun K hK => ?_)
  go_simp
  refine hK _ _ (by (repeat first|exact J0|assumption|(apply J1;assumption)|apply J2|apply J3|apply J4)) ?_
  clear hK K
  refine wpMid_nil ?_
  have hb1618 : Below w16.heap.size w16 w18 := by (repeat first|exact J0|assumption|(apply J1;assumption)|apply J2|apply J3|apply J4)
  have hB18 := hB16.below hb1618
  have hX18 := hX16.below hb1618
  have hbw18 := bl_then hb1618 hbw16
  clear hb17 hb18 hS17 hB16 hX16 hb1618 hbw16 fB16
  obtain ⟨_, _, he18, _, _, r18⟩ := hO18.rd plc_len
  obtain ⟨rfl, rfl⟩ : A18 = _ ∧ c18 = _ := by simpa using he18
  obtain ⟨_, _, hx18, _, _, rx18⟩ := hX18.rd plc_len
  obtain ⟨rfl, rfl⟩ : A5 = _ ∧ c5 = _ := by simpa using hx18
  go_wp2_with fail
  refine (cPs _ _ _ r18).mono ?_
  rintro e w19 ⟨v19, rfl, hO19, hb19⟩
  go_wp2_with fail
  refine (cPs _ _ _ (rx18.below hb19)).mono ?_
  rintro e w20 ⟨v20, rfl, hO20, hb20⟩
  obtain ⟨A19, c19, rfl⟩ := hO19.shape
  obtain ⟨A20, c20, rfl⟩ := hO20.shape
  obtain ⟨_, _, he19, _, _, r19⟩ := hO19.rd plc_len
  obtain ⟨rfl, rfl⟩ : A19 = _ ∧ c19 = _ := by simpa using he19
  obtain ⟨_, _, he20, _, _, r20⟩ := hO20.rd plc_len
  obtain ⟨rfl, rfl⟩ : A20 = _ ∧ c20 = _ := by simpa using he20
  go_wp2_with fail
  refine (cSm _ _ _ _ _ (r19.below hb20) r20).mono ?_
  rintro e w21 ⟨rfl, hb21⟩
  have hb1821 : Below w18.heap.size w18 w21 := by (repeat first|exact J0|assumption|(apply J1;assumption)|apply J2|apply J3|apply J4)
  have hB21 := hB18.below hb1821
  have hbw21 := bl_then hb1821 hbw18
  clear hb19 hb20 hb21 hO18 hO19 hO20 hX18 hB18 hb1821 hbw18 r18 rx18 r19 r20
  by_cases hn1 : n = 1
  ·have u1 : (n == 1) = true := by simp [hn1]
   clear hn1 HB3
   go_wp2
   go_ret
   exact ⟨rfl, hbw21⟩
  ·have u1 : (n == 1) = false := by simp [hn1]
   have cB3 := HB3.out hn1
   clear hn1 HB3
   have fB21 := hB21.facts
   go_upto_region 20 with fail
   have hB22 : Blk (w21.setCell ⟨G, 2, none⟩ (.int .i64 (n - 1))) G 27 #[.string ⟨#[98]⟩, .int .i64 256, .int .i64 (n - 1)] := hB21.set_ 2 (.int .i64 (n - 1))
   have hbw22 : Below w.heap.size w (w21.setCell ⟨G, 2, none⟩ (.int .i64 (n - 1))) := bl_set hbw21 hGw _
   obtain ⟨w22, hw22⟩ : ∃ z, w21.setCell ⟨G, 2, none⟩ (.int .i64 (n - 1)) = z := ⟨_, rfl⟩
   rw [hw22] at hB22 hbw22 ⊢
   have fB22 := hB22.facts
   clear hw22 hB21 hbw21 fB21
   refine wp_region_ords [0, 1] [(2, false), (3, false), (4, false), (5, true), (6, true), (7, true), (8, false), (9, false)] [10] (by kernel_rfl) (by kernel_rfl) (fun d _ _ _ _ h => by cases d <;> exact h) ?_
   simp only [List.map_cons, List.map_nil, List.getD_cons_zero, List.getD_cons_succ]
   repeat (go_big_quiet_step (fail))
   refine wpQuiet_nil ?_
   refine wpMid_run rfl (fun K hK => ?_)
   go_simp
   refine (cGi _ (bl_then (by (repeat first|exact J0|assumption|(apply J1;assumption)|apply J2|apply J3|apply J4)) hbw22)).mono ?_
   rintro e w23 ⟨v23, rfl, hS23, hb23⟩
   refine hK _ _ (by (repeat first|exact J0|assumption|(apply J1;assumption)|apply J2|apply J3|apply J4)) ?_
   clear hK K
   refine wpMid_run rfl (fun K hK => ?_)
   go_simp
   refine (cB3 _ _ hS23).mono ?_
   rintro e w24 ⟨v24, rfl, hO24, hb24⟩
   refine hK _ _ (by (repeat first|exact J0|assumption|(apply J1;assumption)|apply J2|apply J3|apply J4)) ?_
   clear hK K
   obtain ⟨A24, c24, rfl⟩ := hO24.shape
   refine wpMid_run rfl (fun K hK => ?_)
   go_simp
   refine hK _ _ (by (repeat first|exact J0|assumption|(apply J1;assumption)|apply J2|apply J3|apply J4)) ?_
   clear hK K
   refine wpMid_take rfl ?_
   intro K hK
   go_big_quiet_op
   go_big_quiet_on
   refine wpMid_take rfl ?_
   intro K hK
   go_big_quiet_op
   go_big_quiet_on
   refine wpMid_take rfl ?_
   intro K hK
   go_big_quiet_op
   go_big_quiet_on
   refine wpMid_run rfl (fun K hK => ?_)
   go_simp
   refine hK _ _ (by (repeat first|exact J0|assumption|(apply J1;assumption)|apply J2|apply J3|apply J4)) ?_
   clear hK K
   refine wpMid_run rfl (fun K hK => ?_)
   go_simp
   refine hK _ _ (by (repeat first|exact J0|assumption|(apply J1;assumption)|apply J2|apply J3|apply J4)) ?_
   clear hK K
   refine wpMid_nil ?_
   go_wp2
   go_ret
   exact ⟨rfl, bl_then (show Below w22.heap.size w22 w24 by (repeat first|exact J0|assumption|(apply J1;assumption)|apply J2|apply J3|apply J4)) hbw22⟩
end Go.Proofs.YtpcgeihemkhkjaaGreatDoor

/- Stack, walked. Conditions: none. -/
import Derived.Test.YtkkefahobjlagaaGreatDoorN25
import Derived.Test.YtkkefahobjlagaaGreatDoorN08
import Derived.Test.YtkkefahobjlagaaGreatDoorN13
import Derived.Test.YtkkefahobjlagaaGreatDoorN07
namespace Go.Proofs.YtkkefahobjlagaaGreatDoor
open Go.RowKit Go.ChangeMaps
set_option maxHeartbeats 4000000
set_option maxRecDepth 100000
attribute [local go_sem] Oper.semAt_some
def stkQ (a b : Pan) : Pan := (a.1, a.2.1, a.2.2.1 ++ b.2.2.1, a.2.2.2 ++ b.2.2.2)
def twoP (a b : Pan) : Int := firstI [panE a, panE b]
def stkE (a b : Pan) : Int := if twoP a b ≠ 0 then twoP a b else if topX a true - topX a false ≠ 2 * b.2.1 then 24 else 0
theorem twoP_zero {a b : Pan} (h : twoP a b = 0) : panE a = 0 ∧ panE b = 0 := firstI_zero h
theorem apiStack_any {vL vR uL uR : Value} (a b : Pan) (w : World) (hna : a.1.length ≤ 1000000) (hnb : b.1.length ≤ 1000000) (hL : SlE w vL a.2.2.1) (hR : SlE w vR a.2.2.2) (kL : SlE w uL b.2.2.1) (kR : SlE w uR b.2.2.2) :
  Calls Tryz.prog 16 #[.agg #[sV a.1, .int .i64 a.2.1, vL, vR], .agg #[sV b.1, .int .i64 b.2.1, uL, uR]] w (RPN w (pcR (stkE a b) (stkQ a b)) (pcE (stkE a b) (stkQ a b))) := by
 have hc := fun W (hb : Below w.heap.size w W) => checkPanel_any a W hna (hL.below hb) (hR.below hb)
 have hd := fun W (hb : Below w.heap.size w W) => checkPanel_any b W hnb (kL.below hb) (kR.below hb)
 have hf2 : ∀ A c' W, Rd ic 1 W A [panE a, panE b] → Calls Tryz.prog 72 #[.slice A 2 c'] W (RV W (.int .i64 (twoP a b))) := fun A c' W hr => pfirst_any [panE a, panE b] A c' W (by simp [maxLen]) hr
 have HZ0 : Hid (∀ e, e ≠ 0 → stkE a b = e → pcR (stkE a b) (stkQ a b) = panZ ∧ pcE (stkE a b) (stkQ a b) = e) := by
  intro e he h
  have h2 : pcE (stkE a b) (stkQ a b) = e := by unfold pcE; rw [h, if_pos he]
  exact ⟨by unfold pcR; rw [h2, if_neg he], h2⟩
 have HZ1 : Hid (stkE a b = 0 → pcR (stkE a b) (stkQ a b) = pcR 0 (stkQ a b) ∧ pcE (stkE a b) (stkQ a b) = panE (stkQ a b)) := by
  intro h
  rw [h]
  exact ⟨rfl, by unfold pcE; rw [if_neg (by simp)]⟩
 by_cases hE : twoP a b = 0
 ·obtain ⟨hE1, hE2⟩ := twoP_zero hE
  have hok := panE_zero hE1
  have hok2 := panE_zero hE2
  have la := hok.left.few
  have ra := hok.right.few
  have lb := hok2.left.few
  have rb := hok2.right.few
  have hwb := hok2.wid
  have hcn := fun W (hb : Below w.heap.size w W) => corners_any a W (hL.below hb) (hR.below hb) hok
  have hx1 := topX_near hok false
  have hx2 := topX_near hok true
  obtain ⟨x0, x1, x2, x3, y2, y3, hC⟩ : ∃ x0 x1 x2 x3 y2 y3 : Int, cornA a = #[.int .i64 x0, .int .i64 x1, .int .i64 x2, .int .i64 x3, .int .i64 (topX a false), .int .i64 y2, .int .i64 (topX a true), .int .i64 y3] := ⟨_, _, _, _, _, _, rfl⟩
  rw [hC] at hcn
  have HS : Hid (stkE a b = if topX a true - topX a false ≠ 2 * b.2.1 then 24 else 0) := by unfold Hid stkE; rw [if_neg (by simp [hE])]
  rw [hE] at hf2
  obtain ⟨X1, hX1⟩ : ∃ X, topX a false = X := ⟨_, rfl⟩
  obtain ⟨X2, hX2⟩ : ∃ X, topX a true = X := ⟨_, rfl⟩
  rw [hX1] at hcn HS hx1
  rw [hX2] at hcn HS hx2
  have cl := fun W (hb : Below w.heap.size w W) => joined_any a.2.2.1 b.2.2.1 W (hL.below hb) (kL.below hb) (by omega) (by omega)
  have cr := fun W (hb : Below w.heap.size w W) => joined_any a.2.2.2 b.2.2.2 W (hR.below hb) (kR.below hb) (by omega) (by omega)
  have hch := fun W vl vr hl hr => checked_any (vL := vl) (vR := vr) (stkQ a b) W hna hl hr
  have HCH := Lib.hid hch
  obtain ⟨E1, hEE1⟩ : ∃ E, panE a = E := ⟨_, rfl⟩
  rw [hEE1] at hc hf2
  obtain ⟨E2, hEE2⟩ : ∃ E, panE b = E := ⟨_, rfl⟩
  rw [hEE2] at hd hf2
  obtain ⟨AL, cL, rfl, _, _, _⟩ := hL
  obtain ⟨AR, cR, rfl, _, _, _⟩ := hR
  obtain ⟨BL, dL, rfl, _, _, _⟩ := kL
  obtain ⟨BR, dR, rfl, _, _, _⟩ := kR
  have hs : sV a.1 = .string ⟨a.1.toArray⟩ := rfl
  have hs2 : sV b.1 = .string ⟨b.1.toArray⟩ := rfl
  rw [hs] at hc hcn
  rw [hs2] at hd
  rw [hs, hs2]
  have hP := ((Blk.new w 30 #[.string ⟨a.1.toArray⟩, .int .i64 a.2.1, .slice AL a.2.2.1.length cL, .slice AR a.2.2.2.length cR]).alloc (.cells #[.string ⟨b.1.toArray⟩, .int .i64 b.2.1, .slice BL b.2.2.1.length dL, .slice BR b.2.2.2.length dR] 30)).alloc (.cells zeroPV 30)
  have hQ := (Blk.new1 w (.cells #[.string ⟨a.1.toArray⟩, .int .i64 a.2.1, .slice AL a.2.2.1.length cL, .slice AR a.2.2.2.length cR] 30) 30 #[.string ⟨b.1.toArray⟩, .int .i64 b.2.1, .slice BL b.2.2.1.length dL, .slice BR b.2.2.2.length dR]).alloc (.cells zeroPV 30)
  have hZ := Blk.new2 w (.cells #[.string ⟨a.1.toArray⟩, .int .i64 a.2.1, .slice AL a.2.2.1.length cL, .slice AR a.2.2.2.length cR] 30) (.cells #[.string ⟨b.1.toArray⟩, .int .i64 b.2.1, .slice BL b.2.2.1.length dL, .slice BR b.2.2.2.length dR] 30) 30 zeroPV
  unfold zeroPV at hP hQ hZ
  clear hE hE1 hE2 hEE1 hEE2 hch hs hs2 hX1 hX2 hC hna hnb
  go_enter Tryz.func16, Tryz.ntmps16
  go_upto_region 1 with fail
  obtain ⟨w1, hw1⟩ : ∃ X, ((w.alloc (.cells #[.string ⟨a.1.toArray⟩, .int .i64 a.2.1, .slice AL a.2.2.1.length cL, .slice AR a.2.2.2.length cR] 30)).alloc (.cells #[.string ⟨b.1.toArray⟩, .int .i64 b.2.1, .slice BL b.2.2.1.length dL, .slice BR b.2.2.2.length dR] 30)).alloc (.cells #[.string ⟨#[]⟩, .int .i64 0, .slice none 0 0, .slice none 0 0] 30) = X := ⟨_, rfl⟩
  have hb1 : Below w.heap.size w w1 := by rw [← hw1]; exact bl_alloc (bl_alloc (bl_alloc bl_refl _) _) _
  rw [hw1] at hP hQ hZ ⊢
  clear hw1
  have fhP := hP.facts
  have fhQ := hQ.facts
  refine wp_region_ords [0, 2] [(1, false)] [3, 4, 5, 6] (by kernel_rfl) (by kernel_rfl) (fun d _ _ _ _ h => by cases d <;> exact h) ?_
  simp only [List.map_cons, List.map_nil, List.getD_cons_zero, List.getD_cons_succ]
  repeat (go_big_quiet_step (fail))
  refine wpQuiet_nil ?_
  refine wpMid_run rfl (fun K hK => ?_)
  go_simp
  refine (hc _ (by (repeat first|exact J0|assumption|(apply J1;assumption)|apply J2|apply J3|apply J4))).mono ?_
  rintro e w2 ⟨rfl, hb2⟩
  refine hK _ _ (by (repeat first|exact J0|assumption|(apply J1;assumption)|apply J2|apply J3|apply J4)) ?_
  clear hK K
  have hP_w2 := hP.below (show Below _ _ w2 by (repeat first|exact J0|assumption|(apply J1;assumption)|apply J2|apply J3|apply J4))
  have fhP_w2 := hP_w2.facts
  have hQ_w2 := hQ.below (show Below _ _ w2 by (repeat first|exact J0|assumption|(apply J1;assumption)|apply J2|apply J3|apply J4))
  have fhQ_w2 := hQ_w2.facts
  have hZ_w2 := hZ.below (show Below _ _ w2 by (repeat first|exact J0|assumption|(apply J1;assumption)|apply J2|apply J3|apply J4))
  have fhZ_w2 := hZ_w2.facts
  refine wpMid_nil ?_
  go_wp2_with (go_at_call 61; refine (hd _ (by (repeat first|exact J0|assumption|(apply J1;assumption)|apply J2|apply J3|apply J4))).mono ?_; rintro e w3 ⟨rfl, hb3⟩)
  go_must (refine (hf2 _ _ _ (Rd.ints2 (by simp) (by go_simp) (by go_simp))).mono ?_)
  rintro e w4 ⟨rfl, hb4⟩
  have hb14 : Below w1.heap.size w1 w4 := by (repeat first|exact J0|assumption|(apply J1;assumption)|apply J2|apply J3|apply J4)
  replace hP := hP.below hb14
  replace hQ := hQ.below hb14
  replace hZ := hZ.below hb14
  have hbw4 : Below w.heap.size w w4 := bl_then hb14 hb1
  replace fhP := hP.facts
  replace fhQ := hQ.facts
  replace fhZ := hZ.facts
  clear hc hd hf2 hb14 hb2 hb3 hb4 hb1 hP_w2 hQ_w2 hZ_w2 fhP_w2 fhQ_w2 fhZ_w2
  go_wp2_with fail
  refine (hcn _ (by (repeat first|exact J0|assumption|(apply J1;assumption)|apply J2|apply J3|apply J4))).mono ?_
  rintro e w5 ⟨rfl, hb5⟩
  replace hP := hP.below (show Below _ _ w5 by (repeat first|exact J0|assumption|(apply J1;assumption)|apply J2|apply J3|apply J4))
  replace fhP := hP.facts
  replace hQ := hQ.below (show Below _ _ w5 by (repeat first|exact J0|assumption|(apply J1;assumption)|apply J2|apply J3|apply J4))
  replace fhQ := hQ.facts
  replace hZ := hZ.below (show Below _ _ w5 by (repeat first|exact J0|assumption|(apply J1;assumption)|apply J2|apply J3|apply J4))
  replace fhZ := hZ.facts
  have hK := Blk.new w5 41 #[.int .i64 x0, .int .i64 x1, .int .i64 x2, .int .i64 x3, .int .i64 X1, .int .i64 y2, .int .i64 X2, .int .i64 y3]
  replace hP := hP.alloc (.cells #[.int .i64 x0, .int .i64 x1, .int .i64 x2, .int .i64 x3, .int .i64 X1, .int .i64 y2, .int .i64 X2, .int .i64 y3] 41)
  replace hQ := hQ.alloc (.cells #[.int .i64 x0, .int .i64 x1, .int .i64 x2, .int .i64 x3, .int .i64 X1, .int .i64 y2, .int .i64 X2, .int .i64 y3] 41)
  replace hZ := hZ.alloc (.cells #[.int .i64 x0, .int .i64 x1, .int .i64 x2, .int .i64 x3, .int .i64 X1, .int .i64 y2, .int .i64 X2, .int .i64 y3] 41)
  have hbw6 : Below w.heap.size w (w5.alloc (.cells #[.int .i64 x0, .int .i64 x1, .int .i64 x2, .int .i64 x3, .int .i64 X1, .int .i64 y2, .int .i64 X2, .int .i64 y3] 41)) := bl_alloc (bl_then hb5 hbw4) _
  go_upto_region 5 with fail
  obtain ⟨w6, hw6⟩ : ∃ X, w5.alloc (.cells #[.int .i64 x0, .int .i64 x1, .int .i64 x2, .int .i64 x3, .int .i64 X1, .int .i64 y2, .int .i64 X2, .int .i64 y3] 41) = X := ⟨_, rfl⟩
  obtain ⟨gk, hgk⟩ : ∃ X, w5.heap.size = X := ⟨_, rfl⟩
  rw [hw6] at hP hQ hZ hbw6
  rw [hw6, hgk] at hK
  rw [hw6, hgk]
  clear hw6 hgk hcn hb5 hbw4
  replace fhP := hP.facts
  replace fhQ := hQ.facts
  replace fhZ := hZ.facts
  have fK := hK.facts
  by_cases hx : X2 - X1 = 2 * b.2.1
  ·have t1 : (X2 - X1 != 2 * b.2.1) = false := by rw [bne_eq_false_iff_eq]; exact hx
   obtain ⟨hr1, hr2⟩ := HZ1.out (by rw [HS.out, if_neg (by simp [hx])])
   have HR := Lib.hid (And.intro hr1 hr2)
   obtain ⟨EQ, hEQ⟩ : ∃ E, panE (stkQ a b) = E := ⟨_, rfl⟩
   rw [hEQ] at HCH HR
   clear hx hr1 hr2 hEQ HZ0 HZ1 HS
   go_upto_region 7 with fail
   refine wp_region_ords [0, 1, 2, 3, 4, 5, 6, 7, 9, 10, 11, 12] [(8, false), (13, false), (14, false), (15, false), (16, true), (17, false)] [18, 19] (by kernel_rfl) (by kernel_rfl) (fun d _ _ _ _ h => by cases d <;> exact h) ?_
   simp only [List.map_cons, List.map_nil, List.getD_cons_zero, List.getD_cons_succ]
   repeat (go_big_quiet_step (fail))
   refine wpQuiet_nil ?_
   refine wpMid_run rfl (fun K hK => ?_)
   go_simp
   refine (cl _ (by (repeat first|exact J0|assumption|(apply J1;assumption)|apply J2|apply J3|apply J4))).mono ?_
   rintro e w8 ⟨v8, rfl, hO8, hb8⟩
   refine hK _ _ (by (repeat first|exact J0|assumption|(apply J1;assumption)|apply J2|apply J3|apply J4)) ?_
   clear hK K
   have hP_w8 := hP.below (show Below _ _ w8 by (repeat first|exact J0|assumption|(apply J1;assumption)|apply J2|apply J3|apply J4))
   have fhP_w8 := hP_w8.facts
   have hQ_w8 := hQ.below (show Below _ _ w8 by (repeat first|exact J0|assumption|(apply J1;assumption)|apply J2|apply J3|apply J4))
   have fhQ_w8 := hQ_w8.facts
   have hZ_w8 := hZ.below (show Below _ _ w8 by (repeat first|exact J0|assumption|(apply J1;assumption)|apply J2|apply J3|apply J4))
   have fhZ_w8 := hZ_w8.facts
   obtain ⟨A8, c8, rfl⟩ := hO8.shape
   simp only [List.length_append] at hO8
   refine wpMid_run rfl (fun K hK => ?_)
   go_simp
   refine (cr _ (by (repeat first|exact J0|assumption|(apply J1;assumption)|apply J2|apply J3|apply J4))).mono ?_
   rintro e w9 ⟨v9, rfl, hO9, hb9⟩
   refine hK _ _ (by (repeat first|exact J0|assumption|(apply J1;assumption)|apply J2|apply J3|apply J4)) ?_
   clear hK K
   have hP_w9 := hP.below (show Below _ _ w9 by (repeat first|exact J0|assumption|(apply J1;assumption)|apply J2|apply J3|apply J4))
   have fhP_w9 := hP_w9.facts
   have hQ_w9 := hQ.below (show Below _ _ w9 by (repeat first|exact J0|assumption|(apply J1;assumption)|apply J2|apply J3|apply J4))
   have fhQ_w9 := hQ_w9.facts
   have hZ_w9 := hZ.below (show Below _ _ w9 by (repeat first|exact J0|assumption|(apply J1;assumption)|apply J2|apply J3|apply J4))
   have fhZ_w9 := hZ_w9.facts
   obtain ⟨A9, c9, rfl⟩ := hO9.shape
   simp only [List.length_append] at hO9
   refine wpMid_run rfl (fun K hK => ?_)
   go_simp
   refine hK _ _ (by (repeat first|exact J0|assumption|(apply J1;assumption)|apply J2|apply J3|apply J4)) ?_
   clear hK K
   refine wpMid_run rfl (fun K hK => ?_)
   go_simp
   refine (HCH.out _ _ _ ((hO8.rd ec_len).below (by (repeat first|exact J0|assumption|(apply J1;assumption)|apply J2|apply J3|apply J4))) (hO9.rd ec_len)).mono ?_
   rintro e w10 ⟨rfl, hb10⟩
   refine hK _ _ (by (repeat first|exact J0|assumption|(apply J1;assumption)|apply J2|apply J3|apply J4)) ?_
   clear hK K
   have hP_w10 := hP.below (show Below _ _ w10 by (repeat first|exact J0|assumption|(apply J1;assumption)|apply J2|apply J3|apply J4))
   have fhP_w10 := hP_w10.facts
   have hQ_w10 := hQ.below (show Below _ _ w10 by (repeat first|exact J0|assumption|(apply J1;assumption)|apply J2|apply J3|apply J4))
   have fhQ_w10 := hQ_w10.facts
   have hZ_w10 := hZ.below (show Below _ _ w10 by (repeat first|exact J0|assumption|(apply J1;assumption)|apply J2|apply J3|apply J4))
   have fhZ_w10 := hZ_w10.facts
   obtain ⟨A7, c7, A77, c77, hcv, hu1, hu2⟩ := checked_own (stkQ a b) w9 w10 ((hO8.below (show Below w8.heap.size w8 w9 by (repeat first|exact J0|assumption|(apply J1;assumption)|apply J2|apply J3|apply J4))).base_mono (show w6.heap.size ≤ _ by exact Below.size (by (repeat first|exact J0|assumption|(apply J1;assumption)|apply J2|apply J3|apply J4)))) (hO9.base_mono (show w6.heap.size ≤ _ by exact Below.size (by (repeat first|exact J0|assumption|(apply J1;assumption)|apply J2|apply J3|apply J4)))) hb10
   rw [hcv]
   refine wpMid_take rfl ?_
   intro K hK
   go_big_quiet_op
   go_big_quiet_on
   refine wpMid_run rfl (fun K hK => ?_)
   go_simp
   refine hK _ _ (by (repeat first|exact J0|assumption|(apply J1;assumption)|apply J2|apply J3|apply J4)) ?_
   clear hK K
   refine wpMid_nil ?_
   obtain ⟨Q, hQ9⟩ : ∃ Q, pcR 0 (stkQ a b) = Q := ⟨_, rfl⟩
   rw [hQ9] at hu1 hu2 ⊢
   have HQQ := Lib.hid hQ9
   clear hQ9
   have hbb : Below w6.heap.size w6 w10 := by (repeat first|exact J0|assumption|(apply J1;assumption)|apply J2|apply J3|apply J4)
   go_wp2_with (refine wpList_store_blk hZ_w10 rfl _ _ _ rfl rfl rfl (by rfl) (by kernel_rfl) (by kernel_rfl) ?_; intro w12 hZ12 hc12; have f12 := hZ12.facts)
   refine bodyPost_ret (v := .tuple #[.agg #[.string ⟨Q.1.toArray⟩, .int .i64 Q.2.1, .slice A7 Q.2.2.1.length c7, .slice A77 Q.2.2.2.length c77], .int .i64 EQ]) (by simp [results, Tryz.results16, go_sem, f12]) rfl ?_
   have hz1 : w.heap.size + 1 + 1 < w6.heap.size := hZ.lt
   obtain rfl := HQQ.out
   rw [HR.out.1, HR.out.2]
   exact ⟨_, _, rfl, (hu1.chg hc12 (by simp; omega)).base_mono hbw6.size, (hu2.chg hc12 (by simp; omega)).base_mono hbw6.size, chg_bl (bl_then hbb hbw6) hc12 (by omega)⟩
  ·have t1 : (X2 - X1 != 2 * b.2.1) = true := by rw [bne_iff_ne]; exact hx
   obtain ⟨hr1, hr2⟩ := HZ0.out 24 (by decide) (by rw [HS.out, if_pos hx])
   have HR := Lib.hid (And.intro hr1 hr2)
   clear hx hr1 hr2 HZ0 HZ1 HS
   go_wp2_with (refine wpList_store_blk hZ rfl _ _ _ rfl rfl rfl (by rfl) (by kernel_rfl) (by kernel_rfl) ?_; intro w12 hZ12 hc12; have f12 := hZ12.facts)
   refine bodyPost_ret (v := .tuple #[.agg #[.string ⟨#[]⟩, .int .i64 0, .slice none 0 0, .slice none 0 0], .int .i64 24]) (by simp [results, Tryz.results16, go_sem, f12]) rfl ?_
   rw [HR.out.1, HR.out.2]
   exact ⟨_, _, rfl, Own.nil_, Own.nil_, chg_bl hbw6 hc12 (by omega)⟩
 ·obtain ⟨hr1, hr2⟩ := HZ0.out (twoP a b) hE (by unfold stkE; rw [if_pos hE])
  rw [hr1, hr2]
  have t0 : (twoP a b != 0) = true := by simp [hE]
  obtain ⟨EW, hEW⟩ : ∃ E, twoP a b = E := ⟨_, rfl⟩
  rw [hEW] at hf2 t0 ⊢
  obtain ⟨E1, hEE1⟩ : ∃ E, panE a = E := ⟨_, rfl⟩
  rw [hEE1] at hc hf2
  obtain ⟨E2, hEE2⟩ : ∃ E, panE b = E := ⟨_, rfl⟩
  rw [hEE2] at hd hf2
  obtain ⟨AL, cL, rfl, _, _, _⟩ := hL
  obtain ⟨AR, cR, rfl, _, _, _⟩ := hR
  obtain ⟨BL, dL, rfl, _, _, _⟩ := kL
  obtain ⟨BR, dR, rfl, _, _, _⟩ := kR
  have hs : sV a.1 = .string ⟨a.1.toArray⟩ := rfl
  have hs2 : sV b.1 = .string ⟨b.1.toArray⟩ := rfl
  rw [hs] at hc
  rw [hs2] at hd
  rw [hs, hs2]
  have hP := ((Blk.new w 30 #[.string ⟨a.1.toArray⟩, .int .i64 a.2.1, .slice AL a.2.2.1.length cL, .slice AR a.2.2.2.length cR]).alloc (.cells #[.string ⟨b.1.toArray⟩, .int .i64 b.2.1, .slice BL b.2.2.1.length dL, .slice BR b.2.2.2.length dR] 30)).alloc (.cells zeroPV 30)
  have hQ := (Blk.new1 w (.cells #[.string ⟨a.1.toArray⟩, .int .i64 a.2.1, .slice AL a.2.2.1.length cL, .slice AR a.2.2.2.length cR] 30) 30 #[.string ⟨b.1.toArray⟩, .int .i64 b.2.1, .slice BL b.2.2.1.length dL, .slice BR b.2.2.2.length dR]).alloc (.cells zeroPV 30)
  have hZ := Blk.new2 w (.cells #[.string ⟨a.1.toArray⟩, .int .i64 a.2.1, .slice AL a.2.2.1.length cL, .slice AR a.2.2.2.length cR] 30) (.cells #[.string ⟨b.1.toArray⟩, .int .i64 b.2.1, .slice BL b.2.2.1.length dL, .slice BR b.2.2.2.length dR] 30) 30 zeroPV
  unfold zeroPV at hP hQ hZ
  clear hE hEE1 hEE2 hs hs2 hna hnb hr1 hr2 HZ0 HZ1 hEW
  go_enter Tryz.func16, Tryz.ntmps16
  go_upto_region 1 with fail
  obtain ⟨w1, hw1⟩ : ∃ X, ((w.alloc (.cells #[.string ⟨a.1.toArray⟩, .int .i64 a.2.1, .slice AL a.2.2.1.length cL, .slice AR a.2.2.2.length cR] 30)).alloc (.cells #[.string ⟨b.1.toArray⟩, .int .i64 b.2.1, .slice BL b.2.2.1.length dL, .slice BR b.2.2.2.length dR] 30)).alloc (.cells #[.string ⟨#[]⟩, .int .i64 0, .slice none 0 0, .slice none 0 0] 30) = X := ⟨_, rfl⟩
  have hb1 : Below w.heap.size w w1 := by rw [← hw1]; exact bl_alloc (bl_alloc (bl_alloc bl_refl _) _) _
  rw [hw1] at hP hQ hZ ⊢
  clear hw1
  have fhP := hP.facts
  have fhQ := hQ.facts
  refine wp_region_ords [0, 2] [(1, false)] [3, 4, 5, 6] (by kernel_rfl) (by kernel_rfl) (fun d _ _ _ _ h => by cases d <;> exact h) ?_
  simp only [List.map_cons, List.map_nil, List.getD_cons_zero, List.getD_cons_succ]
  repeat (go_big_quiet_step (fail))
  refine wpQuiet_nil ?_
  refine wpMid_run rfl (fun K hK => ?_)
  go_simp
  refine (hc _ (by (repeat first|exact J0|assumption|(apply J1;assumption)|apply J2|apply J3|apply J4))).mono ?_
  rintro e w2 ⟨rfl, hb2⟩
  refine hK _ _ (by (repeat first|exact J0|assumption|(apply J1;assumption)|apply J2|apply J3|apply J4)) ?_
  clear hK K
  have hP_w2 := hP.below (show Below _ _ w2 by (repeat first|exact J0|assumption|(apply J1;assumption)|apply J2|apply J3|apply J4))
  have fhP_w2 := hP_w2.facts
  have hQ_w2 := hQ.below (show Below _ _ w2 by (repeat first|exact J0|assumption|(apply J1;assumption)|apply J2|apply J3|apply J4))
  have fhQ_w2 := hQ_w2.facts
  have hZ_w2 := hZ.below (show Below _ _ w2 by (repeat first|exact J0|assumption|(apply J1;assumption)|apply J2|apply J3|apply J4))
  have fhZ_w2 := hZ_w2.facts
  refine wpMid_nil ?_
  go_wp2_with (go_at_call 61; refine (hd _ (by (repeat first|exact J0|assumption|(apply J1;assumption)|apply J2|apply J3|apply J4))).mono ?_; rintro e w3 ⟨rfl, hb3⟩)
  go_must (refine (hf2 _ _ _ (Rd.ints2 (by simp) (by go_simp) (by go_simp))).mono ?_)
  rintro e w4 ⟨rfl, hb4⟩
  have hb14 : Below w1.heap.size w1 w4 := by (repeat first|exact J0|assumption|(apply J1;assumption)|apply J2|apply J3|apply J4)
  replace hZ := hZ.below hb14
  have hbw4 : Below w.heap.size w w4 := bl_then hb14 hb1
  have fhZ := hZ.facts
  go_wp2_with (refine wpList_store_blk hZ rfl _ _ _ rfl rfl rfl (by rfl) (by kernel_rfl) (by kernel_rfl) ?_; intro w12 hZ12 hc12; have f12 := hZ12.facts)
  refine bodyPost_ret (v := .tuple #[.agg #[.string ⟨#[]⟩, .int .i64 0, .slice none 0 0, .slice none 0 0], .int .i64 EW]) (by simp [results, Tryz.results16, go_sem, f12]) rfl ?_
  exact ⟨_, _, rfl, Own.nil_, Own.nil_, chg_bl hbw4 hc12 (by omega)⟩
end Go.Proofs.YtkkefahobjlagaaGreatDoor
namespace Go.Proofs.YtkkefahobjlagaaGreatDoor
open Go.RowKit Go.ChangeMaps
set_option maxHeartbeats 4000000
set_option maxRecDepth 100000
@[go_sem] theorem idx4_0 (a b c d e f g h i j k l : Int) (w : World) : (Instr.index 222 (.agg #[.int .i64 a, .int .i64 b, .int .i64 c, .int .i64 d, .int .i64 e, .int .i64 f, .int .i64 g, .int .i64 h, .int .i64 i, .int .i64 j, .int .i64 k, .int .i64 l]) (.int .i64 0)).run Tryz.prog w = .ok (.agg #[.int .i64 a, .int .i64 b, .int .i64 c]) w := by kernel_rfl
@[go_sem] theorem idx4_1 (a b c d e f g h i j k l : Int) (w : World) : (Instr.index 222 (.agg #[.int .i64 a, .int .i64 b, .int .i64 c, .int .i64 d, .int .i64 e, .int .i64 f, .int .i64 g, .int .i64 h, .int .i64 i, .int .i64 j, .int .i64 k, .int .i64 l]) (.int .i64 1)).run Tryz.prog w = .ok (.agg #[.int .i64 d, .int .i64 e, .int .i64 f]) w := by kernel_rfl
@[go_sem] theorem idx4_2 (a b c d e f g h i j k l : Int) (w : World) : (Instr.index 222 (.agg #[.int .i64 a, .int .i64 b, .int .i64 c, .int .i64 d, .int .i64 e, .int .i64 f, .int .i64 g, .int .i64 h, .int .i64 i, .int .i64 j, .int .i64 k, .int .i64 l]) (.int .i64 2)).run Tryz.prog w = .ok (.agg #[.int .i64 g, .int .i64 h, .int .i64 i]) w := by kernel_rfl
@[go_sem] theorem idx4_3 (a b c d e f g h i j k l : Int) (w : World) : (Instr.index 222 (.agg #[.int .i64 a, .int .i64 b, .int .i64 c, .int .i64 d, .int .i64 e, .int .i64 f, .int .i64 g, .int .i64 h, .int .i64 i, .int .i64 j, .int .i64 k, .int .i64 l]) (.int .i64 3)).run Tryz.prog w = .ok (.agg #[.int .i64 j, .int .i64 k, .int .i64 l]) w := by kernel_rfl
theorem naround_any (x y : Int) (hx : -1000000 ≤ x ∧ x ≤ 1000000) (hy : -1000000 ≤ y ∧ y ≤ 1000000) (w : World) :
  Calls Tryz.prog 151 #[.agg #[.int .i64 x, .int .i64 y]] w (RV w (.agg #[.int .i64 (x - 1), .int .i64 (y - 1), .int .i64 1, .int .i64 (x + 1), .int .i64 (y - 1), .int .i64 (-1), .int .i64 x, .int .i64 y, .int .i64 (-1), .int .i64 x, .int .i64 y, .int .i64 1])) := by
 go_enter Tryz.func151, Tryz.ntmps151
 go_wp2
 refine bodyPost_ret (v := .agg #[.int .i64 (x - 1), .int .i64 (y - 1), .int .i64 1, .int .i64 (x + 1), .int .i64 (y - 1), .int .i64 (-1), .int .i64 x, .int .i64 y, .int .i64 (-1), .int .i64 x, .int .i64 y, .int .i64 1]) (by simp [results, Tryz.results151, go_sem]) rfl ?_
 exact ⟨rfl, by (repeat first|exact J0|assumption|(apply J1;assumption)|apply J2|apply J3|apply J4)⟩
def arB (k : Knot) : Nat → Bar
 | 0 => (k.1 - 1, k.2 - 1, 1)
 | 1 => (k.1 + 1, k.2 - 1, -1)
 | 2 => (k.1, k.2, -1)
 | _ => (k.1, k.2, 1)
theorem length_le_of_sub {α : Type} [DecidableEq α] {l D : List α} (hn : l.Nodup) (hs : ∀ x ∈ l, x ∈ D) : l.length ≤ D.length := by
 induction l generalizing D with
 | nil => simp
 | cons a r ih =>
  obtain ⟨h1, h2⟩ := List.nodup_cons.1 hn
  have ha : a ∈ D := hs a (by simp)
  have := ih (D := D.erase a) h2 fun x hx => (List.mem_erase_of_ne (fun e => h1 (by rw [← e]; exact hx))).2 (hs x (by simp [hx]))
  rw [List.length_erase_of_mem ha] at this
  have hp : 0 < D.length := List.length_pos_of_mem ha
  simp only [List.length_cons]
  omega
def zer5 : Array Value := #[.int .i64 0, .int .i64 0, .int .i64 0, .int .i64 0, .int .i64 0]
def RLE (w : World) (cs : Array Value) (n : Int) (e : Ending) (w' : World) : Prop := e = .returned (.tuple #[.agg cs, .int .i64 n]) ∧ Below w.heap.size w w'
theorem meshN_elem : Elem Tryz.prog 154 220 2 16 := ⟨by kernel_rfl, by kernel_rfl, by decide⟩
abbrev OwMN (base : Nat) := Own kc 2 base 220
theorem Sl.one_pair (w : World) (x y : Int) (t : TypeId) : SlK (w.alloc (.cells #[.int .i64 x, .int .i64 y] t)) (.slice (some ⟨w.heap.size, 0, none⟩) 1 1) [(x, y)] := by
 have hB := Blk.new w t #[.int .i64 x, .int .i64 y]
 refine ⟨_, 1, rfl, by simp, by simp [maxLen], fun i b hb => ?_⟩
 match i, hb with
 | 0, hb =>
  obtain rfl : (x, y) = b := by simpa using hb
  refine ⟨_, 0, rfl, hB.lt, fun j u hj => ?_⟩
  rw [hB.cell]
  simpa [kc] using hj
section
variable {ops : Array Oper} {rest : List Oper} {o : Oper} {a : Act} {Q : Exit → Act → World → Prop} {base : Nat} {W : World} {v : Value} {X Y : Int}
theorem wpList_appMN {l : List Knot} (hown : OwMN base W v l) {g : Nat} (hgd : o.guard = none) (s x : Operand) (ho : o.op = .call { callee := .builtin .append, args := #[s, x], argTypes := #[154, 154] })
    (hs : a.eval s = v) (hx : a.eval x = .slice (some ⟨g, 0, none⟩) 1 1) (hg : W.heap.size = g) (hlen : l.length ≤ 1000000) (hbase : base ≤ W.heap.size)
    (h : ∀ v' w', OwMN base w' v' (l ++ [(X, Y)]) → (W.alloc (.cells #[.int .i64 X, .int .i64 Y] 220)).grownBy w' v.ownBlock → wpList Tryz.prog ops Q rest (a.put o.dst v') w') :
    wpList Tryz.prog ops Q (o :: rest) a (W.alloc (.cells #[.int .i64 X, .int .i64 Y] 220)) := by
  subst hg
  exact wpList_app hgd meshN_elem kc_len kc_one s x ho base v _ l [(X, Y)] hs hx (hown.alloc _) (Sl.one_pair W X Y _) (by simp [maxLen]; omega) (by simp; omega) (by simp; omega) h
end
def isMesh (l : List Bar) (b : Bar) : Bool := decide (b.2.2 = -1) && hasb l (b.1, b.2.1, 1) && hasb l (b.1 - 1, b.2.1 + 1, 1) && hasb l (b.1 + 1, b.2.1 + 1, -1)
def meshL (l m : List Bar) : List Knot := (m.filter (isMesh l)).map fun b => (b.1, b.2.1 + 1)
theorem meshL_take {l m : List Bar} {k : Nat} (hk : k < m.length) : meshL l (m.take (k + 1)) = meshL l (m.take k) ++ if isMesh l m[k] then [(m[k].1, m[k].2.1 + 1)] else [] := by
 unfold meshL
 rw [List.take_succ_eq_append_getElem hk, List.filter_append, List.map_append]
 cases h : isMesh l m[k] <;> simp [h]
theorem meshL_len (l m : List Bar) : (meshL l m).length ≤ m.length := by
 unfold meshL
 rw [List.length_map]
 exact List.length_filter_le _ _
def RMN (w : World) (l : List Knot) (e : Ending) (w' : World) : Prop := ∃ v, e = .returned v ∧ OwMN w.heap.size w' v l ∧ Below w.heap.size w w'
theorem nmeshes_any {v : Value} (l : List Bar) (w : World) (h : SlB w v l) (hok : NetOk l) : Calls Tryz.prog 94 #[v] w (RMN w (meshL l l)) := by
  have hS := h
  obtain ⟨A, c, rfl, hlc, hcm, h⟩ := h
  have HK := Lib.hid hok
  have hlen := hok.len
  clear hok
  go_enter Tryz.func94, Tryz.ntmps94
  go_wp2
  go_loopw [3, 10] (fun o i wr => ∃ k : Nat, k ≤ l.length ∧ i = .int .i64 k ∧ OwMN w.heap.size wr o (meshL l (l.take k)) ∧ Below w.heap.size w wr) (fun _ i _ => l.length - (intOf i).toNat)
  case atStart => exact ⟨0, Nat.zero_le _, rfl, Own.nil_, by (repeat first|exact J0|assumption|(apply J1;assumption)|apply J2|apply J3|apply J4)⟩
  case round =>
    obtain ⟨k, hk, rfl, hO, hbw⟩ := hrel
    obtain ⟨wo, rfl⟩ : ∃ x, x = wr := ⟨_, rfl⟩
    by_cases hlt : k < l.length
    · have hr := h.below hbw
      have hSr := hS.below hbw
      obtain ⟨b, off, rfl, hb, e0, e1, e2⟩ := hr.bar hlt
      have hbo := HK.out.ok _ (List.getElem_mem hlt)
      have HD := Lib.hid (meshL_take (l := l) hlt)
      have hll := meshL_len l (l.take k)
      have htk : (l.take k).length ≤ 4096 := by simp; omega
      obtain ⟨⟨x, y, s⟩, hx⟩ : ∃ z, l[k] = z := ⟨_, rfl⟩
      rw [hx] at e0 e1 e2 hbo HD
      simp only at e0 e1 e2 HD
      clear hx
      obtain ⟨q1, q2, q3⟩ := hbo
      simp only at q1 q2 q3
      have HI : Hid (isMesh l (x, y, s) = (decide (s = -1) && hasb l (x, y, 1) && hasb l (x - 1, y + 1, 1) && hasb l (x + 1, y + 1, -1))) := rfl
      go_upto_region 5 with fail
      obtain ⟨w1, hw1⟩ : ∃ X, wo.alloc (.cells #[.int .i64 x, .int .i64 y, .int .i64 s] 77) = X := ⟨_, rfl⟩
      have hN := Blk.new wo 77 #[.int .i64 x, .int .i64 y, .int .i64 s]
      have hb1 : Below wo.heap.size wo w1 := by rw [← hw1]; exact bl_alloc bl_refl _
      rw [hw1] at hN ⊢
      have fN := hN.facts
      have hS1 := hSr.below hb1
      have hO1 := hO.below hb1
      have hbw1 := bl_then hb1 hbw
      clear hw1 hO hSr e0 e1 e2 hr
      refine wp_region_ords [0, 1, 2, 3, 4, 5, 6] [] [] (by kernel_rfl) (by kernel_rfl) (fun d _ _ _ _ h => by cases d <;> exact h) ?_
      simp only [List.map_cons, List.map_nil, List.getD_cons_zero, List.getD_cons_succ]
      repeat (go_big_quiet_step (fail))
      refine wpQuiet_nil ?_
      refine wpMid_nil ?_
      go_upto_region 6 with fail
      have hNd := hN.drew
      go_cut [45] from 11 to 52 (fun s45 wx => s45 = .bool (isMesh l (x, y, s)) ∧ Below w1.heap.size w1 wx)
      case first =>
        obtain ⟨g1, h1⟩ : ∃ f, hasb l (x, y, 1) = f := ⟨_, rfl⟩
        obtain ⟨g2, h2⟩ : ∃ f, hasb l (x - 1, y + 1, 1) = f := ⟨_, rfl⟩
        obtain ⟨g3, h3⟩ : ∃ f, hasb l (x + 1, y + 1, -1) = f := ⟨_, rfl⟩
        have c1 := fun W (h : SlB W (.slice (some ⟨b, off, none⟩) l.length c) l) => nhas_any l x y 1 W h HK.out.sorted (by omega)
        have c2 := fun W (h : SlB W (.slice (some ⟨b, off, none⟩) l.length c) l) => nhas_any l (x - 1) (y + 1) 1 W h HK.out.sorted (by omega)
        have c3 := fun W (h : SlB W (.slice (some ⟨b, off, none⟩) l.length c) l) => nhas_any l (x + 1) (y + 1) (-1) W h HK.out.sorted (by omega)
        simp only [h1, h2, h3] at c1 c2 c3
        rw [h1, h2, h3] at HI
        clear h1 h2 h3 hO1
        rcases q3 with rfl | rfl
        · as_aux_lemma =>
            go_wp2_with fail
            go_meet
            case rel => exact ⟨by rw [HI.out]; rfl, by (repeat first|exact J0|assumption|(apply J1;assumption)|apply J2|apply J3|apply J4)⟩
        · cases g1
          · as_aux_lemma =>
              go_wp2_with fail
              refine (c1 _ (hS1.below (by (repeat first|exact J0|assumption|(apply J1;assumption)|apply J2|apply J3|apply J4)))).mono ?_
              rintro e w6 ⟨rfl, hb6⟩
              replace hN := hN.below (show Below _ _ w6 by (repeat first|exact J0|assumption|(apply J1;assumption)|apply J2|apply J3|apply J4))
              replace fhN := hN.facts
              go_wp2_with fail
              go_meet
              case rel => exact ⟨by rw [HI.out]; rfl, by (repeat first|exact J0|assumption|(apply J1;assumption)|apply J2|apply J3|apply J4)⟩
          · cases g2
            · as_aux_lemma =>
                go_wp2_with fail
                refine (c1 _ (hS1.below (by (repeat first|exact J0|assumption|(apply J1;assumption)|apply J2|apply J3|apply J4)))).mono ?_
                rintro e w6 ⟨rfl, hb6⟩
                replace hN := hN.below (show Below _ _ w6 by (repeat first|exact J0|assumption|(apply J1;assumption)|apply J2|apply J3|apply J4))
                replace fhN := hN.facts
                go_wp2_with fail
                refine (c2 _ (hS1.below (by (repeat first|exact J0|assumption|(apply J1;assumption)|apply J2|apply J3|apply J4)))).mono ?_
                rintro e w7 ⟨rfl, hb7⟩
                replace hN := hN.below (show Below _ _ w7 by (repeat first|exact J0|assumption|(apply J1;assumption)|apply J2|apply J3|apply J4))
                replace fhN := hN.facts
                go_wp2_with fail
                go_meet
                case rel => exact ⟨by rw [HI.out]; rfl, by (repeat first|exact J0|assumption|(apply J1;assumption)|apply J2|apply J3|apply J4)⟩
            · cases g3
              · as_aux_lemma =>
                  go_wp2_with fail
                  refine (c1 _ (hS1.below (by (repeat first|exact J0|assumption|(apply J1;assumption)|apply J2|apply J3|apply J4)))).mono ?_
                  rintro e w6 ⟨rfl, hb6⟩
                  replace hN := hN.below (show Below _ _ w6 by (repeat first|exact J0|assumption|(apply J1;assumption)|apply J2|apply J3|apply J4))
                  replace fhN := hN.facts
                  go_wp2_with fail
                  refine (c2 _ (hS1.below (by (repeat first|exact J0|assumption|(apply J1;assumption)|apply J2|apply J3|apply J4)))).mono ?_
                  rintro e w7 ⟨rfl, hb7⟩
                  replace hN := hN.below (show Below _ _ w7 by (repeat first|exact J0|assumption|(apply J1;assumption)|apply J2|apply J3|apply J4))
                  replace fhN := hN.facts
                  go_wp2_with fail
                  refine (c3 _ (hS1.below (by (repeat first|exact J0|assumption|(apply J1;assumption)|apply J2|apply J3|apply J4)))).mono ?_
                  rintro e w8 ⟨rfl, hb8⟩
                  replace hN := hN.below (show Below _ _ w8 by (repeat first|exact J0|assumption|(apply J1;assumption)|apply J2|apply J3|apply J4))
                  replace fhN := hN.facts
                  go_wp2_with fail
                  go_meet
                  case rel => exact ⟨by rw [HI.out]; rfl, by (repeat first|exact J0|assumption|(apply J1;assumption)|apply J2|apply J3|apply J4)⟩
              · as_aux_lemma =>
                  go_wp2_with fail
                  refine (c1 _ (hS1.below (by (repeat first|exact J0|assumption|(apply J1;assumption)|apply J2|apply J3|apply J4)))).mono ?_
                  rintro e w6 ⟨rfl, hb6⟩
                  replace hN := hN.below (show Below _ _ w6 by (repeat first|exact J0|assumption|(apply J1;assumption)|apply J2|apply J3|apply J4))
                  replace fhN := hN.facts
                  go_wp2_with fail
                  refine (c2 _ (hS1.below (by (repeat first|exact J0|assumption|(apply J1;assumption)|apply J2|apply J3|apply J4)))).mono ?_
                  rintro e w7 ⟨rfl, hb7⟩
                  replace hN := hN.below (show Below _ _ w7 by (repeat first|exact J0|assumption|(apply J1;assumption)|apply J2|apply J3|apply J4))
                  replace fhN := hN.facts
                  go_wp2_with fail
                  refine (c3 _ (hS1.below (by (repeat first|exact J0|assumption|(apply J1;assumption)|apply J2|apply J3|apply J4)))).mono ?_
                  rintro e w8 ⟨rfl, hb8⟩
                  replace hN := hN.below (show Below _ _ w8 by (repeat first|exact J0|assumption|(apply J1;assumption)|apply J2|apply J3|apply J4))
                  replace fhN := hN.facts
                  go_wp2_with fail
                  go_meet
                  case rel => exact ⟨by rw [HI.out]; rfl, by (repeat first|exact J0|assumption|(apply J1;assumption)|apply J2|apply J3|apply J4)⟩
      case rest =>
        as_aux_lemma =>
          obtain ⟨rfl, hbc⟩ := hcut
          obtain ⟨w5, rfl⟩ : ∃ x, x = wc := ⟨_, rfl⟩
          have hO5 := hO1.below hbc
          have hbw5 := bl_then hbc hbw1
          obtain ⟨q, hq⟩ : ∃ q, isMesh l (x, y, s) = q := ⟨_, rfl⟩
          rw [hq] at HD ⊢
          clear hq HI fN hN hNd hO1 hS1
          cases q
          · have HD2 : Hid (meshL l (l.take (k + 1)) = meshL l (l.take k)) := by unfold Hid; rw [HD.out]; simp
            go_wp2
            go_roundw
            case rel => exact ⟨k + 1, by omega, by go_num, by rw [HD2.out]; exact hO5, hbw5⟩
            case measure => simp [intOf]; omega
          · have HD2 : Hid (meshL l (l.take (k + 1)) = meshL l (l.take k) ++ [(x, y + 1)]) := HD
            go_wp2_with (at_builtin; refine wpList_appMN hO5 rfl _ _ rfl rfl rfl (by simp) (by omega) hbw5.size ?_; intro v6 w6 hown6 hgr6)
            have hb6 := own_step hO5 hgr6 (by (repeat first|exact J0|assumption|(apply J1;assumption)|apply J2|apply J3|apply J4))
            clear hgr6
            go_wp2
            go_roundw
            case rel => exact ⟨k + 1, by omega, by go_num, by rw [HD2.out]; exact hown6, hb6⟩
            case measure => simp [intOf]; omega
    · have HE : Hid (meshL l l = meshL l (l.take k)) := by unfold Hid; rw [List.take_of_length_le (by omega)]
      go_wp2
      go_ret
      exact ⟨_, rfl, by rw [HE.out]; exact hO, hbw⟩
theorem mirrored_any (x y : Int) (hx : -1000000 ≤ x ∧ x ≤ 1000000) (w : World) : Calls Tryz.prog 89 #[.agg #[.int .i64 x, .int .i64 y]] w (RV w (.agg #[.int .i64 (-x), .int .i64 y])) := by
 have m1 : IntKind.i64.wrap (-x) = -x := by rw [IntWalk.i64_in _ (by omega)]
 go_enter Tryz.func89, Tryz.ntmps89
 go_wp2
 refine bodyPost_ret (v := .agg #[.int .i64 (-x), .int .i64 y]) (by simp [results, Tryz.results89, go_sem]) rfl ?_
 exact ⟨rfl, by (repeat first|exact J0|assumption|(apply J1;assumption)|apply J2|apply J3|apply J4)⟩
theorem turned_any (x y : Int) (hy : -1000000 ≤ y ∧ y ≤ 1000000) (w : World) : Calls Tryz.prog 91 #[.agg #[.int .i64 x, .int .i64 y]] w (RV w (.agg #[.int .i64 (-y), .int .i64 x])) := by
 have m1 : IntKind.i64.wrap (-y) = -y := by rw [IntWalk.i64_in _ (by omega)]
 go_enter Tryz.func91, Tryz.ntmps91
 go_wp2
 refine bodyPost_ret (v := .agg #[.int .i64 (-y), .int .i64 x]) (by simp [results, Tryz.results91, go_sem]) rfl ?_
 exact ⟨rfl, by (repeat first|exact J0|assumption|(apply J1;assumption)|apply J2|apply J3|apply J4)⟩
def mvB (mv : Knot → Knot) (b : Bar) : Bar := btwB (mv (lowK b)) (mv (uppK b))
def mvF (k1 k2 : Knot) (n₀ : Nat) (i : Nat) (v : Value) (W : World) : Prop :=
 (i = 3 → v = .agg #[.int .i64 k1.1, .int .i64 k1.2]) ∧ (i = 7 → v = .agg #[.int .i64 k2.1, .int .i64 k2.2]) ∧
 ((i = 8 ∨ i = 9) → ∃ g, v = .pointer (some ⟨g, 0, none⟩) ∧ n₀ ≤ g ∧ Blk W g 148 #[.int .i64 0, .int .i64 0])
theorem mvF_st (k1 k2 : Knot) (n₀ : Nat) : ∀ i v W W', mvF k1 k2 n₀ i v W → Below W.heap.size W W' → mvF k1 k2 n₀ i v W' := fun i v W W' h hb =>
 ⟨h.1, h.2.1, fun hi => by obtain ⟨g, h1, h0, h2⟩ := h.2.2 hi; exact ⟨g, h1, h0, h2.below hb⟩⟩
theorem moved_any {v : Value} (mv : Knot → Knot) (g : Nat) (hg3 : g = 89 ∨ g = 91)
  (hg : ∀ k W, nearK k → Calls Tryz.prog g #[.agg #[.int .i64 k.1, .int .i64 k.2]] W (RV W (.agg #[.int .i64 (mv k).1, .int .i64 (mv k).2]))) (hnear : ∀ k, nearK k → nearK (mv k))
  (l : List Bar) (w : World) (h : SlB w v l) (hk : ∀ b ∈ l, BarOk b) (hlen : l.length ≤ 10000) :
  Calls Tryz.prog 88 #[v, .func (.func g) #[] #[]] w (RB w (srtB (l.map (mvB mv)))) := by
 obtain ⟨A, c, rfl, hlc, hcm, h⟩ := h
 have HK := Lib.hid hk
 clear hk
 rcases hg3 with rfl | rfl
 all_goals
  go_enter Tryz.func88, Tryz.ntmps88
  go_wp2
  go_loopw [5, 13] (fun o i wr => ∃ k : Nat, k ≤ l.length ∧ i = .int .i64 k ∧ OwB w.heap.size wr o ((l.take k).map (mvB mv)) ∧ Below w.heap.size w wr) (fun _ i _ => l.length - (intOf i).toNat)
  case atStart => exact ⟨0, Nat.zero_le _, rfl, Own.nil_, by (repeat first|exact J0|assumption|(apply J1;assumption)|apply J2|apply J3|apply J4)⟩
  case round =>
   obtain ⟨k, hk, rfl, hO, hbw⟩ := hrel
   obtain ⟨wo, rfl⟩ : ∃ x, x = wr := ⟨_, rfl⟩
   by_cases hlt : k < l.length
   ·have hr := h.below hbw
    obtain ⟨b, off, rfl, hb, e0, e1, e2⟩ := hr.bar hlt
    have hbo := HK.out _ (List.getElem_mem hlt)
    have HD := Lib.hid (map_take (mvB mv) hlt)
    obtain ⟨⟨x, y, s⟩, hx⟩ : ∃ z, l[k] = z := ⟨_, rfl⟩
    rw [hx] at e0 e1 e2 hbo HD
    simp only at e0 e1 e2
    clear hx
    obtain ⟨q1, q2, q3⟩ := hbo
    simp only at q1 q2 q3
    have hll : ((l.take k).map (mvB mv)).length ≤ 10000 := by simp; omega
    have n1 : nearK (x, y) := by unfold nearK; simp only; omega
    have n2 : nearK (x + s, y + 1) := by unfold nearK; simp only; omega
    have m1 := hnear _ n1
    have m2 := hnear _ n2
    have g1 := fun W => hg _ W n1
    have g2 := fun W => hg _ W n2
    simp only at g1 g2
    obtain ⟨⟨ax, ay⟩, hk1⟩ : ∃ z, mv (x, y) = z := ⟨_, rfl⟩
    obtain ⟨⟨bx, bY⟩, hk2⟩ : ∃ z, mv (x + s, y + 1) = z := ⟨_, rfl⟩
    rw [hk1] at g1 m1
    rw [hk2] at g2 m2
    simp only at g1 g2
    have HT : Hid (mvB mv (x, y, s) = btwB (ax, ay) (bx, bY)) := by unfold Hid mvB lowK uppK; simp only; rw [hk1, hk2]
    unfold nearK at m1 m2
    simp only at m1 m2
    clear hk1 hk2 n1 n2
    have hOa := hO.alloc (.cells #[.int .i64 x, .int .i64 y, .int .i64 s] 77)
    go_wp2_with fail
    refine (nends_any _ _ _ (by omega) (by omega) (by omega) _).mono ?_
    rintro e w1 ⟨rfl, hb1⟩
    have hO1 := hOa.below hb1
    have hbw1 : Below w.heap.size w w1 := by (repeat first|exact J0|assumption|(apply J1;assumption)|apply J2|apply J3|apply J4)
    have hE1 := Blk.new w1 207 #[.int .i64 x, .int .i64 y, .int .i64 (x + s), .int .i64 (y + 1)]
    have hO2 := hO1.alloc (.cells #[.int .i64 x, .int .i64 y, .int .i64 (x + s), .int .i64 (y + 1)] 207)
    have hbw2 : Below w.heap.size w (w1.alloc (.cells #[.int .i64 x, .int .i64 y, .int .i64 (x + s), .int .i64 (y + 1)] 207)) := by (repeat first|exact J0|assumption|(apply J1;assumption)|apply J2|apply J3|apply J4)
    obtain ⟨w2, hw2⟩ : ∃ X, w1.alloc (.cells #[.int .i64 x, .int .i64 y, .int .i64 (x + s), .int .i64 (y + 1)] 207) = X := ⟨_, rfl⟩
    rw [hw2] at hE1 hO2 hbw2
    have fE := hE1.facts
    clear hOa hO1 hO e0 e1 e2 hr
    go_upto_region 6 with fail
    clear hw2
    refine wp_region_facts (mvF (ax, ay) (bx, bY) w2.heap.size) [0, 1, 2, 4, 5, 6] [8, 9] [3, 7, 8, 9] [10, 11] (by decide) (by kernel_rfl) (by kernel_rfl) (fun d _ _ _ _ h => by cases d <;> exact h) (mvF_st (ax, ay) (bx, bY) w2.heap.size) ?_
    simp only [List.map_cons, List.map_nil, List.getD_cons_zero, List.getD_cons_succ]
    repeat (go_big_quiet_step (fail))
    refine wpQuiet_nil ⟨List.forall_mem_cons.2 ⟨?_, List.forall_mem_cons.2 ⟨?_, List.forall_mem_cons.2 ⟨?_, List.forall_mem_cons.2 ⟨?_, List.forall_mem_nil _⟩⟩⟩⟩, ?_⟩
    ·intro vals W hbW hF
     refine facts_step (fun K hK => ?_)
     simp only [putAll, Array.getD_eq_getD_getElem?, List.getElem?_toArray, List.getElem?_cons_succ, List.getElem?_cons_zero, Option.getD_some, List.getD_cons_succ, List.getD_cons_zero, Act.put, List.setIfInBounds_toArray, List.set_cons_zero, List.set_cons_succ]
     go_simp
     refine (g1 _).mono ?_
     rintro e w1 ⟨rfl, hb1⟩
     exact hK _ _ _ rfl hb1 ⟨fun _ => rfl, fun h => by simp at h, fun h => by simp at h⟩ (fun h => by simp at h)
    ·intro vals W hbW hF
     refine facts_step (fun K hK => ?_)
     simp only [putAll, Array.getD_eq_getD_getElem?, List.getElem?_toArray, List.getElem?_cons_succ, List.getElem?_cons_zero, Option.getD_some, List.getD_cons_succ, List.getD_cons_zero, Act.put, List.setIfInBounds_toArray, List.set_cons_zero, List.set_cons_succ]
     go_simp
     refine (g2 _).mono ?_
     rintro e w1 ⟨rfl, hb1⟩
     exact hK _ _ _ rfl hb1 ⟨fun h => by simp at h, fun _ => rfl, fun h => by simp at h⟩ (fun h => by simp at h)
    ·intro vals W hbW hF
     refine facts_step (fun K hK => ?_)
     simp only [putAll, Array.getD_eq_getD_getElem?, List.getElem?_toArray, List.getElem?_cons_succ, List.getElem?_cons_zero, Option.getD_some, List.getD_cons_succ, List.getD_cons_zero, Act.put, List.setIfInBounds_toArray, List.set_cons_zero, List.set_cons_succ]
     go_simp
     exact hK _ _ _ rfl (bl_alloc bl_refl _) ⟨fun h => by simp at h, fun h => by simp at h, fun _ => ⟨_, rfl, hbW.size, Blk.new _ _ _⟩⟩ (fun _ => ⟨_, rfl, Nat.le_refl _, by simp⟩)
    ·intro vals W hbW hF
     refine facts_step (fun K hK => ?_)
     simp only [putAll, Array.getD_eq_getD_getElem?, List.getElem?_toArray, List.getElem?_cons_succ, List.getElem?_cons_zero, Option.getD_some, List.getD_cons_succ, List.getD_cons_zero, Act.put, List.setIfInBounds_toArray, List.set_cons_zero, List.set_cons_succ]
     go_simp
     exact hK _ _ _ rfl (bl_alloc bl_refl _) ⟨fun h => by simp at h, fun h => by simp at h, fun _ => ⟨_, rfl, hbW.size, Blk.new _ _ _⟩⟩ (fun _ => ⟨_, rfl, Nat.le_refl _, by simp⟩)
    ·intro vals W hbW hF hAp
     simp only [putAll, Array.getD_eq_getD_getElem?, List.getElem?_toArray, List.getElem?_cons_succ, List.getElem?_cons_zero, Option.getD_some, Act.put, List.setIfInBounds_toArray, List.set_cons_zero, List.set_cons_succ]
     have h1 := (hF 3 (by simp)).1 rfl
     have h3 := (hF 7 (by simp)).2.1 rfl
     obtain ⟨g4, e4, hg4, hB4⟩ := (hF 8 (by simp)).2.2 (.inl rfl)
     obtain ⟨g5, e5, hg5, hB5⟩ := (hF 9 (by simp)).2.2 (.inr rfl)
     have hne := hAp.2 8 (by simp) 9 (by simp) (by simp)
     simp only [h1, h3, e4, e5] at hne ⊢
     have hne' : ¬ g4 = g5 ∧ ¬ g5 = g4 := ⟨fun e => hne (by rw [e]), fun e => hne (by rw [e])⟩
     clear hF hAp h1 h3 e4 e5 hne fE
     refine wpList_store_blk hB4 rfl _ _ _ rfl rfl rfl (by rfl) (by kernel_rfl) (by kernel_rfl) fun w3 hB4 hc3 => ?_
     refine wpList_store_blk (hB5.chg hc3 (by simp [hne'])) rfl _ _ _ rfl rfl rfl (by rfl) (by kernel_rfl) (by kernel_rfl) fun w4 hB5 hc4 => ?_
     replace hB4 := hB4.chg hc4 (by simp [hne'])
     have f4 := hB4.facts
     have f5 := hB5.facts
     have hc := ((Chg.of_below hbW).trans (hc3.mono (S' := [g4, g5]) (by simp))).trans (hc4.mono (S' := [g4, g5]) (by simp))
     have hb4 : Below w2.heap.size w2 w4 := hc.below (by simp; omega) (Nat.le_refl _)
     have hO4 := hO2.below hb4
     have hO2b := hO2
     have hbw4 : Below w.heap.size w w4 := bl_then hb4 hbw2
     clear hc hc3 hc4 hO2
     have d1 : IntKind.i64.wrap (bx - ax) = bx - ax := IntWalk.i64_in _ (by omega)
     have d2 : IntKind.i64.wrap (ax - bx) = ax - bx := IntWalk.i64_in _ (by omega)
     by_cases hsw : bY < ay
     ·have HTT : Hid (mvB mv (x, y, s) = (bx, bY, ax - bx)) := by unfold Hid; rw [HT.out]; unfold btwB; rw [if_pos hsw]
      have t1 : (bY < ay) = True := eq_true hsw
      clear hsw
      have hs4 := hb4.size
      go_wp2_with (first
       | (refine wpList_store_blk hB4 rfl _ _ _ rfl rfl rfl (by rfl) (by kernel_rfl) (by kernel_rfl) ?_; intro w7 hB7 hc7; have hB5' := hB5.chg hc7 (by simp [hne']))
       | (refine wpList_store_blk hB5' rfl _ _ _ rfl rfl rfl (by rfl) (by kernel_rfl) (by kernel_rfl) ?_; intro w8 hB8 hc8; have hB7' := hB7.chg hc8 (by simp [hne']); have f7 := hB7'.facts; have f8 := hB8.facts; have hb8 : Below w2.heap.size w2 w8 := hb4.trans (((hc7.mono (S' := [g4, g5]) (by simp)).trans (hc8.mono (S' := [g4, g5]) (by simp))).below (by simp; omega) hs4); have hO5 := hO2b.below hb8; have hbw5 := bl_then hb8 hbw2)
       | (at_builtin; refine wpList_appB1 hO5 rfl _ _ rfl rfl rfl (by simp) (by omega) hbw5.size ?_; intro v6 w6 hown6 hgr6))
      have hb6 := own_step hO5 hgr6 (by (repeat first|exact J0|assumption|(apply J1;assumption)|apply J2|apply J3|apply J4))
      clear hgr6
      go_wp2
      go_roundw
      case rel => exact ⟨k + 1, by omega, by go_num, by rw [HD.out, HTT.out]; exact hown6, hb6⟩
      case measure => simp [intOf]; omega
     ·have HTT : Hid (mvB mv (x, y, s) = (ax, ay, bx - ax)) := by unfold Hid; rw [HT.out]; unfold btwB; rw [if_neg hsw]
      have t1 : (bY < ay) = False := eq_false hsw
      clear hsw
      have hO5 := hO4
      have hbw5 := hbw4
      clear hO4 hbw4
      go_wp2_with (at_builtin; refine wpList_appB1 hO5 rfl _ _ rfl rfl rfl (by simp) (by omega) hbw5.size ?_; intro v6 w6 hown6 hgr6)
      have hb6 := own_step hO5 hgr6 (by (repeat first|exact J0|assumption|(apply J1;assumption)|apply J2|apply J3|apply J4))
      clear hgr6
      go_wp2
      go_roundw
      case rel => exact ⟨k + 1, by omega, by go_num, by rw [HD.out, HTT.out]; exact hown6, hb6⟩
      case measure => simp [intOf]; omega
   ·have HE : Hid (l.map (mvB mv) = (l.take k).map (mvB mv)) := by unfold Hid; rw [List.take_of_length_le (by omega)]
    have hO3 : OwB w.heap.size wo _ (l.map (mvB mv)) := HE.out ▸ hO
    go_wp2_with fail
    refine (sortB_any _ _ hO3 (by simp; omega)).mono ?_
    rintro e w4 ⟨rfl, hO4, hg4⟩
    have hb4 := own_step hO3 hg4 hbw
    go_wp2
    go_ret
    exact ⟨_, rfl, hO4, hb4⟩
end Go.Proofs.YtkkefahobjlagaaGreatDoor

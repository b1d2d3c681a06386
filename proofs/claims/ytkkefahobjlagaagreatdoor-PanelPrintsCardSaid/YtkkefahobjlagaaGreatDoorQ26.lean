/- Stack, walked. Conditions: none. -/
import Derived.Test.YtkkefahobjlagaaGreatDoorQ25
import Derived.Test.YtkkefahobjlagaaGreatDoorQ08
import Derived.Test.YtkkefahobjlagaaGreatDoorQ13
import Derived.Test.YtkkefahobjlagaaGreatDoorQ07
namespace Go.Proofs.YtkkefahobjlagaaGreatDoor
open Go.RowKit Go.ChangeMaps
set_option maxHeartbeats 4000000
set_option maxRecDepth 100000
attribute [local go_sem] Oper.semAt_some
def stkQ (a b : Pan) : Pan := (a.1, a.2.1, a.2.2.1 ++ b.2.2.1, a.2.2.2 ++ b.2.2.2)
def twoP (a b : Pan) : Int := firstI [panE a, panE b]
def stkE (a b : Pan) : Int := if twoP a b ≠ 0 then twoP a b else if topX a true - topX a false ≠ 2 * b.2.1 then 24 else 0
theorem twoP_zero {a b : Pan} (h : twoP a b = 0) : panE a = 0 ∧ panE b = 0 := firstI_zero h
theorem apiStack_any {vL vR uL uR : Value} (a b : Pan) (w : World) (hna : a.1.length ≤ 1000000) (hnb : b.1.length ≤ 1000000) (hL : SlE w vL a.2.2.1) (hR : SlE w vR a.2.2.2) (kL : SlE w uL b.2.2.1) (kR : SlE w uR b.2.2.2) :
  Calls Tryz.prog 16 #[.agg #[sV a.1, .int .i64 a.2.1, vL, vR], .agg #[sV b.1, .int .i64 b.2.1, uL, uR]] w (RPN w (pcR (stkE a b) (stkQ a b)) (pcE (stkE a b) (stkQ a b))) := by
 have hc := fun W (hb : Below w.heap.size w W) => checkPanel_any a W hna (hL.below hb) (hR.below hb)
 have hd := fun W (hb : Below w.heap.size w W) => checkPanel_any b W hnb (kL.below hb) (kR.below hb)
 have hf2 : ∀ A c' W, Rd ic 1 W A [panE a, panE b] → Calls Tryz.prog 72 #[.slice A 2 c'] W (RV W (.int .i64 (twoP a b))) := fun A c' W hr => pfirst_any [panE a, panE b] A c' W (by simp [maxLen]) hr
 have HZ0 : Hid (∀ e, e ≠ 0 → stkE a b = e → pcR (stkE a b) (stkQ a b) = panZ ∧ pcE (stkE a b) (stkQ a b) = e) := by
  intro e he h
  have h2 : pcE (stkE a b) (stkQ a b) = e := by unfold pcE; rw [h, if_pos he]
  exact ⟨by unfold pcR; rw [h2, if_neg he], h2⟩
 have HZ1 : Hid (stkE a b = 0 → pcR (stkE a b) (stkQ a b) = pcR 0 (stkQ a b) ∧ pcE (stkE a b) (stkQ a b) = panE (stkQ a b)) := by
  intro h
  rw [h]
  exact ⟨rfl, by unfold pcE; rw [if_neg (by simp)]⟩
 by_cases hE : twoP a b = 0
 ·obtain ⟨hE1, hE2⟩ := twoP_zero hE
  have hok := panE_zero hE1
  have hok2 := panE_zero hE2
  have la := hok.left.few
  have ra := hok.right.few
  have lb := hok2.left.few
  have rb := hok2.right.few
  have hwb := hok2.wid
  have hcn := fun W (hb : Below w.heap.size w W) => corners_any a W (hL.below hb) (hR.below hb) hok
  have hx1 := topX_near hok false
  have hx2 := topX_near hok true
  obtain ⟨x0, x1, x2, x3, y2, y3, hC⟩ : ∃ x0 x1 x2 x3 y2 y3 : Int, cornA a = #[.int .i64 x0, .int .i64 x1, .int .i64 x2, .int .i64 x3, .int .i64 (topX a false), .int .i64 y2, .int .i64 (topX a true), .int .i64 y3] := ⟨_, _, _, _, _, _, rfl⟩
  rw [hC] at hcn
  have HS : Hid (stkE a b = if topX a true - topX a false ≠ 2 * b.2.1 then 24 else 0) := by unfold Hid stkE; rw [if_neg (by simp [hE])]
  rw [hE] at hf2
  obtain ⟨X1, hX1⟩ : ∃ X, topX a false = X := ⟨_, rfl⟩
  obtain ⟨X2, hX2⟩ : ∃ X, topX a true = X := ⟨_, rfl⟩
  rw [hX1] at hcn HS hx1
  rw [hX2] at hcn HS hx2
  have cl := fun W (hb : Below w.heap.size w W) => joined_any a.2.2.1 b.2.2.1 W (hL.below hb) (kL.below hb) (by omega) (by omega)
  have cr := fun W (hb : Below w.heap.size w W) => joined_any a.2.2.2 b.2.2.2 W (hR.below hb) (kR.below hb) (by omega) (by omega)
  have hch := fun W vl vr hl hr => checked_any (vL := vl) (vR := vr) (stkQ a b) W hna hl hr
  have HCH := Lib.hid hch
  obtain ⟨E1, hEE1⟩ : ∃ E, panE a = E := ⟨_, rfl⟩
  rw [hEE1] at hc hf2
  obtain ⟨E2, hEE2⟩ : ∃ E, panE b = E := ⟨_, rfl⟩
  rw [hEE2] at hd hf2
  obtain ⟨AL, cL, rfl, _, _, _⟩ := hL
  obtain ⟨AR, cR, rfl, _, _, _⟩ := hR
  obtain ⟨BL, dL, rfl, _, _, _⟩ := kL
  obtain ⟨BR, dR, rfl, _, _, _⟩ := kR
  have hs : sV a.1 = .string ⟨a.1.toArray⟩ := rfl
  have hs2 : sV b.1 = .string ⟨b.1.toArray⟩ := rfl
  rw [hs] at hc hcn
  rw [hs2] at hd
  rw [hs, hs2]
  have hP := ((Blk.new w 30 #[.string ⟨a.1.toArray⟩, .int .i64 a.2.1, .slice AL a.2.2.1.length cL, .slice AR a.2.2.2.length cR]).alloc (.cells #[.string ⟨b.1.toArray⟩, .int .i64 b.2.1, .slice BL b.2.2.1.length dL, .slice BR b.2.2.2.length dR] 30)).alloc (.cells zeroPV 30)
  have hQ := (Blk.new1 w (.cells #[.string ⟨a.1.toArray⟩, .int .i64 a.2.1, .slice AL a.2.2.1.length cL, .slice AR a.2.2.2.length cR] 30) 30 #[.string ⟨b.1.toArray⟩, .int .i64 b.2.1, .slice BL b.2.2.1.length dL, .slice BR b.2.2.2.length dR]).alloc (.cells zeroPV 30)
  have hZ := Blk.new2 w (.cells #[.string ⟨a.1.toArray⟩, .int .i64 a.2.1, .slice AL a.2.2.1.length cL, .slice AR a.2.2.2.length cR] 30) (.cells #[.string ⟨b.1.toArray⟩, .int .i64 b.2.1, .slice BL b.2.2.1.length dL, .slice BR b.2.2.2.length dR] 30) 30 zeroPV
  unfold zeroPV at hP hQ hZ
  clear hE hE1 hE2 hEE1 hEE2 hch hs hs2 hX1 hX2 hC hna hnb
  go_enter Tryz.func16, Tryz.ntmps16
  go_upto_region 1 with fail
  obtain ⟨w1, hw1⟩ : ∃ X, ((w.alloc (.cells #[.string ⟨a.1.toArray⟩, .int .i64 a.2.1, .slice AL a.2.2.1.length cL, .slice AR a.2.2.2.length cR] 30)).alloc (.cells #[.string ⟨b.1.toArray⟩, .int .i64 b.2.1, .slice BL b.2.2.1.length dL, .slice BR b.2.2.2.length dR] 30)).alloc (.cells #[.string ⟨#[]⟩, .int .i64 0, .slice none 0 0, .slice none 0 0] 30) = X := ⟨_, rfl⟩
  have hb1 : Below w.heap.size w w1 := by rw [← hw1]; exact bl_alloc (bl_alloc (bl_alloc bl_refl _) _) _
  rw [hw1] at hP hQ hZ ⊢
  clear hw1
  have fhP := hP.facts
  have fhQ := hQ.facts
  refine wp_region_ords [0, 2] [(1, false)] [3, 4, 5, 6] (by kernel_rfl) (by kernel_rfl) (fun d _ _ _ _ h => by cases d <;> exact h) ?_
  simp only [List.map_cons, List.map_nil, List.getD_cons_zero, List.getD_cons_succ]
  repeat (go_big_quiet_step (fail))
  refine wpQuiet_nil ?_
  refine wpMid_run rfl (fun K hK => ?_)
  go_simp
  refine (hc _ (by (repeat first|exact J0|assumption|(apply J1;assumption)|apply J2|apply J3|apply J4))).mono ?_
  rintro e w2 ⟨rfl, hb2⟩
  refine hK _ _ (by (repeat first|exact J0|assumption|(apply J1;assumption)|apply J2|apply J3|apply J4)) ?_
  clear hK K
  have hP_w2 := hP.below (show Below _ _ w2 by (repeat first|exact J0|assumption|(apply J1;assumption)|apply J2|apply J3|apply J4))
  have fhP_w2 := hP_w2.facts
  have hQ_w2 := hQ.below (show Below _ _ w2 by (repeat first|exact J0|assumption|(apply J1;assumption)|apply J2|apply J3|apply J4))
  have fhQ_w2 := hQ_w2.facts
  have hZ_w2 := hZ.below (show Below _ _ w2 by (repeat first|exact J0|assumption|(apply J1;assumption)|apply J2|apply J3|apply J4))
  have fhZ_w2 := hZ_w2.facts
  refine wpMid_nil ?_
  go_wp2_with (go_at_call 61; refine (hd _ (by (repeat first|exact J0|assumption|(apply J1;assumption)|apply J2|apply J3|apply J4))).mono ?_; rintro e w3 ⟨rfl, hb3⟩)
  go_must (refine (hf2 _ _ _ (Rd.ints2 (by simp) (by go_simp) (by go_simp))).mono ?_)
  rintro e w4 ⟨rfl, hb4⟩
  have hb14 : Below w1.heap.size w1 w4 := by (repeat first|exact J0|assumption|(apply J1;assumption)|apply J2|apply J3|apply J4)
  replace hP := hP.below hb14
  replace hQ := hQ.below hb14
  replace hZ := hZ.below hb14
  have hbw4 : Below w.heap.size w w4 := bl_then hb14 hb1
  replace fhP := hP.facts
  replace fhQ := hQ.facts
  replace fhZ := hZ.facts
  clear hc hd hf2 hb14 hb2 hb3 hb4 hb1 hP_w2 hQ_w2 hZ_w2 fhP_w2 fhQ_w2 fhZ_w2
  go_wp2_with fail
  refine (hcn _ (by (repeat first|exact J0|assumption|(apply J1;assumption)|apply J2|apply J3|apply J4))).mono ?_
  rintro e w5 ⟨rfl, hb5⟩
  replace hP := hP.below (show Below _ _ w5 by (repeat first|exact J0|assumption|(apply J1;assumption)|apply J2|apply J3|apply J4))
  replace fhP := hP.facts
  replace hQ := hQ.below (show Below _ _ w5 by (repeat first|exact J0|assumption|(apply J1;assumption)|apply J2|apply J3|apply J4))
  replace fhQ := hQ.facts
  replace hZ := hZ.below (show Below _ _ w5 by (repeat first|exact J0|assumption|(apply J1;assumption)|apply J2|apply J3|apply J4))
  replace fhZ := hZ.facts
  have hK := Blk.new w5 41 #[.int .i64 x0, .int .i64 x1, .int .i64 x2, .int .i64 x3, .int .i64 X1, .int .i64 y2, .int .i64 X2, .int .i64 y3]
  replace hP := hP.alloc (.cells #[.int .i64 x0, .int .i64 x1, .int .i64 x2, .int .i64 x3, .int .i64 X1, .int .i64 y2, .int .i64 X2, .int .i64 y3] 41)
  replace hQ := hQ.alloc (.cells #[.int .i64 x0, .int .i64 x1, .int .i64 x2, .int .i64 x3, .int .i64 X1, .int .i64 y2, .int .i64 X2, .int .i64 y3] 41)
  replace hZ := hZ.alloc (.cells #[.int .i64 x0, .int .i64 x1, .int .i64 x2, .int .i64 x3, .int .i64 X1, .int .i64 y2, .int .i64 X2, .int .i64 y3] 41)
  have hbw6 : Below w.heap.size w (w5.alloc (.cells #[.int .i64 x0, .int .i64 x1, .int .i64 x2, .int .i64 x3, .int .i64 X1, .int .i64 y2, .int .i64 X2, .int .i64 y3] 41)) := bl_alloc (bl_then hb5 hbw4) _
  go_upto_region 5 with fail
  obtain ⟨w6, hw6⟩ : ∃ X, w5.alloc (.cells #[.int .i64 x0, .int .i64 x1, .int .i64 x2, .int .i64 x3, .int .i64 X1, .int .i64 y2, .int .i64 X2, .int .i64 y3] 41) = X := ⟨_, rfl⟩
  obtain ⟨gk, hgk⟩ : ∃ X, w5.heap.size = X := ⟨_, rfl⟩
  rw [hw6] at hP hQ hZ hbw6
  rw [hw6, hgk] at hK
  rw [hw6, hgk]
  clear hw6 hgk hcn hb5 hbw4
  replace fhP := hP.facts
  replace fhQ := hQ.facts
  replace fhZ := hZ.facts
  have fK := hK.facts
  by_cases hx : X2 - X1 = 2 * b.2.1
  ·have t1 : (X2 - X1 != 2 * b.2.1) = false := by rw [bne_eq_false_iff_eq]; exact hx
   obtain ⟨hr1, hr2⟩ := HZ1.out (by rw [HS.out, if_neg (by simp [hx])])
   have HR := Lib.hid (And.intro hr1 hr2)
   obtain ⟨EQ, hEQ⟩ : ∃ E, panE (stkQ a b) = E := ⟨_, rfl⟩
   rw [hEQ] at HCH HR
   clear hx hr1 hr2 hEQ HZ0 HZ1 HS
   go_upto_region 7 with fail
   refine wp_region_ords [0, 1, 2, 3, 4, 5, 6, 7, 9, 10, 11, 12] [(8, false), (13, false), (14, false), (15, false), (16, true), (17, false)] [18, 19] (by kernel_rfl) (by kernel_rfl) (fun d _ _ _ _ h => by cases d <;> exact h) ?_
   simp only [List.map_cons, List.map_nil, List.getD_cons_zero, List.getD_cons_succ]
   repeat (go_big_quiet_step (fail))
   refine wpQuiet_nil ?_
   refine wpMid_run rfl (fun K hK => ?_)
   go_simp
   refine (cl _ (by (repeat first|exact J0|assumption|(apply J1;assumption)|apply J2|apply J3|apply J4))).mono ?_
   rintro e w8 ⟨v8, rfl, hO8, hb8⟩
   refine hK _ _ (by (repeat first|exact J0|assumption|(apply J1;assumption)|apply J2|apply J3|apply J4)) ?_
   clear hK K
   have hP_w8 := hP.below (show Below _ _ w8 by (repeat first|exact J0|assumption|(apply J1;assumption)|apply J2|apply J3|apply J4))
   have fhP_w8 := hP_w8.facts
   have hQ_w8 := hQ.below (show Below _ _ w8 by (repeat first|exact J0|assumption|(apply J1;assumption)|apply J2|apply J3|apply J4))
   have fhQ_w8 := hQ_w8.facts
   have hZ_w8 := hZ.below (show Below _ _ w8 by (repeat first|exact J0|assumption|(apply J1;assumption)|apply J2|apply J3|apply J4))
   have fhZ_w8 := hZ_w8.facts
   obtain ⟨A8, c8, rfl⟩ := hO8.shape
   simp only [List.length_append] at hO8
   refine wpMid_run rfl (fun K hK => ?_)
   go_simp
   refine (cr _ (by (repeat first|exact J0|assumption|(apply J1;assumption)|apply J2|apply J3|apply J4))).mono ?_
   rintro e w9 ⟨v9, rfl, hO9, hb9⟩
   refine hK _ _ (by (repeat first|exact J0|assumption|(apply J1;assumption)|apply J2|apply J3|apply J4)) ?_
   clear hK K
   have hP_w9 := hP.below (show Below _ _ w9 by (repeat first|exact J0|assumption|(apply J1;assumption)|apply J2|apply J3|apply J4))
   have fhP_w9 := hP_w9.facts
   have hQ_w9 := hQ.below (show Below _ _ w9 by (repeat first|exact J0|assumption|(apply J1;assumption)|apply J2|apply J3|apply J4))
   have fhQ_w9 := hQ_w9.facts
   have hZ_w9 := hZ.below (show Below _ _ w9 by (repeat first|exact J0|assumption|(apply J1;assumption)|apply J2|apply J3|apply J4))
   have fhZ_w9 := hZ_w9.facts
   obtain ⟨A9, c9, rfl⟩ := hO9.shape
   simp only [List.length_append] at hO9
   refine wpMid_run rfl (fun K hK => ?_)
   go_simp
   refine hK _ _ (by (repeat first|exact J0|assumption|(apply J1;assumption)|apply J2|apply J3|apply J4)) ?_
   clear hK K
   refine wpMid_run rfl (fun K hK => ?_)
   go_simp
   refine (HCH.out _ _ _ ((hO8.rd ec_len).below (by (repeat first|exact J0|assumption|(apply J1;assumption)|apply J2|apply J3|apply J4))) (hO9.rd ec_len)).mono ?_
   rintro e w10 ⟨rfl, hb10⟩
   refine hK _ _ (by (repeat first|exact J0|assumption|(apply J1;assumption)|apply J2|apply J3|apply J4)) ?_
   clear hK K
   have hP_w10 := hP.below (show Below _ _ w10 by (repeat first|exact J0|assumption|(apply J1;assumption)|apply J2|apply J3|apply J4))
   have fhP_w10 := hP_w10.facts
   have hQ_w10 := hQ.below (show Below _ _ w10 by (repeat first|exact J0|assumption|(apply J1;assumption)|apply J2|apply J3|apply J4))
   have fhQ_w10 := hQ_w10.facts
   have hZ_w10 := hZ.below (show Below _ _ w10 by (repeat first|exact J0|assumption|(apply J1;assumption)|apply J2|apply J3|apply J4))
   have fhZ_w10 := hZ_w10.facts
   obtain ⟨A7, c7, A77, c77, hcv, hu1, hu2⟩ := checked_own (stkQ a b) w9 w10 ((hO8.below (show Below w8.heap.size w8 w9 by (repeat first|exact J0|assumption|(apply J1;assumption)|apply J2|apply J3|apply J4))).base_mono (show w6.heap.size ≤ _ by exact Below.size (by (repeat first|exact J0|assumption|(apply J1;assumption)|apply J2|apply J3|apply J4)))) (hO9.base_mono (show w6.heap.size ≤ _ by exact Below.size (by (repeat first|exact J0|assumption|(apply J1;assumption)|apply J2|apply J3|apply J4)))) hb10
   rw [hcv]
   refine wpMid_take rfl ?_
   intro K hK
   go_big_quiet_op
   go_big_quiet_on
   refine wpMid_run rfl (fun K hK => ?_)
   go_simp
   refine hK _ _ (by (repeat first|exact J0|assumption|(apply J1;assumption)|apply J2|apply J3|apply J4)) ?_
   clear hK K
   refine wpMid_nil ?_
   obtain ⟨Q, hQ9⟩ : ∃ Q, pcR 0 (stkQ a b) = Q := ⟨_, rfl⟩
   rw [hQ9] at hu1 hu2 ⊢
   have HQQ := Lib.hid hQ9
   clear hQ9
   have hbb : Below w6.heap.size w6 w10 := by (repeat first|exact J0|assumption|(apply J1;assumption)|apply J2|apply J3|apply J4)
   go_wp2_with (refine wpList_store_blk hZ_w10 rfl _ _ _ rfl rfl rfl (by rfl) (by kernel_rfl) (by kernel_rfl) ?_; intro w12 hZ12 hc12; have f12 := hZ12.facts)
   refine bodyPost_ret (v := .tuple #[.agg #[.string ⟨Q.1.toArray⟩, .int .i64 Q.2.1, .slice A7 Q.2.2.1.length c7, .slice A77 Q.2.2.2.length c77], .int .i64 EQ]) (by simp [results, Tryz.results16, go_sem, f12]) rfl ?_
   have hz1 : w.heap.size + 1 + 1 < w6.heap.size := hZ.lt
   obtain rfl := HQQ.out
   rw [HR.out.1, HR.out.2]
   exact ⟨_, _, rfl, (hu1.chg hc12 (by simp; omega)).base_mono hbw6.size, (hu2.chg hc12 (by simp; omega)).base_mono hbw6.size, chg_bl (bl_then hbb hbw6) hc12 (by omega)⟩
  ·have t1 : (X2 - X1 != 2 * b.2.1) = true := by rw [bne_iff_ne]; exact hx
   obtain ⟨hr1, hr2⟩ := HZ0.out 24 (by decide) (by rw [HS.out, if_pos hx])
   have HR := Lib.hid (And.intro hr1 hr2)
   clear hx hr1 hr2 HZ0 HZ1 HS
   go_wp2_with (refine wpList_store_blk hZ rfl _ _ _ rfl rfl rfl (by rfl) (by kernel_rfl) (by kernel_rfl) ?_; intro w12 hZ12 hc12; have f12 := hZ12.facts)
   refine bodyPost_ret (v := .tuple #[.agg #[.string ⟨#[]⟩, .int .i64 0, .slice none 0 0, .slice none 0 0], .int .i64 24]) (by simp [results, Tryz.results16, go_sem, f12]) rfl ?_
   rw [HR.out.1, HR.out.2]
   exact ⟨_, _, rfl, Own.nil_, Own.nil_, chg_bl hbw6 hc12 (by omega)⟩
 ·obtain ⟨hr1, hr2⟩ := HZ0.out (twoP a b) hE (by unfold stkE; rw [if_pos hE])
  rw [hr1, hr2]
  have t0 : (twoP a b != 0) = true := by simp [hE]
  obtain ⟨EW, hEW⟩ : ∃ E, twoP a b = E := ⟨_, rfl⟩
  rw [hEW] at hf2 t0 ⊢
  obtain ⟨E1, hEE1⟩ : ∃ E, panE a = E := ⟨_, rfl⟩
  rw [hEE1] at hc hf2
  obtain ⟨E2, hEE2⟩ : ∃ E, panE b = E := ⟨_, rfl⟩
  rw [hEE2] at hd hf2
  obtain ⟨AL, cL, rfl, _, _, _⟩ := hL
  obtain ⟨AR, cR, rfl, _, _, _⟩ := hR
  obtain ⟨BL, dL, rfl, _, _, _⟩ := kL
  obtain ⟨BR, dR, rfl, _, _, _⟩ := kR
  have hs : sV a.1 = .string ⟨a.1.toArray⟩ := rfl
  have hs2 : sV b.1 = .string ⟨b.1.toArray⟩ := rfl
  rw [hs] at hc
  rw [hs2] at hd
  rw [hs, hs2]
  have hP := ((Blk.new w 30 #[.string ⟨a.1.toArray⟩, .int .i64 a.2.1, .slice AL a.2.2.1.length cL, .slice AR a.2.2.2.length cR]).alloc (.cells #[.string ⟨b.1.toArray⟩, .int .i64 b.2.1, .slice BL b.2.2.1.length dL, .slice BR b.2.2.2.length dR] 30)).alloc (.cells zeroPV 30)
  have hQ := (Blk.new1 w (.cells #[.string ⟨a.1.toArray⟩, .int .i64 a.2.1, .slice AL a.2.2.1.length cL, .slice AR a.2.2.2.length cR] 30) 30 #[.string ⟨b.1.toArray⟩, .int .i64 b.2.1, .slice BL b.2.2.1.length dL, .slice BR b.2.2.2.length dR]).alloc (.cells zeroPV 30)
  have hZ := Blk.new2 w (.cells #[.string ⟨a.1.toArray⟩, .int .i64 a.2.1, .slice AL a.2.2.1.length cL, .slice AR a.2.2.2.length cR] 30) (.cells #[.string ⟨b.1.toArray⟩, .int .i64 b.2.1, .slice BL b.2.2.1.length dL, .slice BR b.2.2.2.length dR] 30) 30 zeroPV
  unfold zeroPV at hP hQ hZ
  clear hE hEE1 hEE2 hs hs2 hna hnb hr1 hr2 HZ0 HZ1 hEW
  go_enter Tryz.func16, Tryz.ntmps16
  go_upto_region 1 with fail
  obtain ⟨w1, hw1⟩ : ∃ X, ((w.alloc (.cells #[.string ⟨a.1.toArray⟩, .int .i64 a.2.1, .slice AL a.2.2.1.length cL, .slice AR a.2.2.2.length cR] 30)).alloc (.cells #[.string ⟨b.1.toArray⟩, .int .i64 b.2.1, .slice BL b.2.2.1.length dL, .slice BR b.2.2.2.length dR] 30)).alloc (.cells #[.string ⟨#[]⟩, .int .i64 0, .slice none 0 0, .slice none 0 0] 30) = X := ⟨_, rfl⟩
  have hb1 : Below w.heap.size w w1 := by rw [← hw1]; exact bl_alloc (bl_alloc (bl_alloc bl_refl _) _) _
  rw [hw1] at hP hQ hZ ⊢
  clear hw1
  have fhP := hP.facts
  have fhQ := hQ.facts
  refine wp_region_ords [0, 2] [(1, false)] [3, 4, 5, 6] (by kernel_rfl) (by kernel_rfl) (fun d _ _ _ _ h => by cases d <;> exact h) ?_
  simp only [List.map_cons, List.map_nil, List.getD_cons_zero, List.getD_cons_succ]
  repeat (go_big_quiet_step (fail))
  refine wpQuiet_nil ?_
  refine wpMid_run rfl (fun K hK => ?_)
  go_simp
  refine (hc _ (by (repeat first|exact J0|assumption|(apply J1;assumption)|apply J2|apply J3|apply J4))).mono ?_
  rintro e w2 ⟨rfl, hb2⟩
  refine hK _ _ (by (repeat first|exact J0|assumption|(apply J1;assumption)|apply J2|apply J3|apply J4)) ?_
  clear hK K
  have hP_w2 := hP.below (show Below _ _ w2 by (repeat first|exact J0|assumption|(apply J1;assumption)|apply J2|apply J3|apply J4))
  have fhP_w2 := hP_w2.facts
  have hQ_w2 := hQ.below (show Below _ _ w2 by (repeat first|exact J0|assumption|(apply J1;assumption)|apply J2|apply J3|apply J4))
  have fhQ_w2 := hQ_w2.facts
  have hZ_w2 := hZ.below (show Below _ _ w2 by (repeat first|exact J0|assumption|(apply J1;assumption)|apply J2|apply J3|apply J4))
  have fhZ_w2 := hZ_w2.facts
  refine wpMid_nil ?_
  go_wp2_with (go_at_call 61; refine (hd _ (by (repeat first|exact J0|assumption|(apply J1;assumption)|apply J2|apply J3|apply J4))).mono ?_; rintro e w3 ⟨rfl, hb3⟩)
  go_must (refine (hf2 _ _ _ (Rd.ints2 (by simp) (by go_simp) (by go_simp))).mono ?_)
  rintro e w4 ⟨rfl, hb4⟩
  have hb14 : Below w1.heap.size w1 w4 := by (repeat first|exact J0|assumption|(apply J1;assumption)|apply J2|apply J3|apply J4)
  replace hZ := hZ.below hb14
  have hbw4 : Below w.heap.size w w4 := bl_then hb14 hb1
  have fhZ := hZ.facts
  go_wp2_with (refine wpList_store_blk hZ rfl _ _ _ rfl rfl rfl (by rfl) (by kernel_rfl) (by kernel_rfl) ?_; intro w12 hZ12 hc12; have f12 := hZ12.facts)
  refine bodyPost_ret (v := .tuple #[.agg #[.string ⟨#[]⟩, .int .i64 0, .slice none 0 0, .slice none 0 0], .int .i64 EW]) (by simp [results, Tryz.results16, go_sem, f12]) rfl ?_
  exact ⟨_, _, rfl, Own.nil_, Own.nil_, chg_bl hbw4 hc12 (by omega)⟩
end Go.Proofs.YtkkefahobjlagaaGreatDoor
namespace Go.Proofs.YtkkefahobjlagaaGreatDoor
open Go.RowKit Go.ChangeMaps
set_option maxHeartbeats 4000000
set_option maxRecDepth 100000
@[go_sem] theorem idx4_0 (a b c d e f g h i j k l : Int) (w : World) : (Instr.index 222 (.agg #[.int .i64 a, .int .i64 b, .int .i64 c, .int .i64 d, .int .i64 e, .int .i64 f, .int .i64 g, .int .i64 h, .int .i64 i, .int .i64 j, .int .i64 k, .int .i64 l]) (.int .i64 0)).run Tryz.prog w = .ok (.agg #[.int .i64 a, .int .i64 b, .int .i64 c]) w := by kernel_rfl
@[go_sem] theorem idx4_1 (a b c d e f g h i j k l : Int) (w : World) : (Instr.index 222 (.agg #[.int .i64 a, .int .i64 b, .int .i64 c, .int .i64 d, .int .i64 e, .int .i64 f, .int .i64 g, .int .i64 h, .int .i64 i, .int .i64 j, .int .i64 k, .int .i64 l]) (.int .i64 1)).run Tryz.prog w = .ok (.agg #[.int .i64 d, .int .i64 e, .int .i64 f]) w := by kernel_rfl
@[go_sem] theorem idx4_2 (a b c d e f g h i j k l : Int) (w : World) : (Instr.index 222 (.agg #[.int .i64 a, .int .i64 b, .int .i64 c, .int .i64 d, .int .i64 e, .int .i64 f, .int .i64 g, .int .i64 h, .int .i64 i, .int .i64 j, .int .i64 k, .int .i64 l]) (.int .i64 2)).run Tryz.prog w = .ok (.agg #[.int .i64 g, .int .i64 h, .int .i64 i]) w := by kernel_rfl
@[go_sem] theorem idx4_3 (a b c d e f g h i j k l : Int) (w : World) : (Instr.index 222 (.agg #[.int .i64 a, .int .i64 b, .int .i64 c, .int .i64 d, .int .i64 e, .int .i64 f, .int .i64 g, .int .i64 h, .int .i64 i, .int .i64 j, .int .i64 k, .int .i64 l]) (.int .i64 3)).run Tryz.prog w = .ok (.agg #[.int .i64 j, .int .i64 k, .int .i64 l]) w := by kernel_rfl
def arB (k : Knot) : Nat → Bar
 | 0 => (k.1 - 1, k.2 - 1, 1)
 | 1 => (k.1 + 1, k.2 - 1, -1)
 | 2 => (k.1, k.2, -1)
 | _ => (k.1, k.2, 1)
theorem length_le_of_sub {α : Type} [DecidableEq α] {l D : List α} (hn : l.Nodup) (hs : ∀ x ∈ l, x ∈ D) : l.length ≤ D.length := by
 induction l generalizing D with
 | nil => simp
 | cons a r ih =>
  obtain ⟨h1, h2⟩ := List.nodup_cons.1 hn
  have ha : a ∈ D := hs a (by simp)
  have := ih (D := D.erase a) h2 fun x hx => (List.mem_erase_of_ne (fun e => h1 (by rw [← e]; exact hx))).2 (hs x (by simp [hx]))
  rw [List.length_erase_of_mem ha] at this
  have hp : 0 < D.length := List.length_pos_of_mem ha
  simp only [List.length_cons]
  omega
def atB (k : Knot) (b : Bar) : Bool := decide (lowK b = k) || decide (uppK b = k)
theorem degN_eq (k : Knot) : ∀ l : List Bar, degN l k = l.countP (atB k)
 | [] => rfl
 | b :: r => by
  have ih := degN_eq k r
  have hne := low_ne_upp b
  unfold degN at ih ⊢
  rw [List.countP_cons, ← ih]
  show List.count k ([lowK b, uppK b] ++ endsL r) = _
  rw [List.count_append]
  have e1 : ∀ (p q : Knot), List.count k [p, q] = (if p = k then 1 else 0) + if q = k then 1 else 0 := fun p q => by
   rw [List.count_cons, List.count_cons, List.count_nil]
   simp only [beq_iff_eq]
   omega
  rw [e1]
  have e2 : (if atB k b = true then 1 else 0) = (if lowK b = k then 1 else 0) + if uppK b = k then 1 else 0 := by
   unfold atB
   by_cases h1 : lowK b = k
   ·have h2 : ¬ uppK b = k := fun e => hne (h1.trans e.symm)
    simp [h1, h2]
   ·by_cases h2 : uppK b = k
    ·simp [h1, h2]
    ·simp [h1, h2]
  omega
theorem at_arm {b : Bar} (hb : Sided b) {k : Knot} (h : atB k b = true) : b ∈ [armB k 0, armB k 1, armB k 2, armB k 3] := by
 obtain ⟨x, y, s⟩ := b
 obtain ⟨kx, ky⟩ := k
 simp only [atB, lowK, uppK, Bool.or_eq_true, decide_eq_true_eq, Prod.mk.injEq] at h
 simp only [armB, List.mem_cons, List.not_mem_nil, or_false, Prod.mk.injEq]
 rcases hb with h1 | h1 <;> simp only at h1 <;> subst h1 <;> omega
theorem degN_le {l : List Bar} (hn : l.Nodup) (hs : ∀ b ∈ l, Sided b) (k : Knot) : degN l k ≤ 4 := by
 rw [degN_eq, List.countP_eq_length_filter]
 exact length_le_of_sub (D := [armB k 0, armB k 1, armB k 2, armB k 3]) (hn.filter _) fun b hb => by
  obtain ⟨h1, h2⟩ := List.mem_filter.1 hb
  exact at_arm (hs b h1) h2
def legC (l : List Bar) (K : List Knot) (d : Nat) : Nat := (K.filter fun k => degN l k == d).length
def isMesh (l : List Bar) (b : Bar) : Bool := decide (b.2.2 = -1) && hasb l (b.1, b.2.1, 1) && hasb l (b.1 - 1, b.2.1 + 1, 1) && hasb l (b.1 + 1, b.2.1 + 1, -1)
def meshL (l m : List Bar) : List Knot := (m.filter (isMesh l)).map fun b => (b.1, b.2.1 + 1)
def mvB (mv : Knot → Knot) (b : Bar) : Bar := btwB (mv (lowK b)) (mv (uppK b))
end Go.Proofs.YtkkefahobjlagaaGreatDoor

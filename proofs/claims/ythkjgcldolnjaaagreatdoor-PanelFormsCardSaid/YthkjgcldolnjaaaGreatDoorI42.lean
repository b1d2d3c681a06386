/- The reference: corners, places, walked. Conditions: the panel is valid. -/
import Derived.Test.YthkjgcldolnjaaaGreatDoorI39
import Derived.Test.YthkjgcldolnjaaaGreatDoorI20
namespace Go.Proofs.YthkjgcldolnjaaaGreatDoor
open Go.RowKit Go.ChangeMaps
set_option maxHeartbeats 4000000
set_option maxRecDepth 100000

attribute [local go_sem] Oper.semAt_some
/-! # The reference: corners, places, strips -/
theorem rcorners_any {vL vR : Value} (p : Pan) (w : World) (hL : SlE w vL p.2.2.1) (hR : SlE w vR p.2.2.2) (hok : PanOk p) :
    Calls Tryz.prog 73 #[.agg #[sV p.1, .int .i64 p.2.1, vL, vR]] w (RV w (.agg (cornA p))) := by
  have hw0 : 0 ≤ p.2.1 ∧ p.2.1 ≤ 128 := ⟨by have := hok.wid.1; omega, hok.wid.2⟩
  have o1 := fun W (hb : Below w.heap.size w W) => routline_any p false W (hL.below hb) (hR.below hb) hok.left hok.right hw0
  have o2 := fun W (hb : Below w.heap.size w W) => routline_any p true W (hL.below hb) (hR.below hb) hok.left hok.right hw0
  have l1 : (outP p false).length = (stpL (sideP p false)).length + 1 := outK_len _ _ _
  have l2 : (outP p true).length = (stpL (sideP p true)).length + 1 := outK_len _ _ _
  have h1 := out_head p false
  have h2 := out_head p true
  have e1 := out_last p false
  have e2 := out_last p true
  simp only [sideP, Bool.false_eq_true, if_false, if_true] at e1 e2 l1 l2
  have HC : Hid (cornA p = #[.int .i64 (fromP p false).1, .int .i64 (fromP p false).2, .int .i64 (fromP p true).1, .int .i64 (fromP p true).2,
    .int .i64 (posK false (fromP p false) (stpL p.2.2.1)).1, .int .i64 (posK false (fromP p false) (stpL p.2.2.1)).2, .int .i64 (posK true (fromP p true) (stpL p.2.2.2)).1, .int .i64 (posK true (fromP p true) (stpL p.2.2.2)).2]) := rfl
  obtain ⟨C, hC⟩ : ∃ C, cornA p = C := ⟨_, rfl⟩
  rw [hC] at HC ⊢
  clear hC
  obtain ⟨⟨x1, y1⟩, hk1⟩ : ∃ z, posK false (fromP p false) (stpL p.2.2.1) = z := ⟨_, rfl⟩
  obtain ⟨⟨x2, y2⟩, hk2⟩ : ∃ z, posK true (fromP p true) (stpL p.2.2.2) = z := ⟨_, rfl⟩
  rw [hk1] at e1 HC
  rw [hk2] at e2 HC
  clear hk1 hk2
  obtain ⟨⟨a1, b1⟩, hk1⟩ : ∃ z, fromP p false = z := ⟨_, rfl⟩
  obtain ⟨⟨a2, b2⟩, hk2⟩ : ∃ z, fromP p true = z := ⟨_, rfl⟩
  rw [hk1] at h1 HC
  rw [hk2] at h2 HC
  clear hk1 hk2
  obtain ⟨n1, hn1⟩ : ∃ n, (stpL p.2.2.1).length = n := ⟨_, rfl⟩
  obtain ⟨n2, hn2⟩ : ∃ n, (stpL p.2.2.2).length = n := ⟨_, rfl⟩
  have hs1 : n1 ≤ 512 := by rw [← hn1]; exact hok.left.len
  have hs2 : n2 ≤ 512 := by rw [← hn2]; exact hok.right.len
  rw [hn1] at l1
  rw [hn2] at l2
  clear hn1 hn2
  obtain ⟨O1, hO1⟩ : ∃ O, outP p false = O := ⟨_, rfl⟩
  obtain ⟨O2, hO2⟩ : ∃ O, outP p true = O := ⟨_, rfl⟩
  rw [hO1] at o1 l1 h1 e1
  rw [hO2] at o2 l2 h2 e2
  clear hO1 hO2
  rw [l1, Nat.add_sub_cancel] at e1
  rw [l2, Nat.add_sub_cancel] at e2
  have HH1 := Lib.hid h1
  have HH2 := Lib.hid h2
  have HE1 := Lib.hid e1
  have HE2 := Lib.hid e2
  have HL1 := Lib.hid l1
  have HL2 := Lib.hid l2
  clear h1 h2 e1 e2 l1 l2
  obtain ⟨AL, cL, rfl, _, _, _⟩ := hL
  obtain ⟨AR, cR, rfl, _, _, _⟩ := hR
  unfold sV at o1 o2 ⊢
  have hP := (Blk.new w 24 #[.string ⟨p.1.toArray⟩, .int .i64 p.2.1, .slice AL p.2.2.1.length cL, .slice AR p.2.2.2.length cR]).alloc (.cells #[.int .i64 0, .int .i64 0, .int .i64 0, .int .i64 0, .int .i64 0, .int .i64 0, .int .i64 0, .int .i64 0] 104)
  have hZ := Blk.new1 w (.cells #[.string ⟨p.1.toArray⟩, .int .i64 p.2.1, .slice AL p.2.2.1.length cL, .slice AR p.2.2.2.length cR] 24) 104 #[.int .i64 0, .int .i64 0, .int .i64 0, .int .i64 0, .int .i64 0, .int .i64 0, .int .i64 0, .int .i64 0]
  clear hok hw0
  go_enter Tryz.func73, Tryz.ntmps73
  go_upto_region 1 with fail
  obtain ⟨w1, hw1⟩ : ∃ X, (w.alloc (.cells #[.string ⟨p.1.toArray⟩, .int .i64 p.2.1, .slice AL p.2.2.1.length cL, .slice AR p.2.2.2.length cR] 24)).alloc (.cells #[.int .i64 0, .int .i64 0, .int .i64 0, .int .i64 0, .int .i64 0, .int .i64 0, .int .i64 0, .int .i64 0] 104) = X := ⟨_, rfl⟩
  have hb1 : Below w.heap.size w w1 := by rw [← hw1]; exact bl_alloc (bl_alloc bl_refl _) _
  rw [hw1] at hP hZ ⊢
  clear hw1
  have fhP := hP.facts
  refine wp_region_ords [0, 2] [(1, false)] [3, 4, 5] (by kernel_rfl) (by kernel_rfl) (fun d _ _ _ _ h => by cases d <;> exact h) ?_
  simp only [List.map_cons, List.map_nil, List.getD_cons_zero, List.getD_cons_succ]
  repeat (go_big_quiet_step (fail))
  refine wpQuiet_nil ?_
  refine wpMid_run rfl (fun K hK => ?_)
  go_simp
  refine (o1 _ (by (repeat (first | exact bl_refl | assumption | (apply bl_then; assumption) | refine bl_alloc ?_ _ | refine bl_drew ?_ | refine bl_drewN ?_ _)))).mono ?_
  rintro e w8 ⟨v8, rfl, hO8, hb8⟩
  refine hK _ _ (by (repeat (first | exact bl_refl | assumption | (apply bl_then; assumption) | refine bl_alloc ?_ _ | refine bl_drew ?_ | refine bl_drewN ?_ _))) ?_
  clear hK K
  have hP_w8 := hP.below (show Below _ _ w8 by (repeat (first | exact bl_refl | assumption | (apply bl_then; assumption) | refine bl_alloc ?_ _ | refine bl_drew ?_ | refine bl_drewN ?_ _)))
  have fhP_w8 := hP_w8.facts
  refine wpMid_nil ?_
  go_wp2_with (go_at_call 70; refine (o2 _ (by (repeat (first | exact bl_refl | assumption | (apply bl_then; assumption) | refine bl_alloc ?_ _ | refine bl_drew ?_ | refine bl_drewN ?_ _)))).mono ?_; rintro e w9 ⟨v9, rfl, hO9, hb9⟩)
  obtain ⟨A8, c8, rfl⟩ := hO8.shape
  obtain ⟨_, _, he8, hlc8, hcm8, hr8⟩ := hO8.rd kc_len
  obtain ⟨rfl, rfl⟩ : A8 = _ ∧ c8 = _ := by simpa using he8
  obtain ⟨A9, c9, rfl⟩ := hO9.shape
  obtain ⟨_, _, he9, hlc9, hcm9, hr9⟩ := hO9.rd kc_len
  obtain ⟨rfl, rfl⟩ : A9 = _ ∧ c9 = _ := by simpa using he9
  have hb19 : Below w1.heap.size w1 w9 := by (repeat (first | exact bl_refl | assumption | (apply bl_then; assumption) | refine bl_alloc ?_ _ | refine bl_drew ?_ | refine bl_drewN ?_ _))
  have hbw9 : Below w.heap.size w w9 := bl_then hb19 hb1
  have hZ9 := hZ.below hb19
  replace hr8 := hr8.below (show Below w8.heap.size w8 w9 by (repeat (first | exact bl_refl | assumption | (apply bl_then; assumption) | refine bl_alloc ?_ _ | refine bl_drew ?_ | refine bl_drewN ?_ _)))
  obtain ⟨s8, o8, hA8, hl8, p8, q8⟩ := hr8.knot (k := 0) (by have := HL1.out; omega)
  obtain ⟨s9, o9, hA9, hl9, p9, q9⟩ := hr9.knot (k := 0) (by have := HL2.out; omega)
  obtain ⟨s8', o8', hA8', _, P8, Q8⟩ := hr8.knot (k := n1) (by have := HL1.out; omega)
  obtain ⟨s9', o9', hA9', _, P9, Q9⟩ := hr9.knot (k := n2) (by have := HL2.out; omega)
  subst hA8 hA9
  obtain ⟨rfl, rfl⟩ : s8 = s8' ∧ o8 = o8' := by simpa using hA8'
  obtain ⟨rfl, rfl⟩ : s9 = s9' ∧ o9 = o9' := by simpa using hA9'
  rw [(List.getElem?_eq_some_iff.1 HH1.out).2] at p8 q8
  rw [(List.getElem?_eq_some_iff.1 HH2.out).2] at p9 q9
  rw [(List.getElem?_eq_some_iff.1 HE1.out).2] at P8 Q8
  rw [(List.getElem?_eq_some_iff.1 HE2.out).2] at P9 Q9
  simp only [Nat.zero_mul, Nat.add_zero] at p8 q8 p9 q9 P8 Q8 P9 Q9
  rw [HL1.out, HL2.out]
  have ee1 : (((n1 + 1 : Nat) : Int) - 1) = (n1 : Int) := by omega
  have ee2 : (((n2 + 1 : Nat) : Int) - 1) = (n2 : Int) := by omega
  clear he8 he9 hO8 hO9 hb8 hb9 hP fhP hP_w8 fhP_w8 o1 o2 hZ hb19 hb1 hA8' hA9' hlc8 hcm8 hlc9 hcm9 hr8 hr9
  go_upto_region 2 with fail
  refine wp_region_ords [0, 1, 2, 3, 4, 5, 6, 7, 8, 9, 10, 11, 12, 13, 14, 15, 16, 17, 18] [] [19] (by kernel_rfl) (by kernel_rfl) (fun d _ _ _ _ h => by cases d <;> exact h) ?_
  simp only [List.map_cons, List.map_nil, List.getD_cons_zero, List.getD_cons_succ]
  repeat (go_big_quiet_step (fail))
  refine wpQuiet_nil ?_
  refine wpMid_nil ?_
  go_wp2_with (refine wpList_store_blk (hZ9.drew) rfl _ _ _ rfl rfl rfl (by rfl) (by kernel_rfl) (by kernel_rfl) ?_; intro w12 hZ12 hc12; have f12 := hZ12.facts)
  refine bodyPost_ret (v := .agg #[.int .i64 a1, .int .i64 b1, .int .i64 a2, .int .i64 b2, .int .i64 x1, .int .i64 y1, .int .i64 x2, .int .i64 y2]) (by simp [results, Tryz.results73, go_sem, f12]) rfl ?_
  exact ⟨by rw [HC.out], chg_bl (by (repeat (first | exact bl_refl | assumption | (apply bl_then; assumption) | refine bl_alloc ?_ _ | refine bl_drew ?_ | refine bl_drewN ?_ _))) hc12 (by omega)⟩
/-! ## places -/
end Go.Proofs.YthkjgcldolnjaaaGreatDoor

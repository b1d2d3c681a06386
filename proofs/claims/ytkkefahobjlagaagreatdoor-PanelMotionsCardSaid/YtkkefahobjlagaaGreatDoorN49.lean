/- Nets whose strips are zigzags that overlap, plain. Conditions: none. -/
import Derived.Test.YtkkefahobjlagaaGreatDoorN48
import Derived.Test.YtkkefahobjlagaaGreatDoorN44
import Derived.Test.YtkkefahobjlagaaGreatDoorN43
import Derived.Test.YtkkefahobjlagaaGreatDoorN47
import Derived.Test.YtkkefahobjlagaaGreatDoorN25
import Derived.Test.YtkkefahobjlagaaGreatDoorN42
namespace Go.Proofs.YtkkefahobjlagaaGreatDoor
open Go.RowKit Go.ChangeMaps
set_option maxHeartbeats 4000000
set_option maxRecDepth 100000
variable {l : List Bar} {lo hi : Nat → Int} {H : Nat}
end Go.Proofs.YtkkefahobjlagaaGreatDoor
namespace Go.Proofs.YtkkefahobjlagaaGreatDoor
open Go.RowKit Go.ChangeMaps
set_option maxHeartbeats 4000000
set_option maxRecDepth 100000
attribute [local go_sem] Oper.semAt_some
theorem rPlain_any {vL vR : Value} (p : Pan) (w : World) (hL : SlE w vL p.2.2.1) (hR : SlE w vR p.2.2.2) (hok : PanOk p) :
  Calls Tryz.prog 24 #[.agg #[sV p.1, .int .i64 p.2.1, vL, vR]] w (fun e w' => ∃ xL xR, e = .returned (.agg #[sV p.1, .int .i64 p.2.1, xL, xR]) ∧ Own ec 3 w.heap.size 132 w' xL (plnL (stpL p.2.2.1)) ∧ Own ec 3 w.heap.size 132 w' xR (plnL (stpL p.2.2.2)) ∧ Below w.heap.size w w') := by
 have kL := fun W (hb : Below w.heap.size w W) => rsteps_any p.2.2.1 W (hL.below hb) hok.left
 have kR := fun W (hb : Below w.heap.size w W) => rsteps_any p.2.2.2 W (hR.below hb) hok.right
 have ll := hok.left.len
 have lr := hok.right.len
 have pL := fun (v : Value) W h => rplain_any (v := v) (stpL p.2.2.1) W h (by omega)
 have pR := fun (v : Value) W h => rplain_any (v := v) (stpL p.2.2.2) W h (by omega)
 obtain ⟨AL, cL, rfl, _, _, _⟩ := hL
 obtain ⟨AR, cR, rfl, _, _, _⟩ := hR
 have hs : sV p.1 = .string ⟨p.1.toArray⟩ := rfl
 rw [hs]
 have hP := (Blk.new w 24 #[.string ⟨p.1.toArray⟩, .int .i64 p.2.1, .slice AL p.2.2.1.length cL, .slice AR p.2.2.2.length cR]).alloc (.cells zeroPV 24)
 have hZ := Blk.new1 w (.cells #[.string ⟨p.1.toArray⟩, .int .i64 p.2.1, .slice AL p.2.2.1.length cL, .slice AR p.2.2.2.length cR] 24) 24 zeroPV
 unfold zeroPV at hP hZ
 have fhP := hP.facts
 have fhZ := hZ.facts
 clear hok ll lr hs
 go_enter Tryz.func24, Tryz.ntmps24
 go_upto_region 1 with fail
 obtain ⟨x1, hx1⟩ : ∃ X, (w.alloc (.cells #[.string ⟨p.1.toArray⟩, .int .i64 p.2.1, .slice AL p.2.2.1.length cL, .slice AR p.2.2.2.length cR] 24)).alloc (.cells #[.string ⟨#[]⟩, .int .i64 0, .slice none 0 0, .slice none 0 0] 24) = X := ⟨_, rfl⟩
 have hb1 : Below w.heap.size w x1 := by rw [← hx1]; exact bl_alloc (bl_alloc bl_refl _) _
 rw [hx1] at hP hZ ⊢
 clear hx1
 replace fhP := hP.facts
 replace fhZ := hZ.facts
 refine wp_region_ords [0, 1, 4, 5] [(2, false), (3, false), (8, true), (6, false), (7, false)] [9, 10, 11] (by kernel_rfl) (by kernel_rfl) (fun d _ _ _ _ h => by cases d <;> exact h) ?_
 simp only [List.map_cons, List.map_nil, List.getD_cons_zero, List.getD_cons_succ]
 repeat (go_big_quiet_step (fail))
 refine wpQuiet_nil ?_
 refine wpMid_run rfl (fun K hK => ?_)
 go_simp
 refine (kL _ (by (repeat first|exact J0|assumption|(apply J1;assumption)|apply J2|apply J3|apply J4))).mono ?_
 rintro e w3 ⟨v3, rfl, hO3, hb3⟩
 refine hK _ _ (by (repeat first|exact J0|assumption|(apply J1;assumption)|apply J2|apply J3|apply J4)) ?_
 clear hK K
 have hP_w3 := hP.below (show Below _ _ w3 by (repeat first|exact J0|assumption|(apply J1;assumption)|apply J2|apply J3|apply J4))
 have fhP_w3 := hP_w3.facts
 have hZ_w3 := hZ.below (show Below _ _ w3 by (repeat first|exact J0|assumption|(apply J1;assumption)|apply J2|apply J3|apply J4))
 have fhZ_w3 := hZ_w3.facts
 refine wpMid_run rfl (fun K hK => ?_)
 go_simp
 refine (pL _ _ (hO3.rd sc_len)).mono ?_
 rintro e w4 ⟨v4, rfl, hO4, hb4⟩
 refine hK _ _ (by (repeat first|exact J0|assumption|(apply J1;assumption)|apply J2|apply J3|apply J4)) ?_
 clear hK K
 have hP_w4 := hP.below (show Below _ _ w4 by (repeat first|exact J0|assumption|(apply J1;assumption)|apply J2|apply J3|apply J4))
 have fhP_w4 := hP_w4.facts
 have hZ_w4 := hZ.below (show Below _ _ w4 by (repeat first|exact J0|assumption|(apply J1;assumption)|apply J2|apply J3|apply J4))
 have fhZ_w4 := hZ_w4.facts
 obtain ⟨A4, c4, rfl⟩ := hO4.shape
 refine wpMid_take rfl ?_
 intro K hK
 go_big_quiet_op
 go_big_quiet_on
 refine wpMid_run rfl (fun K hK => ?_)
 go_simp
 refine (kR _ (by (repeat first|exact J0|assumption|(apply J1;assumption)|apply J2|apply J3|apply J4))).mono ?_
 rintro e w6 ⟨v6, rfl, hO6, hb6⟩
 refine hK _ _ (by (repeat first|exact J0|assumption|(apply J1;assumption)|apply J2|apply J3|apply J4)) ?_
 clear hK K
 have hP_w6 := hP.below (show Below _ _ w6 by (repeat first|exact J0|assumption|(apply J1;assumption)|apply J2|apply J3|apply J4))
 have fhP_w6 := hP_w6.facts
 have hZ_w6 := hZ.below (show Below _ _ w6 by (repeat first|exact J0|assumption|(apply J1;assumption)|apply J2|apply J3|apply J4))
 have fhZ_w6 := hZ_w6.facts
 refine wpMid_run rfl (fun K hK => ?_)
 go_simp
 refine (pR _ _ (hO6.rd sc_len)).mono ?_
 rintro e w7 ⟨v7, rfl, hO7, hb7⟩
 refine hK _ _ (by (repeat first|exact J0|assumption|(apply J1;assumption)|apply J2|apply J3|apply J4)) ?_
 clear hK K
 have hP_w7 := hP.below (show Below _ _ w7 by (repeat first|exact J0|assumption|(apply J1;assumption)|apply J2|apply J3|apply J4))
 have fhP_w7 := hP_w7.facts
 have hZ_w7 := hZ.below (show Below _ _ w7 by (repeat first|exact J0|assumption|(apply J1;assumption)|apply J2|apply J3|apply J4))
 have fhZ_w7 := hZ_w7.facts
 obtain ⟨A7, c7, rfl⟩ := hO7.shape
 refine wpMid_nil ?_
 go_upto_region 2 with fail
 have oA := hO4.below (show Below w4.heap.size w4 w7 by (repeat first|exact J0|assumption|(apply J1;assumption)|apply J2|apply J3|apply J4))
 have oB := hO7
 have hz7 : w.heap.size + 1 < w7.heap.size := hZ_w7.lt
 have hs3 : w.heap.size + 2 ≤ w3.heap.size := Nat.le_trans (show w.heap.size + 2 ≤ x1.heap.size from hZ.lt) (show x1.heap.size ≤ w3.heap.size from Below.size (by (repeat first|exact J0|assumption|(apply J1;assumption)|apply J2|apply J3|apply J4)))
 have hs6 : w.heap.size + 2 ≤ w6.heap.size := Nat.le_trans (show w.heap.size + 2 ≤ x1.heap.size from hZ.lt) (show x1.heap.size ≤ w6.heap.size from Below.size (by (repeat first|exact J0|assumption|(apply J1;assumption)|apply J2|apply J3|apply J4)))
 have hbw7 : Below w.heap.size w w7 := by (repeat first|exact J0|assumption|(apply J1;assumption)|apply J2|apply J3|apply J4)
 obtain ⟨LA, hLA⟩ : ∃ n, (plnL (stpL p.2.2.1)).length = n := ⟨_, rfl⟩
 obtain ⟨LB, hLB⟩ : ∃ n, (plnL (stpL p.2.2.2)).length = n := ⟨_, rfl⟩
 rw [hLA] at oA ⊢
 rw [hLB] at oB ⊢
 have oA8 := (oA.set (p := ⟨w.heap.size, 2, none⟩) (fun e => by have := (oA.lt _ e).1; simp only at this; omega) (.slice A4 LA c4))
 have oB8 := (oB.set (p := ⟨w.heap.size, 2, none⟩) (fun e => by have := (oB.lt _ e).1; simp only at this; omega) (.slice A4 LA c4))
 have oA9 := (oA8.set (p := ⟨w.heap.size, 3, none⟩) (fun e => by have := (oA8.lt _ e).1; simp only at this; omega) (.slice A7 LB c7))
 have oB9 := (oB8.set (p := ⟨w.heap.size, 3, none⟩) (fun e => by have := (oB8.lt _ e).1; simp only at this; omega) (.slice A7 LB c7))
 have hP9 := (hP_w7.set_ 2 (.slice A4 LA c4)).set_ 3 (.slice A7 LB c7)
 have hZ9 := (hZ_w7.setF (g' := w.heap.size) (i := 2) (u := .slice A4 LA c4) (by omega)).setF (g' := w.heap.size) (i := 3) (u := .slice A7 LB c7) (by omega)
 have hb9 : Below w.heap.size w ((w7.setCell ⟨w.heap.size, 2, none⟩ (.slice A4 LA c4)).setCell ⟨w.heap.size, 3, none⟩ (.slice A7 LB c7)) := bl_set (bl_set hbw7 (Nat.le_refl _) _) (Nat.le_refl _) _
 obtain ⟨w9, hw9⟩ : ∃ X, (w7.setCell ⟨w.heap.size, 2, none⟩ (.slice A4 LA c4)).setCell ⟨w.heap.size, 3, none⟩ (.slice A7 LB c7) = X := ⟨_, rfl⟩
 rw [hw9] at oA9 oB9 hP9 hZ9 hb9 ⊢
 have hP9 : Blk w9 w.heap.size 24 #[.string ⟨p.1.toArray⟩, .int .i64 p.2.1, .slice A4 LA c4, .slice A7 LB c7] := hP9
 have fP9 := hP9.facts
 clear hw9 oA oB oA8 oB8 hP hZ fhP fhZ
 go_wp2_with (refine wpList_store_blk hZ9 rfl _ _ _ rfl rfl rfl (by rfl) (by kernel_rfl) (by kernel_rfl) ?_; intro w12 hZ12 hc12; have f12 := hZ12.facts)
 refine bodyPost_ret (v := .agg #[.string ⟨p.1.toArray⟩, .int .i64 p.2.1, .slice A4 LA c4, .slice A7 LB c7]) (by simp [results, Tryz.results24, go_sem, f12]) rfl ?_
 exact ⟨_, _, rfl, (oA9.chg hc12 (by simp; omega)).base_mono (by omega), (oB9.chg hc12 (by simp; omega)).base_mono (by omega), chg_bl hb9 hc12 (by omega)⟩
end Go.Proofs.YtkkefahobjlagaaGreatDoor

/- Plain, walked. Conditions: none. -/
import Derived.Test.YthkjgcldolnjaaaGreatDoorI25
import Derived.Test.YthkjgcldolnjaaaGreatDoorI43
import Derived.Test.YthkjgcldolnjaaaGreatDoorI17
import Derived.Test.YthkjgcldolnjaaaGreatDoorI44
import Derived.Test.YthkjgcldolnjaaaGreatDoorI42
namespace Go.Proofs.YthkjgcldolnjaaaGreatDoor
open Go.RowKit Go.ChangeMaps
set_option maxHeartbeats 4000000
set_option maxRecDepth 100000

attribute [local go_sem] Oper.semAt_some
/-! # Plain -/
theorem Blk.setF {W : World} {g g' i : Nat} {t : TypeId} {cs : Array Value} {u : Value} (h : Blk W g t cs) (hne : g ≠ g') : Blk (W.setCell ⟨g', i, none⟩ u) g t cs := (Below.heap_setCell W ⟨g', i, none⟩ u g hne).trans h
theorem timS_memb {e : Edg} {x : Stp} : ∀ {n : Nat}, x ∈ timS e n → x.1 ∈ e.1
  | 0, h => by cases h
  | n + 1, h => by
    rcases List.mem_append.1 h with h | h
    · exact timS_memb h
    · obtain ⟨c, hc, rfl⟩ := List.mem_map.1 h
      exact hc
theorem SideOk.ltrs {l : List Edg} (h : SideOk l) : ∀ x ∈ stpL l, ltr x.1 := by
  intro x hx
  unfold stpL at hx
  obtain ⟨e, he, hx⟩ := List.mem_flatMap.1 hx
  have hm := timS_memb hx
  obtain ⟨_, _, hw, _, _⟩ := edgE_zero (h.ok e he)
  unfold wrongW at hw
  rw [List.any_eq_false] at hw
  have := hw _ hm
  unfold ltr
  simp at this
  by_cases c1 : x.1 = 78
  · exact .inl c1
  · by_cases c2 : x.1 = 66
    · exact .inr (.inl c2)
    · exact .inr (.inr (this c1 c2))
theorem plainO_any (l : List Stp) (v : Value) (b : Nat) (w : World) (hO : Own sc 2 b 142 w v l) (hl : l.length ≤ 1000) (hc : ∀ x ∈ l, ltr x.1) :
    Calls Tryz.prog 96 #[v] w (RG ec 3 100 w (plnL l)) := by
  obtain ⟨A, c, rfl, _, _, hr⟩ := hO.rd sc_len
  exact plain_any l A c w hr hl hc
theorem lettersB_any (A : Option Addr) (n c : Nat) (w : World) : Calls Tryz.prog 95 #[.slice A n c] w fun e w' =>
    ∃ B, e = .returned (.func (.func 146) #[] #[.pointer (some ⟨B, 0, none⟩)]) ∧ Blk w' B 27 #[.slice A n c] ∧ Below w.heap.size w w' := by
  refine (letters_any A n c w).mono ?_
  rintro e w' ⟨rfl, rfl⟩
  exact ⟨_, rfl, Blk.new w _ _, bl_alloc bl_refl _⟩
theorem plainly_any {vL vR : Value} (p : Pan) (w : World) (hL : SlE w vL p.2.2.1) (hR : SlE w vR p.2.2.2) (hok : PanOk p) :
    Calls Tryz.prog 58 #[.agg #[sV p.1, .int .i64 p.2.1, vL, vR]] w (fun e w' => ∃ xL xR, e = .returned (.agg #[sV p.1, .int .i64 p.2.1, xL, xR]) ∧ Own ec 3 w.heap.size 100 w' xL (plnL (stpL p.2.2.1)) ∧ Own ec 3 w.heap.size 100 w' xR (plnL (stpL p.2.2.2)) ∧ Below w.heap.size w w') := by
  have ll := hok.left.len
  have lr := hok.right.len
  have tl := hok.left.ltrs
  have tr := hok.right.ltrs
  obtain ⟨AL, cL, rfl, _, _, rL⟩ := hL
  obtain ⟨AR, cR, rfl, _, _, rR⟩ := hR
  have kL := fun B W (hB : Blk W B 27 #[.slice AL p.2.2.1.length cL]) (hb : Below w.heap.size w W) => collectS_any B AL cL p.2.2.1 hok.left.sideOk W hB (rL.below hb)
  have kR := fun B W (hB : Blk W B 27 #[.slice AR p.2.2.2.length cR]) (hb : Below w.heap.size w W) => collectS_any B AR cR p.2.2.2 hok.right.sideOk W hB (rR.below hb)
  have pL := fun v b W (hO : Own sc 2 b 142 W v (stpL p.2.2.1)) => plainO_any (stpL p.2.2.1) v b W hO (by omega) tl
  have pR := fun v b W (hO : Own sc 2 b 142 W v (stpL p.2.2.2)) => plainO_any (stpL p.2.2.2) v b W hO (by omega) tr
  have hs : sV p.1 = .string ⟨p.1.toArray⟩ := rfl
  rw [hs]
  have hP := (Blk.new w 29 #[.string ⟨p.1.toArray⟩, .int .i64 p.2.1, .slice AL p.2.2.1.length cL, .slice AR p.2.2.2.length cR]).alloc (.cells zeroPV 29)
  have hZ := Blk.new1 w (.cells #[.string ⟨p.1.toArray⟩, .int .i64 p.2.1, .slice AL p.2.2.1.length cL, .slice AR p.2.2.2.length cR] 29) 29 zeroPV
  unfold zeroPV at hP hZ
  have fhP := hP.facts
  have fhZ := hZ.facts
  clear hok ll lr tl tr hs rL rR
  go_enter Tryz.func58, Tryz.ntmps58
  go_upto_region 1 with fail
  obtain ⟨x1, hx1⟩ : ∃ X, (w.alloc (.cells #[.string ⟨p.1.toArray⟩, .int .i64 p.2.1, .slice AL p.2.2.1.length cL, .slice AR p.2.2.2.length cR] 29)).alloc (.cells #[.string ⟨#[]⟩, .int .i64 0, .slice none 0 0, .slice none 0 0] 29) = X := ⟨_, rfl⟩
  have hb1 : Below w.heap.size w x1 := by rw [← hx1]; exact bl_alloc (bl_alloc bl_refl _) _
  rw [hx1] at hP hZ ⊢
  clear hx1
  replace fhP := hP.facts
  replace fhZ := hZ.facts
  refine wp_region_ords [0, 1, 5, 6] [(2, false), (3, false), (4, false), (10, true), (7, false), (8, false), (9, false)] [11, 12, 13] (by kernel_rfl) (by kernel_rfl) (fun d _ _ _ _ h => by cases d <;> exact h) ?_
  simp only [List.map_cons, List.map_nil, List.getD_cons_zero, List.getD_cons_succ]
  repeat (go_big_quiet_step (fail))
  refine wpQuiet_nil ?_
  refine wpMid_run rfl (fun K hK => ?_)
  go_simp
  refine (lettersB_any _ _ _ _).mono ?_
  rintro e w2 ⟨B2, rfl, hB2, hb2⟩
  refine hK _ _ (by (repeat (first | exact bl_refl | assumption | (apply bl_then; assumption) | refine bl_alloc ?_ _ | refine bl_drew ?_ | refine bl_drewN ?_ _))) ?_
  clear hK K
  have hP_w2 := hP.below (show Below _ _ w2 by (repeat (first | exact bl_refl | assumption | (apply bl_then; assumption) | refine bl_alloc ?_ _ | refine bl_drew ?_ | refine bl_drewN ?_ _)))
  have fhP_w2 := hP_w2.facts
  have hZ_w2 := hZ.below (show Below _ _ w2 by (repeat (first | exact bl_refl | assumption | (apply bl_then; assumption) | refine bl_alloc ?_ _ | refine bl_drew ?_ | refine bl_drewN ?_ _)))
  have fhZ_w2 := hZ_w2.facts
  refine wpMid_run rfl (fun K hK => ?_)
  go_simp
  refine (kL _ _ hB2 (by (repeat (first | exact bl_refl | assumption | (apply bl_then; assumption) | refine bl_alloc ?_ _ | refine bl_drew ?_ | refine bl_drewN ?_ _)))).mono ?_
  rintro e w3 ⟨v3, rfl, hO3, hb3⟩
  refine hK _ _ (by (repeat (first | exact bl_refl | assumption | (apply bl_then; assumption) | refine bl_alloc ?_ _ | refine bl_drew ?_ | refine bl_drewN ?_ _))) ?_
  clear hK K
  have hP_w3 := hP.below (show Below _ _ w3 by (repeat (first | exact bl_refl | assumption | (apply bl_then; assumption) | refine bl_alloc ?_ _ | refine bl_drew ?_ | refine bl_drewN ?_ _)))
  have fhP_w3 := hP_w3.facts
  have hZ_w3 := hZ.below (show Below _ _ w3 by (repeat (first | exact bl_refl | assumption | (apply bl_then; assumption) | refine bl_alloc ?_ _ | refine bl_drew ?_ | refine bl_drewN ?_ _)))
  have fhZ_w3 := hZ_w3.facts
  refine wpMid_run rfl (fun K hK => ?_)
  go_simp
  refine (pL _ _ _ hO3).mono ?_
  rintro e w4 ⟨v4, rfl, hO4, hb4⟩
  refine hK _ _ (by (repeat (first | exact bl_refl | assumption | (apply bl_then; assumption) | refine bl_alloc ?_ _ | refine bl_drew ?_ | refine bl_drewN ?_ _))) ?_
  clear hK K
  have hP_w4 := hP.below (show Below _ _ w4 by (repeat (first | exact bl_refl | assumption | (apply bl_then; assumption) | refine bl_alloc ?_ _ | refine bl_drew ?_ | refine bl_drewN ?_ _)))
  have fhP_w4 := hP_w4.facts
  have hZ_w4 := hZ.below (show Below _ _ w4 by (repeat (first | exact bl_refl | assumption | (apply bl_then; assumption) | refine bl_alloc ?_ _ | refine bl_drew ?_ | refine bl_drewN ?_ _)))
  have fhZ_w4 := hZ_w4.facts
  obtain ⟨A4, c4, rfl⟩ := hO4.shape
  refine wpMid_take rfl ?_
  intro K hK
  go_big_quiet_op
  go_big_quiet_on
  refine wpMid_run rfl (fun K hK => ?_)
  go_simp
  refine (lettersB_any _ _ _ _).mono ?_
  rintro e w5 ⟨B5, rfl, hB5, hb5⟩
  refine hK _ _ (by (repeat (first | exact bl_refl | assumption | (apply bl_then; assumption) | refine bl_alloc ?_ _ | refine bl_drew ?_ | refine bl_drewN ?_ _))) ?_
  clear hK K
  have hP_w5 := hP.below (show Below _ _ w5 by (repeat (first | exact bl_refl | assumption | (apply bl_then; assumption) | refine bl_alloc ?_ _ | refine bl_drew ?_ | refine bl_drewN ?_ _)))
  have fhP_w5 := hP_w5.facts
  have hZ_w5 := hZ.below (show Below _ _ w5 by (repeat (first | exact bl_refl | assumption | (apply bl_then; assumption) | refine bl_alloc ?_ _ | refine bl_drew ?_ | refine bl_drewN ?_ _)))
  have fhZ_w5 := hZ_w5.facts
  refine wpMid_run rfl (fun K hK => ?_)
  go_simp
  refine (kR _ _ hB5 (by (repeat (first | exact bl_refl | assumption | (apply bl_then; assumption) | refine bl_alloc ?_ _ | refine bl_drew ?_ | refine bl_drewN ?_ _)))).mono ?_
  rintro e w6 ⟨v6, rfl, hO6, hb6⟩
  refine hK _ _ (by (repeat (first | exact bl_refl | assumption | (apply bl_then; assumption) | refine bl_alloc ?_ _ | refine bl_drew ?_ | refine bl_drewN ?_ _))) ?_
  clear hK K
  have hP_w6 := hP.below (show Below _ _ w6 by (repeat (first | exact bl_refl | assumption | (apply bl_then; assumption) | refine bl_alloc ?_ _ | refine bl_drew ?_ | refine bl_drewN ?_ _)))
  have fhP_w6 := hP_w6.facts
  have hZ_w6 := hZ.below (show Below _ _ w6 by (repeat (first | exact bl_refl | assumption | (apply bl_then; assumption) | refine bl_alloc ?_ _ | refine bl_drew ?_ | refine bl_drewN ?_ _)))
  have fhZ_w6 := hZ_w6.facts
  refine wpMid_run rfl (fun K hK => ?_)
  go_simp
  refine (pR _ _ _ hO6).mono ?_
  rintro e w7 ⟨v7, rfl, hO7, hb7⟩
  refine hK _ _ (by (repeat (first | exact bl_refl | assumption | (apply bl_then; assumption) | refine bl_alloc ?_ _ | refine bl_drew ?_ | refine bl_drewN ?_ _))) ?_
  clear hK K
  have hP_w7 := hP.below (show Below _ _ w7 by (repeat (first | exact bl_refl | assumption | (apply bl_then; assumption) | refine bl_alloc ?_ _ | refine bl_drew ?_ | refine bl_drewN ?_ _)))
  have fhP_w7 := hP_w7.facts
  have hZ_w7 := hZ.below (show Below _ _ w7 by (repeat (first | exact bl_refl | assumption | (apply bl_then; assumption) | refine bl_alloc ?_ _ | refine bl_drew ?_ | refine bl_drewN ?_ _)))
  have fhZ_w7 := hZ_w7.facts
  obtain ⟨A7, c7, rfl⟩ := hO7.shape
  refine wpMid_nil ?_
  go_upto_region 2 with fail
  have oA := hO4.below (show Below w4.heap.size w4 w7 by (repeat (first | exact bl_refl | assumption | (apply bl_then; assumption) | refine bl_alloc ?_ _ | refine bl_drew ?_ | refine bl_drewN ?_ _)))
  have oB := hO7
  have hz7 : w.heap.size + 1 < w7.heap.size := hZ_w7.lt
  have hs3 : w.heap.size + 2 ≤ w3.heap.size := Nat.le_trans (show w.heap.size + 2 ≤ x1.heap.size from hZ.lt) (show x1.heap.size ≤ w3.heap.size from Below.size (by (repeat (first | exact bl_refl | assumption | (apply bl_then; assumption) | refine bl_alloc ?_ _ | refine bl_drew ?_ | refine bl_drewN ?_ _))))
  have hs6 : w.heap.size + 2 ≤ w6.heap.size := Nat.le_trans (show w.heap.size + 2 ≤ x1.heap.size from hZ.lt) (show x1.heap.size ≤ w6.heap.size from Below.size (by (repeat (first | exact bl_refl | assumption | (apply bl_then; assumption) | refine bl_alloc ?_ _ | refine bl_drew ?_ | refine bl_drewN ?_ _))))
  have hbw7 : Below w.heap.size w w7 := by (repeat (first | exact bl_refl | assumption | (apply bl_then; assumption) | refine bl_alloc ?_ _ | refine bl_drew ?_ | refine bl_drewN ?_ _))
  obtain ⟨LA, hLA⟩ : ∃ n, (plnL (stpL p.2.2.1)).length = n := ⟨_, rfl⟩
  obtain ⟨LB, hLB⟩ : ∃ n, (plnL (stpL p.2.2.2)).length = n := ⟨_, rfl⟩
  rw [hLA] at oA ⊢
  rw [hLB] at oB ⊢
  have oA8 := (oA.set (p := ⟨w.heap.size, 2, none⟩) (fun e => by have := (oA.lt _ e).1; simp only at this; omega) (.slice A4 LA c4))
  have oB8 := (oB.set (p := ⟨w.heap.size, 2, none⟩) (fun e => by have := (oB.lt _ e).1; simp only at this; omega) (.slice A4 LA c4))
  have oA9 := (oA8.set (p := ⟨w.heap.size, 3, none⟩) (fun e => by have := (oA8.lt _ e).1; simp only at this; omega) (.slice A7 LB c7))
  have oB9 := (oB8.set (p := ⟨w.heap.size, 3, none⟩) (fun e => by have := (oB8.lt _ e).1; simp only at this; omega) (.slice A7 LB c7))
  have hP9 := (hP_w7.set_ 2 (.slice A4 LA c4)).set_ 3 (.slice A7 LB c7)
  have hZ9 := (hZ_w7.setF (g' := w.heap.size) (i := 2) (u := .slice A4 LA c4) (by omega)).setF (g' := w.heap.size) (i := 3) (u := .slice A7 LB c7) (by omega)
  have hb9 : Below w.heap.size w ((w7.setCell ⟨w.heap.size, 2, none⟩ (.slice A4 LA c4)).setCell ⟨w.heap.size, 3, none⟩ (.slice A7 LB c7)) := bl_set (bl_set hbw7 (Nat.le_refl _) _) (Nat.le_refl _) _
  obtain ⟨w9, hw9⟩ : ∃ X, (w7.setCell ⟨w.heap.size, 2, none⟩ (.slice A4 LA c4)).setCell ⟨w.heap.size, 3, none⟩ (.slice A7 LB c7) = X := ⟨_, rfl⟩
  rw [hw9] at oA9 oB9 hP9 hZ9 hb9 ⊢
  have hP9 : Blk w9 w.heap.size 29 #[.string ⟨p.1.toArray⟩, .int .i64 p.2.1, .slice A4 LA c4, .slice A7 LB c7] := hP9
  have fP9 := hP9.facts
  clear hw9 oA oB oA8 oB8 hP hZ fhP fhZ
  go_wp2_with (refine wpList_store_blk hZ9 rfl _ _ _ rfl rfl rfl (by rfl) (by kernel_rfl) (by kernel_rfl) ?_; intro w12 hZ12 hc12; have f12 := hZ12.facts)
  refine bodyPost_ret (v := .agg #[.string ⟨p.1.toArray⟩, .int .i64 p.2.1, .slice A4 LA c4, .slice A7 LB c7]) (by simp [results, Tryz.results58, go_sem, f12]) rfl ?_
  exact ⟨_, _, rfl, (oA9.chg hc12 (by simp; omega)).base_mono (by omega), (oB9.chg hc12 (by simp; omega)).base_mono (by omega), chg_bl hb9 hc12 (by omega)⟩
def plaQ (p : Pan) : Pan := (p.1, p.2.1, plnL (stpL p.2.2.1), plnL (stpL p.2.2.2))
theorem apiPlain_any {vL vR : Value} (p : Pan) (w : World) (hnm : p.1.length ≤ 1000000) (hL : SlE w vL p.2.2.1) (hR : SlE w vR p.2.2.2) :
    Calls Tryz.prog 11 #[.agg #[sV p.1, .int .i64 p.2.1, vL, vR]] w (RPN w (pcR (panE p) (plaQ p)) (pcE (panE p) (plaQ p))) := by
  have hc := fun W (hb : Below w.heap.size w W) => checkPanel_any p W hnm (hL.below hb) (hR.below hb)
  by_cases hE : panE p = 0
  · have hok := panE_zero hE
    have ll := hok.left.few
    have lr := hok.right.few
    have cp := fun W (hb : Below w.heap.size w W) => plainly_any p W (hL.below hb) (hR.below hb) hok
    have HQ : Hid (pcR (panE p) (plaQ p) = pcR 0 (plaQ p) ∧ pcE (panE p) (plaQ p) = panE (plaQ p)) := by unfold Hid; rw [hE]; exact ⟨rfl, by unfold pcE; rw [if_neg (by simp)]⟩
    rw [HQ.out.1, HQ.out.2]
    have hch := fun W vl vr hl hr => checked_any (vL := vl) (vR := vr) (plaQ p) W hnm hl hr
    rw [hE] at hc
    obtain ⟨AL, cL, rfl, _, _, _⟩ := hL
    obtain ⟨AR, cR, rfl, _, _, _⟩ := hR
    have HCH := Lib.hid hch
    obtain ⟨EQ, hEQ⟩ : ∃ E, panE (plaQ p) = E := ⟨_, rfl⟩
    rw [hEQ] at HCH ⊢
    have hs : sV p.1 = .string ⟨p.1.toArray⟩ := rfl
    rw [hs] at hc cp
    rw [hs]
    have hP := (Blk.new w 29 #[.string ⟨p.1.toArray⟩, .int .i64 p.2.1, .slice AL p.2.2.1.length cL, .slice AR p.2.2.2.length cR]).alloc (.cells zeroPV 29)
    have hZ := Blk.new1 w (.cells #[.string ⟨p.1.toArray⟩, .int .i64 p.2.1, .slice AL p.2.2.1.length cL, .slice AR p.2.2.2.length cR] 29) 29 zeroPV
    unfold zeroPV at hP hZ
    have fhP := hP.facts
    have fhZ := hZ.facts
    clear hE hEQ hnm hch hs HQ
    go_enter Tryz.func11, Tryz.ntmps11
    go_wp2_with fail
    refine (hc _ (by (repeat (first | exact bl_refl | assumption | (apply bl_then; assumption) | refine bl_alloc ?_ _ | refine bl_drew ?_ | refine bl_drewN ?_ _)))).mono ?_
    rintro e w4 ⟨rfl, hb2⟩
    replace hP := hP.below (show Below _ _ w4 by (repeat (first | exact bl_refl | assumption | (apply bl_then; assumption) | refine bl_alloc ?_ _ | refine bl_drew ?_ | refine bl_drewN ?_ _)))
    replace fhP := hP.facts
    replace hZ := hZ.below (show Below _ _ w4 by (repeat (first | exact bl_refl | assumption | (apply bl_then; assumption) | refine bl_alloc ?_ _ | refine bl_drew ?_ | refine bl_drewN ?_ _)))
    replace fhZ := hZ.facts
    have hbw4 : Below w.heap.size w w4 := by (repeat (first | exact bl_refl | assumption | (apply bl_then; assumption) | refine bl_alloc ?_ _ | refine bl_drew ?_ | refine bl_drewN ?_ _))
    clear hc hb2
    have hz1 : w.heap.size + 1 < w4.heap.size := hZ.lt
    go_wp2_with fail
    refine (cp _ (by (repeat (first | exact bl_refl | assumption | (apply bl_then; assumption) | refine bl_alloc ?_ _ | refine bl_drew ?_ | refine bl_drewN ?_ _)))).mono ?_
    rintro e w6 ⟨v5, v6, rfl, hO5, hO6, hb6⟩
    replace hP := hP.below (show Below _ _ w6 by (repeat (first | exact bl_refl | assumption | (apply bl_then; assumption) | refine bl_alloc ?_ _ | refine bl_drew ?_ | refine bl_drewN ?_ _)))
    replace fhP := hP.facts
    replace hZ := hZ.below (show Below _ _ w6 by (repeat (first | exact bl_refl | assumption | (apply bl_then; assumption) | refine bl_alloc ?_ _ | refine bl_drew ?_ | refine bl_drewN ?_ _)))
    replace fhZ := hZ.facts
    go_wp2_with fail
    refine (HCH.out _ _ _ (hO5.rd ec_len) (hO6.rd ec_len)).mono ?_
    rintro e w7 ⟨rfl, hb7⟩
    replace hP := hP.below (show Below _ _ w7 by (repeat (first | exact bl_refl | assumption | (apply bl_then; assumption) | refine bl_alloc ?_ _ | refine bl_drew ?_ | refine bl_drewN ?_ _)))
    replace fhP := hP.facts
    replace hZ := hZ.below (show Below _ _ w7 by (repeat (first | exact bl_refl | assumption | (apply bl_then; assumption) | refine bl_alloc ?_ _ | refine bl_drew ?_ | refine bl_drewN ?_ _)))
    replace fhZ := hZ.facts
    obtain ⟨A7, c7, A77, c77, hcv, hu1, hu2⟩ := checked_own (plaQ p) w6 w7 hO5 hO6 hb7
    rw [hcv]
    obtain ⟨Q, hQ⟩ : ∃ Q, pcR 0 (plaQ p) = Q := ⟨_, rfl⟩
    rw [hQ] at hu1 hu2 ⊢
    have HQQ := Lib.hid hQ
    clear hQ
    have hbb : Below w4.heap.size w4 w7 := by (repeat (first | exact bl_refl | assumption | (apply bl_then; assumption) | refine bl_alloc ?_ _ | refine bl_drew ?_ | refine bl_drewN ?_ _))
    go_wp2_with (refine wpList_store_blk hZ rfl _ _ _ rfl rfl rfl (by rfl) (by kernel_rfl) (by kernel_rfl) ?_; intro w12 hZ12 hc12; have f12 := hZ12.facts)
    refine bodyPost_ret (v := .tuple #[.agg #[.string ⟨Q.1.toArray⟩, .int .i64 Q.2.1, .slice A7 Q.2.2.1.length c7, .slice A77 Q.2.2.2.length c77], .int .i64 EQ]) (by simp [results, Tryz.results11, go_sem, f12]) rfl ?_
    obtain rfl := HQQ.out
    exact ⟨_, _, rfl, (hu1.chg hc12 (by simp; omega)).base_mono hbw4.size, (hu2.chg hc12 (by simp; omega)).base_mono hbw4.size, chg_bl (bl_then hbb hbw4) hc12 (by omega)⟩
  · have HQ : Hid (pcR (panE p) (plaQ p) = panZ ∧ pcE (panE p) (plaQ p) = panE p) := by
      have e : pcE (panE p) (plaQ p) = panE p := by unfold pcE; rw [if_pos hE]
      exact ⟨by unfold pcR; rw [e, if_neg hE], e⟩
    rw [HQ.out.1, HQ.out.2]
    have t0 : (panE p != 0) = true := by simp [hE]
    obtain ⟨E, hEE⟩ : ∃ E, panE p = E := ⟨_, rfl⟩
    rw [hEE] at hc t0 ⊢
    obtain ⟨AL, cL, rfl, _, _, _⟩ := hL
    obtain ⟨AR, cR, rfl, _, _, _⟩ := hR
    have hs : sV p.1 = .string ⟨p.1.toArray⟩ := rfl
    rw [hs] at hc
    rw [hs]
    have hP := (Blk.new w 29 #[.string ⟨p.1.toArray⟩, .int .i64 p.2.1, .slice AL p.2.2.1.length cL, .slice AR p.2.2.2.length cR]).alloc (.cells zeroPV 29)
    have hZ := Blk.new1 w (.cells #[.string ⟨p.1.toArray⟩, .int .i64 p.2.1, .slice AL p.2.2.1.length cL, .slice AR p.2.2.2.length cR] 29) 29 zeroPV
    unfold zeroPV at hP hZ
    have fhP := hP.facts
    have fhZ := hZ.facts
    clear hE hEE hnm hs HQ
    go_enter Tryz.func11, Tryz.ntmps11
    go_wp2_with fail
    refine (hc _ (by (repeat (first | exact bl_refl | assumption | (apply bl_then; assumption) | refine bl_alloc ?_ _ | refine bl_drew ?_ | refine bl_drewN ?_ _)))).mono ?_
    rintro e w2 ⟨rfl, hb2⟩
    replace hP := hP.below (show Below _ _ w2 by (repeat (first | exact bl_refl | assumption | (apply bl_then; assumption) | refine bl_alloc ?_ _ | refine bl_drew ?_ | refine bl_drewN ?_ _)))
    replace fhP := hP.facts
    replace hZ := hZ.below (show Below _ _ w2 by (repeat (first | exact bl_refl | assumption | (apply bl_then; assumption) | refine bl_alloc ?_ _ | refine bl_drew ?_ | refine bl_drewN ?_ _)))
    replace fhZ := hZ.facts
    go_wp2_with (refine wpList_store_blk hZ rfl _ _ _ rfl rfl rfl (by rfl) (by kernel_rfl) (by kernel_rfl) ?_; intro w12 hZ12 hc12; have f12 := hZ12.facts)
    refine bodyPost_ret (v := .tuple #[.agg #[.string ⟨#[]⟩, .int .i64 0, .slice none 0 0, .slice none 0 0], .int .i64 E]) (by simp [results, Tryz.results11, go_sem, f12]) rfl ?_
    exact ⟨_, _, rfl, Own.nil_, Own.nil_, chg_bl (by (repeat (first | exact bl_refl | assumption | (apply bl_then; assumption) | refine bl_alloc ?_ _ | refine bl_drew ?_ | refine bl_drewN ?_ _))) hc12 (by omega)⟩
end Go.Proofs.YthkjgcldolnjaaaGreatDoor

/- The reference's Plain, Mirror, Turn, walked. Conditions: the panel is valid. -/
namespace Go.Proofs.YthkjgcldolnjaaaGreatDoor
open Go.RowKit Go.ChangeMaps
set_option maxHeartbeats 4000000
set_option maxRecDepth 100000

attribute [local go_sem] Oper.semAt_some
/-! # The reference's Plain, Mirror, Turn -/
theorem rPlain_any {vL vR : Value} (p : Pan) (w : World) (hL : SlE w vL p.2.2.1) (hR : SlE w vR p.2.2.2) (hok : PanOk p) :
    Calls Tryz.prog 18 #[.agg #[sV p.1, .int .i64 p.2.1, vL, vR]] w (fun e w' => ∃ xL xR, e = .returned (.agg #[sV p.1, .int .i64 p.2.1, xL, xR]) ∧ Own ec 3 w.heap.size 60 w' xL (plnL (stpL p.2.2.1)) ∧ Own ec 3 w.heap.size 60 w' xR (plnL (stpL p.2.2.2)) ∧ Below w.heap.size w w') := by
  have kL := fun W (hb : Below w.heap.size w W) => rsteps_any p.2.2.1 W (hL.below hb) hok.left
  have kR := fun W (hb : Below w.heap.size w W) => rsteps_any p.2.2.2 W (hR.below hb) hok.right
  have ll := hok.left.len
  have lr := hok.right.len
  have pL := fun (v : Value) W h => rplain_any (v := v) (stpL p.2.2.1) W h (by omega)
  have pR := fun (v : Value) W h => rplain_any (v := v) (stpL p.2.2.2) W h (by omega)
  obtain ⟨AL, cL, rfl, _, _, _⟩ := hL
  obtain ⟨AR, cR, rfl, _, _, _⟩ := hR
  have hs : sV p.1 = .string ⟨p.1.toArray⟩ := rfl
  rw [hs]
  have hP := (Blk.new w 24 #[.string ⟨p.1.toArray⟩, .int .i64 p.2.1, .slice AL p.2.2.1.length cL, .slice AR p.2.2.2.length cR]).alloc (.cells zeroPV 24)
  have hZ := Blk.new1 w (.cells #[.string ⟨p.1.toArray⟩, .int .i64 p.2.1, .slice AL p.2.2.1.length cL, .slice AR p.2.2.2.length cR] 24) 24 zeroPV
  unfold zeroPV at hP hZ
  have fhP := hP.facts
  have fhZ := hZ.facts
  clear hok ll lr hs
  go_enter Tryz.func18, Tryz.ntmps18
  go_upto_region 1 with fail
  obtain ⟨x1, hx1⟩ : ∃ X, (w.alloc (.cells #[.string ⟨p.1.toArray⟩, .int .i64 p.2.1, .slice AL p.2.2.1.length cL, .slice AR p.2.2.2.length cR] 24)).alloc (.cells #[.string ⟨#[]⟩, .int .i64 0, .slice none 0 0, .slice none 0 0] 24) = X := ⟨_, rfl⟩
  have hb1 : Below w.heap.size w x1 := by rw [← hx1]; exact bl_alloc (bl_alloc bl_refl _) _
  rw [hx1] at hP hZ ⊢
  clear hx1
  replace fhP := hP.facts
  replace fhZ := hZ.facts
  refine wp_region_ords [0, 1, 4, 5] [(2, false), (3, false), (8, true), (6, false), (7, false)] [9, 10, 11] (by kernel_rfl) (by kernel_rfl) (fun d _ _ _ _ h => by cases d <;> exact h) ?_
  simp only [List.map_cons, List.map_nil, List.getD_cons_zero, List.getD_cons_succ]
  repeat (go_big_quiet_step (fail))
  refine wpQuiet_nil ?_
  refine wpMid_run rfl (fun K hK => ?_)
  go_simp
  refine (kL _ (by (repeat (first | exact bl_refl | assumption | (apply bl_then; assumption) | refine bl_alloc ?_ _ | refine bl_drew ?_ | refine bl_drewN ?_ _)))).mono ?_
  rintro e w3 ⟨v3, rfl, hO3, hb3⟩
  refine hK _ _ (by (repeat (first | exact bl_refl | assumption | (apply bl_then; assumption) | refine bl_alloc ?_ _ | refine bl_drew ?_ | refine bl_drewN ?_ _))) ?_
  clear hK K
  have hP_w3 := hP.below (show Below _ _ w3 by (repeat (first | exact bl_refl | assumption | (apply bl_then; assumption) | refine bl_alloc ?_ _ | refine bl_drew ?_ | refine bl_drewN ?_ _)))
  have fhP_w3 := hP_w3.facts
  have hZ_w3 := hZ.below (show Below _ _ w3 by (repeat (first | exact bl_refl | assumption | (apply bl_then; assumption) | refine bl_alloc ?_ _ | refine bl_drew ?_ | refine bl_drewN ?_ _)))
  have fhZ_w3 := hZ_w3.facts
  refine wpMid_run rfl (fun K hK => ?_)
  go_simp
  refine (pL _ _ (hO3.rd sc_len)).mono ?_
  rintro e w4 ⟨v4, rfl, hO4, hb4⟩
  refine hK _ _ (by (repeat (first | exact bl_refl | assumption | (apply bl_then; assumption) | refine bl_alloc ?_ _ | refine bl_drew ?_ | refine bl_drewN ?_ _))) ?_
  clear hK K
  have hP_w4 := hP.below (show Below _ _ w4 by (repeat (first | exact bl_refl | assumption | (apply bl_then; assumption) | refine bl_alloc ?_ _ | refine bl_drew ?_ | refine bl_drewN ?_ _)))
  have fhP_w4 := hP_w4.facts
  have hZ_w4 := hZ.below (show Below _ _ w4 by (repeat (first | exact bl_refl | assumption | (apply bl_then; assumption) | refine bl_alloc ?_ _ | refine bl_drew ?_ | refine bl_drewN ?_ _)))
  have fhZ_w4 := hZ_w4.facts
  obtain ⟨A4, c4, rfl⟩ := hO4.shape
  refine wpMid_take rfl ?_
  intro K hK
  go_big_quiet_op
  go_big_quiet_on
  refine wpMid_run rfl (fun K hK => ?_)
  go_simp
  refine (kR _ (by (repeat (first | exact bl_refl | assumption | (apply bl_then; assumption) | refine bl_alloc ?_ _ | refine bl_drew ?_ | refine bl_drewN ?_ _)))).mono ?_
  rintro e w6 ⟨v6, rfl, hO6, hb6⟩
  refine hK _ _ (by (repeat (first | exact bl_refl | assumption | (apply bl_then; assumption) | refine bl_alloc ?_ _ | refine bl_drew ?_ | refine bl_drewN ?_ _))) ?_
  clear hK K
  have hP_w6 := hP.below (show Below _ _ w6 by (repeat (first | exact bl_refl | assumption | (apply bl_then; assumption) | refine bl_alloc ?_ _ | refine bl_drew ?_ | refine bl_drewN ?_ _)))
  have fhP_w6 := hP_w6.facts
  have hZ_w6 := hZ.below (show Below _ _ w6 by (repeat (first | exact bl_refl | assumption | (apply bl_then; assumption) | refine bl_alloc ?_ _ | refine bl_drew ?_ | refine bl_drewN ?_ _)))
  have fhZ_w6 := hZ_w6.facts
  refine wpMid_run rfl (fun K hK => ?_)
  go_simp
  refine (pR _ _ (hO6.rd sc_len)).mono ?_
  rintro e w7 ⟨v7, rfl, hO7, hb7⟩
  refine hK _ _ (by (repeat (first | exact bl_refl | assumption | (apply bl_then; assumption) | refine bl_alloc ?_ _ | refine bl_drew ?_ | refine bl_drewN ?_ _))) ?_
  clear hK K
  have hP_w7 := hP.below (show Below _ _ w7 by (repeat (first | exact bl_refl | assumption | (apply bl_then; assumption) | refine bl_alloc ?_ _ | refine bl_drew ?_ | refine bl_drewN ?_ _)))
  have fhP_w7 := hP_w7.facts
  have hZ_w7 := hZ.below (show Below _ _ w7 by (repeat (first | exact bl_refl | assumption | (apply bl_then; assumption) | refine bl_alloc ?_ _ | refine bl_drew ?_ | refine bl_drewN ?_ _)))
  have fhZ_w7 := hZ_w7.facts
  obtain ⟨A7, c7, rfl⟩ := hO7.shape
  refine wpMid_nil ?_
  go_upto_region 2 with fail
  have oA := hO4.below (show Below w4.heap.size w4 w7 by (repeat (first | exact bl_refl | assumption | (apply bl_then; assumption) | refine bl_alloc ?_ _ | refine bl_drew ?_ | refine bl_drewN ?_ _)))
  have oB := hO7
  have hz7 : w.heap.size + 1 < w7.heap.size := hZ_w7.lt
  have hs3 : w.heap.size + 2 ≤ w3.heap.size := Nat.le_trans (show w.heap.size + 2 ≤ x1.heap.size from hZ.lt) (show x1.heap.size ≤ w3.heap.size from Below.size (by (repeat (first | exact bl_refl | assumption | (apply bl_then; assumption) | refine bl_alloc ?_ _ | refine bl_drew ?_ | refine bl_drewN ?_ _))))
  have hs6 : w.heap.size + 2 ≤ w6.heap.size := Nat.le_trans (show w.heap.size + 2 ≤ x1.heap.size from hZ.lt) (show x1.heap.size ≤ w6.heap.size from Below.size (by (repeat (first | exact bl_refl | assumption | (apply bl_then; assumption) | refine bl_alloc ?_ _ | refine bl_drew ?_ | refine bl_drewN ?_ _))))
  have hbw7 : Below w.heap.size w w7 := by (repeat (first | exact bl_refl | assumption | (apply bl_then; assumption) | refine bl_alloc ?_ _ | refine bl_drew ?_ | refine bl_drewN ?_ _))
  obtain ⟨LA, hLA⟩ : ∃ n, (plnL (stpL p.2.2.1)).length = n := ⟨_, rfl⟩
  obtain ⟨LB, hLB⟩ : ∃ n, (plnL (stpL p.2.2.2)).length = n := ⟨_, rfl⟩
  rw [hLA] at oA ⊢
  rw [hLB] at oB ⊢
  have oA8 := (oA.set (p := ⟨w.heap.size, 2, none⟩) (fun e => by have := (oA.lt _ e).1; simp only at this; omega) (.slice A4 LA c4))
  have oB8 := (oB.set (p := ⟨w.heap.size, 2, none⟩) (fun e => by have := (oB.lt _ e).1; simp only at this; omega) (.slice A4 LA c4))
  have oA9 := (oA8.set (p := ⟨w.heap.size, 3, none⟩) (fun e => by have := (oA8.lt _ e).1; simp only at this; omega) (.slice A7 LB c7))
  have oB9 := (oB8.set (p := ⟨w.heap.size, 3, none⟩) (fun e => by have := (oB8.lt _ e).1; simp only at this; omega) (.slice A7 LB c7))
  have hP9 := (hP_w7.set_ 2 (.slice A4 LA c4)).set_ 3 (.slice A7 LB c7)
  have hZ9 := (hZ_w7.setF (g' := w.heap.size) (i := 2) (u := .slice A4 LA c4) (by omega)).setF (g' := w.heap.size) (i := 3) (u := .slice A7 LB c7) (by omega)
  have hb9 : Below w.heap.size w ((w7.setCell ⟨w.heap.size, 2, none⟩ (.slice A4 LA c4)).setCell ⟨w.heap.size, 3, none⟩ (.slice A7 LB c7)) := bl_set (bl_set hbw7 (Nat.le_refl _) _) (Nat.le_refl _) _
  obtain ⟨w9, hw9⟩ : ∃ X, (w7.setCell ⟨w.heap.size, 2, none⟩ (.slice A4 LA c4)).setCell ⟨w.heap.size, 3, none⟩ (.slice A7 LB c7) = X := ⟨_, rfl⟩
  rw [hw9] at oA9 oB9 hP9 hZ9 hb9 ⊢
  have hP9 : Blk w9 w.heap.size 24 #[.string ⟨p.1.toArray⟩, .int .i64 p.2.1, .slice A4 LA c4, .slice A7 LB c7] := hP9
  have fP9 := hP9.facts
  clear hw9 oA oB oA8 oB8 hP hZ fhP fhZ
  go_wp2_with (refine wpList_store_blk hZ9 rfl _ _ _ rfl rfl rfl (by rfl) (by kernel_rfl) (by kernel_rfl) ?_; intro w12 hZ12 hc12; have f12 := hZ12.facts)
  refine bodyPost_ret (v := .agg #[.string ⟨p.1.toArray⟩, .int .i64 p.2.1, .slice A4 LA c4, .slice A7 LB c7]) (by simp [results, Tryz.results18, go_sem, f12]) rfl ?_
  exact ⟨_, _, rfl, (oA9.chg hc12 (by simp; omega)).base_mono (by omega), (oB9.chg hc12 (by simp; omega)).base_mono (by omega), chg_bl hb9 hc12 (by omega)⟩
theorem rMirror_any {vL vR : Value} (p : Pan) (w : World) (hL : SlE w vL p.2.2.1) (hR : SlE w vR p.2.2.2) :
    Calls Tryz.prog 19 #[.agg #[sV p.1, .int .i64 p.2.1, vL, vR]] w (RV w (.agg #[sV p.1, .int .i64 p.2.1, vR, vL])) := by
  obtain ⟨AL, cL, rfl, _, _, _⟩ := hL
  obtain ⟨AR, cR, rfl, _, _, _⟩ := hR
  have hs : sV p.1 = .string ⟨p.1.toArray⟩ := rfl
  rw [hs]
  have hP := (Blk.new w 24 #[.string ⟨p.1.toArray⟩, .int .i64 p.2.1, .slice AL p.2.2.1.length cL, .slice AR p.2.2.2.length cR]).alloc (.cells zeroPV 24)
  have hZ := Blk.new1 w (.cells #[.string ⟨p.1.toArray⟩, .int .i64 p.2.1, .slice AL p.2.2.1.length cL, .slice AR p.2.2.2.length cR] 24) 24 zeroPV
  unfold zeroPV at hP hZ
  have fhP := hP.facts
  have fhZ := hZ.facts
  clear hs
  go_enter Tryz.func19, Tryz.ntmps19
  go_upto_region 1 with fail
  obtain ⟨x1, hx1⟩ : ∃ X, (w.alloc (.cells #[.string ⟨p.1.toArray⟩, .int .i64 p.2.1, .slice AL p.2.2.1.length cL, .slice AR p.2.2.2.length cR] 24)).alloc (.cells #[.string ⟨#[]⟩, .int .i64 0, .slice none 0 0, .slice none 0 0] 24) = X := ⟨_, rfl⟩
  have hb1 : Below w.heap.size w x1 := by rw [← hx1]; exact bl_alloc (bl_alloc bl_refl _) _
  rw [hx1] at hP hZ ⊢
  clear hx1
  replace fhP := hP.facts
  replace fhZ := hZ.facts
  have hz1 : w.heap.size + 1 < x1.heap.size := hZ.lt
  have hP9 := (hP.set_ 2 (.slice AR p.2.2.2.length cR)).set_ 3 (.slice AL p.2.2.1.length cL)
  have hZ9 := (hZ.setF (g' := w.heap.size) (i := 2) (u := .slice AR p.2.2.2.length cR) (by omega)).setF (g' := w.heap.size) (i := 3) (u := .slice AL p.2.2.1.length cL) (by omega)
  have hb9 : Below w.heap.size w ((x1.setCell ⟨w.heap.size, 2, none⟩ (.slice AR p.2.2.2.length cR)).setCell ⟨w.heap.size, 3, none⟩ (.slice AL p.2.2.1.length cL)) := bl_set (bl_set hb1 (Nat.le_refl _) _) (Nat.le_refl _) _
  go_upto_region 2 with fail
  obtain ⟨w9, hw9⟩ : ∃ X, (x1.setCell ⟨w.heap.size, 2, none⟩ (.slice AR p.2.2.2.length cR)).setCell ⟨w.heap.size, 3, none⟩ (.slice AL p.2.2.1.length cL) = X := ⟨_, rfl⟩
  rw [hw9] at hP9 hZ9 hb9 ⊢
  have hP9 : Blk w9 w.heap.size 24 #[.string ⟨p.1.toArray⟩, .int .i64 p.2.1, .slice AR p.2.2.2.length cR, .slice AL p.2.2.1.length cL] := hP9
  have fP9 := hP9.facts
  clear hw9 hP hZ fhP fhZ
  go_wp2_with (refine wpList_store_blk hZ9 rfl _ _ _ rfl rfl rfl (by rfl) (by kernel_rfl) (by kernel_rfl) ?_; intro w12 hZ12 hc12; have f12 := hZ12.facts)
  refine bodyPost_ret (v := .agg #[.string ⟨p.1.toArray⟩, .int .i64 p.2.1, .slice AR p.2.2.2.length cR, .slice AL p.2.2.1.length cL]) (by simp [results, Tryz.results19, go_sem, f12]) rfl ?_
  exact ⟨rfl, chg_bl hb9 hc12 (by omega)⟩
theorem str_byte (s : List UInt8) (i : Nat) (h : i < s.length) : ({ data := s.toArray } : ByteArray).extract i (i + 1) = { data := #[s[i]] } := by
  rw [ByteArray.extract_mk]
  congr 1
  apply Array.ext'
  simp
  rw [List.drop_eq_getElem_cons h, List.take_succ_cons, List.take_zero]
theorem revT (s : List UInt8) (j : Nat) (h : j < s.length) : s.reverse.take (j + 1) = s.reverse.take j ++ [s[s.length - 1 - j]'(by omega)] := by
  rw [List.take_succ_eq_append_getElem (by simpa using h), List.getElem_reverse]
theorem oppT (l : List Edg) (j : Nat) (h : j < l.length) : (l.reverse.take (j + 1)).map oppE = (l.reverse.take j).map oppE ++ [oppE (l[l.length - 1 - j]'(by omega))] := by
  rw [List.take_succ_eq_append_getElem (by simpa using h), List.getElem_reverse, List.map_append]
  rfl
theorem rturned_any {v : Value} (l : List Edg) (w : World) (h : SlE w v l) (hlen : l.length ≤ 1000) (hw : ∀ e ∈ l, e.1.length ≤ 1000) :
    Calls Tryz.prog 74 #[v] w (RG ec 3 60 w (oppL l)) := by
  obtain ⟨A, c, rfl, _, _, hr⟩ := h
  have HO : Hid (oppL l = (l.reverse.take l.length).map oppE) := by unfold Hid oppL; rw [← List.length_reverse, List.take_length]
  have HW := Lib.hid hw
  clear hw
  go_enter Tryz.func74, Tryz.ntmps74
  go_wp2
  go_loopw [3, 4] (fun s3 s4 wr => ∃ k : Nat, k ≤ l.length ∧ s4 = .int .i64 ((l.length : Int) - 1 - k) ∧ Own ec 3 w.heap.size 60 wr s3 ((l.reverse.take k).map oppE) ∧ Below w.heap.size w wr) (fun _ s4 _ => (intOf s4 + 1).toNat)
  case atStart => exact ⟨0, Nat.zero_le _, by simp, Own.nil_, bl_refl⟩
  case round =>
    obtain ⟨k, hk, rfl, hO, hbk⟩ := hrel
    obtain ⟨wo, rfl⟩ : ∃ x, x = wr := ⟨_, rfl⟩
    obtain ⟨i, hi⟩ : ∃ i : Int, (l.length : Int) - 1 - k = i := ⟨_, rfl⟩
    have HI := Lib.hid hi
    rw [hi]
    by_cases hlt : k < l.length
    · obtain ⟨n, hn⟩ : ∃ n : Nat, l.length - 1 - k = n := ⟨_, rfl⟩
      have hnl : n < l.length := by omega
      obtain rfl : i = n := by omega
      have ti : (0 ≤ (n : Int)) = True := eq_true (by omega)
      obtain ⟨b, off, rfl, hb, e0, e1, e2⟩ := (hr.below hbk).edge hnl
      have HT := Lib.hid (oppT l k hlt)
      have hT := HT.out
      simp only [hn] at hT
      have hwn := HW.out _ (List.getElem_mem hnl)
      obtain ⟨⟨s, t, o⟩, hx⟩ : ∃ z, l[n] = z := ⟨_, rfl⟩
      rw [hx] at e0 e1 e2 hT hwn
      have HT2 := Lib.hid hT
      simp only at e0 e1 e2 hwn
      clear hT HT hx hi
      obtain ⟨M, hM⟩ : ∃ M, (l.reverse.take k).map oppE = M := ⟨_, rfl⟩
      have hMl : M.length ≤ 1000 := by rw [← hM]; simp; omega
      rw [hM] at hO HT2
      clear hM
      obtain ⟨Ao, co, rfl⟩ := hO.shape
      have hsz : ({ data := s.toArray } : ByteArray).size = s.length := rfl
      go_wp2
      go_loopw [5, 6] (fun s5 s6 wr => ∃ j : Nat, j ≤ s.length ∧ s6 = .int .i64 ((s.length : Int) - 1 - j) ∧ s5 = sV (s.reverse.take j) ∧ wr = wo) (fun _ s6 _ => (intOf s6 + 1).toNat)
      case atStart => exact ⟨0, Nat.zero_le _, by simp, rfl, rfl⟩
      case round =>
        obtain ⟨j, hj, rfl, rfl, hwr⟩ := hrel
        obtain ⟨wi, rfl⟩ : ∃ x, x = wr := ⟨_, rfl⟩
        subst hwr
        obtain ⟨q, hq⟩ : ∃ q : Int, (s.length : Int) - 1 - j = q := ⟨_, rfl⟩
        have HQ := Lib.hid hq
        rw [hq]
        by_cases hlj : j < s.length
        · obtain ⟨m, hm⟩ : ∃ m : Nat, s.length - 1 - j = m := ⟨_, rfl⟩
          have hms : m < s.length := by omega
          obtain rfl : q = m := by omega
          have tq : (0 ≤ (m : Int)) = True := eq_true (by omega)
          have hR := revT s j hlj
          simp only [hm] at hR
          have hbt := str_byte s m hms
          have hap := app_str (s.reverse.take j) s[m]
          rw [← hR] at hap
          obtain ⟨cc, hcc⟩ : ∃ cc, s[m] = cc := ⟨_, rfl⟩
          rw [hcc] at hbt hap
          obtain ⟨R, hRR⟩ : ∃ R, s.reverse.take j = R := ⟨_, rfl⟩
          have hRl : R.length ≤ 1000 := by rw [← hRR]; simp; omega
          obtain ⟨R2, hR2⟩ : ∃ R, s.reverse.take (j + 1) = R := ⟨_, rfl⟩
          rw [hR2] at hap
          rw [hRR] at hap ⊢
          have HR2 := Lib.hid hR2
          have hs1 : ({ data := #[cc] } : ByteArray).size = 1 := rfl
          have hsR : ({ data := R.toArray } : ByteArray).size = R.length := rfl
          have hlim : (9223372036854775807 < R.length + 1) = False := eq_false (by omega)
          unfold sV
          clear hq hR hcc hRR hR2
          go_wp2
          go_roundw
          case rel => exact ⟨j + 1, by omega, congrArg (Value.int .i64) (by have := HQ.out; push_cast; omega), by rw [HR2.out], trivial⟩
          case measure => simp [intOf]
        · obtain rfl : j = s.length := by omega
          have tq : (0 ≤ q) = False := eq_false (by omega)
          have hE : s.reverse.take s.length = s.reverse := by rw [← List.length_reverse, List.take_length]
          rw [hE]
          clear hE hq
          obtain ⟨SR, hSR⟩ : ∃ z, s.reverse = z := ⟨_, rfl⟩
          have HOE : Hid (oppE (s, t, o) = (SR, t, !o)) := by unfold Hid; rw [← hSR]; rfl
          rw [hSR]
          clear hSR
          unfold sV
          have hu := (Sl.oneG (enc := ec) (sz := 3) wi 60 (SR, t, !o) #[.string ⟨SR.toArray⟩, .int .i64 t, .bool (!o)] rfl).drew
          have hal : Below wi.heap.size wi (wi.alloc (.cells #[.string ⟨SR.toArray⟩, .int .i64 t, .bool (!o)] 60)) := bl_alloc bl_refl _
          have hsz2 := hbk.size
          have hwz := hal.size
          have hOa := (hO.alloc (.cells #[.string ⟨SR.toArray⟩, .int .i64 t, .bool (!o)] 60)).drew
          go_upto_region 10 with fail
          refine wp_region_ords [0, 1, 2, 3, 4, 5, 6, 7, 8, 9, 10, 11, 12, 13] [(14, false)] [15, 16] (by kernel_rfl) (by kernel_rfl) (fun d _ _ _ _ h => by cases d <;> exact h) ?_
          simp only [List.map_cons, List.map_nil, List.getD_cons_zero, List.getD_cons_succ]
          repeat (go_big_quiet_step (fail))
          refine wpQuiet_nil ?_
          refine wpMid_run rfl (fun K hK => ?_)
          go_simp
          refine hK _ _ (by (repeat (first | exact bl_refl | assumption | (apply bl_then; assumption) | refine bl_alloc ?_ _ | refine bl_drew ?_ | refine bl_drewN ?_ _))) ?_
          clear hK K
          refine wpMid_nil ?_
          go_wp2_with (at_builtin; refine wpList_app rfl redge_elem ec_len ec_one _ _ rfl w.heap.size _ _ _ [(SR, t, !o)] rfl rfl hOa hu (by simp [maxLen]; omega) (by simp; omega) (by simp; omega) ?_; intro v3 w3 hu3 hgr3)
          have hb3 : Below w.heap.size w w3 := bl_grown hgr3 (bl_drew (bl_alloc hbk _)) (fun j e => (hO.lt j e).1)
          rw [← HOE.out, ← HT2.out] at hu3
          go_wp2
          go_roundw
          case rel => exact ⟨k + 1, by omega, congrArg (Value.int .i64) (by have := HI.out; push_cast; omega), hu3, hb3⟩
          case measure => simp [intOf]
    · obtain rfl : k = l.length := by omega
      have ti : (0 ≤ i) = False := eq_false (by omega)
      rw [← HO.out] at hO
      clear hi
      go_wp2
      go_ret
      exact ⟨_, rfl, hO, hbk⟩
theorem rTurn_any {vL vR : Value} (p : Pan) (w : World) (hL : SlE w vL p.2.2.1) (hR : SlE w vR p.2.2.2) (hok : PanOk p) :
    Calls Tryz.prog 20 #[.agg #[sV p.1, .int .i64 p.2.1, vL, vR]] w (fun e w' => ∃ xL xR, e = .returned (.agg #[sV p.1, .int .i64 ((topX p true - topX p false).tdiv 2), xL, xR]) ∧ Own ec 3 w.heap.size 60 w' xL (oppL p.2.2.2) ∧ Own ec 3 w.heap.size 60 w' xR (oppL p.2.2.1) ∧ Below w.heap.size w w') := by
  have ll := hok.left.few
  have lr := hok.right.few
  have hcn := fun W (hb : Below w.heap.size w W) => rcorners_any p W (hL.below hb) (hR.below hb) hok
  have cl := fun W (hb : Below w.heap.size w W) => rturned_any p.2.2.2 W (hR.below hb) (by omega) (edg_len hok.right)
  have cr := fun W (hb : Below w.heap.size w W) => rturned_any p.2.2.1 W (hL.below hb) (by omega) (edg_len hok.left)
  have hx1 := topX_near hok false
  have hx2 := topX_near hok true
  obtain ⟨x0, x1, x2, x3, y2, y3, hC⟩ : ∃ x0 x1 x2 x3 y2 y3 : Int, cornA p = #[.int .i64 x0, .int .i64 x1, .int .i64 x2, .int .i64 x3, .int .i64 (topX p false), .int .i64 y2, .int .i64 (topX p true), .int .i64 y3] := ⟨_, _, _, _, _, _, rfl⟩
  rw [hC] at hcn
  obtain ⟨X1, hX1⟩ : ∃ X, topX p false = X := ⟨_, rfl⟩
  obtain ⟨X2, hX2⟩ : ∃ X, topX p true = X := ⟨_, rfl⟩
  rw [hX1] at hcn hx1 ⊢
  rw [hX2] at hcn hx2 ⊢
  obtain ⟨AL, cL, rfl, _, _, _⟩ := hL
  obtain ⟨AR, cR, rfl, _, _, _⟩ := hR
  have hs : sV p.1 = .string ⟨p.1.toArray⟩ := rfl
  rw [hs] at hcn
  rw [hs]
  have hP := (Blk.new w 24 #[.string ⟨p.1.toArray⟩, .int .i64 p.2.1, .slice AL p.2.2.1.length cL, .slice AR p.2.2.2.length cR]).alloc (.cells zeroPV 24)
  have hZ := Blk.new1 w (.cells #[.string ⟨p.1.toArray⟩, .int .i64 p.2.1, .slice AL p.2.2.1.length cL, .slice AR p.2.2.2.length cR] 24) 24 zeroPV
  unfold zeroPV at hP hZ
  have fhP := hP.facts
  have fhZ := hZ.facts
  clear hs hX1 hX2 hC hok
  go_enter Tryz.func20, Tryz.ntmps20
  go_wp2_with fail
  refine (hcn _ (by (repeat (first | exact bl_refl | assumption | (apply bl_then; assumption) | refine bl_alloc ?_ _ | refine bl_drew ?_ | refine bl_drewN ?_ _)))).mono ?_
  rintro e w3 ⟨rfl, hb3⟩
  replace hP := hP.below (show Below _ _ w3 by (repeat (first | exact bl_refl | assumption | (apply bl_then; assumption) | refine bl_alloc ?_ _ | refine bl_drew ?_ | refine bl_drewN ?_ _)))
  replace fhP := hP.facts
  replace hZ := hZ.below (show Below _ _ w3 by (repeat (first | exact bl_refl | assumption | (apply bl_then; assumption) | refine bl_alloc ?_ _ | refine bl_drew ?_ | refine bl_drewN ?_ _)))
  replace fhZ := hZ.facts
  have hK := Blk.new w3 104 #[.int .i64 x0, .int .i64 x1, .int .i64 x2, .int .i64 x3, .int .i64 X1, .int .i64 y2, .int .i64 X2, .int .i64 y3]
  replace hP := hP.alloc (.cells #[.int .i64 x0, .int .i64 x1, .int .i64 x2, .int .i64 x3, .int .i64 X1, .int .i64 y2, .int .i64 X2, .int .i64 y3] 104)
  replace hZ := hZ.alloc (.cells #[.int .i64 x0, .int .i64 x1, .int .i64 x2, .int .i64 x3, .int .i64 X1, .int .i64 y2, .int .i64 X2, .int .i64 y3] 104)
  have hbw4 : Below w.heap.size w (w3.alloc (.cells #[.int .i64 x0, .int .i64 x1, .int .i64 x2, .int .i64 x3, .int .i64 X1, .int .i64 y2, .int .i64 X2, .int .i64 y3] 104)) := by (repeat (first | exact bl_refl | assumption | (apply bl_then; assumption) | refine bl_alloc ?_ _ | refine bl_drew ?_ | refine bl_drewN ?_ _))
  go_upto_region 2 with fail
  obtain ⟨w4, hw4⟩ : ∃ X, w3.alloc (.cells #[.int .i64 x0, .int .i64 x1, .int .i64 x2, .int .i64 x3, .int .i64 X1, .int .i64 y2, .int .i64 X2, .int .i64 y3] 104) = X := ⟨_, rfl⟩
  obtain ⟨gk, hgk⟩ : ∃ X, w3.heap.size = X := ⟨_, rfl⟩
  rw [hw4] at hP hZ hbw4
  rw [hw4, hgk] at hK
  rw [hw4, hgk]
  clear hw4 hgk hcn hb3
  replace fhP := hP.facts
  replace fhZ := hZ.facts
  have fK := hK.facts
  refine wp_region_ords [0, 1, 2, 3, 4, 5, 6, 7, 8, 9, 10, 11, 13, 14] [(12, false), (15, false)] [16, 17] (by kernel_rfl) (by kernel_rfl) (fun d _ _ _ _ h => by cases d <;> exact h) ?_
  simp only [List.map_cons, List.map_nil, List.getD_cons_zero, List.getD_cons_succ]
  repeat (go_big_quiet_step (fail))
  refine wpQuiet_nil ?_
  refine wpMid_run rfl (fun K hK => ?_)
  go_simp
  refine (cl _ (by (repeat (first | exact bl_refl | assumption | (apply bl_then; assumption) | refine bl_alloc ?_ _ | refine bl_drew ?_ | refine bl_drewN ?_ _)))).mono ?_
  rintro e w5 ⟨v5, rfl, hO5, hb5⟩
  refine hK _ _ (by (repeat (first | exact bl_refl | assumption | (apply bl_then; assumption) | refine bl_alloc ?_ _ | refine bl_drew ?_ | refine bl_drewN ?_ _))) ?_
  clear hK K
  have hP_w5 := hP.below (show Below _ _ w5 by (repeat (first | exact bl_refl | assumption | (apply bl_then; assumption) | refine bl_alloc ?_ _ | refine bl_drew ?_ | refine bl_drewN ?_ _)))
  have fhP_w5 := hP_w5.facts
  have hZ_w5 := hZ.below (show Below _ _ w5 by (repeat (first | exact bl_refl | assumption | (apply bl_then; assumption) | refine bl_alloc ?_ _ | refine bl_drew ?_ | refine bl_drewN ?_ _)))
  have fhZ_w5 := hZ_w5.facts
  obtain ⟨A5, c5, rfl⟩ := hO5.shape
  refine wpMid_run rfl (fun K hK => ?_)
  go_simp
  refine (cr _ (by (repeat (first | exact bl_refl | assumption | (apply bl_then; assumption) | refine bl_alloc ?_ _ | refine bl_drew ?_ | refine bl_drewN ?_ _)))).mono ?_
  rintro e w6 ⟨v6, rfl, hO6, hb6⟩
  refine hK _ _ (by (repeat (first | exact bl_refl | assumption | (apply bl_then; assumption) | refine bl_alloc ?_ _ | refine bl_drew ?_ | refine bl_drewN ?_ _))) ?_
  clear hK K
  have hP_w6 := hP.below (show Below _ _ w6 by (repeat (first | exact bl_refl | assumption | (apply bl_then; assumption) | refine bl_alloc ?_ _ | refine bl_drew ?_ | refine bl_drewN ?_ _)))
  have fhP_w6 := hP_w6.facts
  have hZ_w6 := hZ.below (show Below _ _ w6 by (repeat (first | exact bl_refl | assumption | (apply bl_then; assumption) | refine bl_alloc ?_ _ | refine bl_drew ?_ | refine bl_drewN ?_ _)))
  have fhZ_w6 := hZ_w6.facts
  obtain ⟨A6, c6, rfl⟩ := hO6.shape
  refine wpMid_nil ?_
  have hbb : Below w4.heap.size w4 w6 := by (repeat (first | exact bl_refl | assumption | (apply bl_then; assumption) | refine bl_alloc ?_ _ | refine bl_drew ?_ | refine bl_drewN ?_ _))
  have hO56 := hO5.below (show Below w5.heap.size w5 w6 by (repeat (first | exact bl_refl | assumption | (apply bl_then; assumption) | refine bl_alloc ?_ _ | refine bl_drew ?_ | refine bl_drewN ?_ _)))
  have hz5 : w4.heap.size ≤ w5.heap.size := Below.size (by (repeat (first | exact bl_refl | assumption | (apply bl_then; assumption) | refine bl_alloc ?_ _ | refine bl_drew ?_ | refine bl_drewN ?_ _)))
  go_wp2_with (refine wpList_store_blk hZ_w6 rfl _ _ _ rfl rfl rfl (by rfl) (by kernel_rfl) (by kernel_rfl) ?_; intro w12 hZ12 hc12; have f12 := hZ12.facts)
  refine bodyPost_ret (v := .agg #[.string ⟨p.1.toArray⟩, .int .i64 ((X2 - X1).tdiv 2), .slice A5 (oppL p.2.2.2).length c5, .slice A6 (oppL p.2.2.1).length c6]) (by simp [results, Tryz.results20, go_sem, f12]) rfl ?_
  have hz1 : w.heap.size + 1 < w4.heap.size := hZ.lt
  exact ⟨_, _, rfl, (hO56.chg hc12 (by simp; omega)).base_mono hbw4.size, (hO6.chg hc12 (by simp; omega)).base_mono (by omega), chg_bl (bl_then hbb hbw4) hc12 (by omega)⟩
end Go.Proofs.YthkjgcldolnjaaaGreatDoor

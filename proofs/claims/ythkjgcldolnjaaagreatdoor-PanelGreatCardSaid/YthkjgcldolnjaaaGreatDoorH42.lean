/- The reference: corners, places, walked. Conditions: the panel is valid. -/
import Derived.Test.YthkjgcldolnjaaaGreatDoorH39
import Derived.Test.YthkjgcldolnjaaaGreatDoorH20
import Derived.Test.YthkjgcldolnjaaaGreatDoorH17
namespace Go.Proofs.YthkjgcldolnjaaaGreatDoor
open Go.RowKit Go.ChangeMaps
set_option maxHeartbeats 4000000
set_option maxRecDepth 100000

attribute [local go_sem] Oper.semAt_some
/-! # The reference: corners, places, strips -/
theorem rcorners_any {vL vR : Value} (p : Pan) (w : World) (hL : SlE w vL p.2.2.1) (hR : SlE w vR p.2.2.2) (hok : PanOk p) :
    Calls Tryz.prog 73 #[.agg #[sV p.1, .int .i64 p.2.1, vL, vR]] w (RV w (.agg (cornA p))) := by
  have hw0 : 0 ≤ p.2.1 ∧ p.2.1 ≤ 128 := ⟨by have := hok.wid.1; omega, hok.wid.2⟩
  have o1 := fun W (hb : Below w.heap.size w W) => routline_any p false W (hL.below hb) (hR.below hb) hok.left hok.right hw0
  have o2 := fun W (hb : Below w.heap.size w W) => routline_any p true W (hL.below hb) (hR.below hb) hok.left hok.right hw0
  have l1 : (outP p false).length = (stpL (sideP p false)).length + 1 := outK_len _ _ _
  have l2 : (outP p true).length = (stpL (sideP p true)).length + 1 := outK_len _ _ _
  have h1 := out_head p false
  have h2 := out_head p true
  have e1 := out_last p false
  have e2 := out_last p true
  simp only [sideP, Bool.false_eq_true, if_false, if_true] at e1 e2 l1 l2
  have HC : Hid (cornA p = #[.int .i64 (fromP p false).1, .int .i64 (fromP p false).2, .int .i64 (fromP p true).1, .int .i64 (fromP p true).2,
    .int .i64 (posK false (fromP p false) (stpL p.2.2.1)).1, .int .i64 (posK false (fromP p false) (stpL p.2.2.1)).2, .int .i64 (posK true (fromP p true) (stpL p.2.2.2)).1, .int .i64 (posK true (fromP p true) (stpL p.2.2.2)).2]) := rfl
  obtain ⟨C, hC⟩ : ∃ C, cornA p = C := ⟨_, rfl⟩
  rw [hC] at HC ⊢
  clear hC
  obtain ⟨⟨x1, y1⟩, hk1⟩ : ∃ z, posK false (fromP p false) (stpL p.2.2.1) = z := ⟨_, rfl⟩
  obtain ⟨⟨x2, y2⟩, hk2⟩ : ∃ z, posK true (fromP p true) (stpL p.2.2.2) = z := ⟨_, rfl⟩
  rw [hk1] at e1 HC
  rw [hk2] at e2 HC
  clear hk1 hk2
  obtain ⟨⟨a1, b1⟩, hk1⟩ : ∃ z, fromP p false = z := ⟨_, rfl⟩
  obtain ⟨⟨a2, b2⟩, hk2⟩ : ∃ z, fromP p true = z := ⟨_, rfl⟩
  rw [hk1] at h1 HC
  rw [hk2] at h2 HC
  clear hk1 hk2
  obtain ⟨n1, hn1⟩ : ∃ n, (stpL p.2.2.1).length = n := ⟨_, rfl⟩
  obtain ⟨n2, hn2⟩ : ∃ n, (stpL p.2.2.2).length = n := ⟨_, rfl⟩
  have hs1 : n1 ≤ 512 := by rw [← hn1]; exact hok.left.len
  have hs2 : n2 ≤ 512 := by rw [← hn2]; exact hok.right.len
  rw [hn1] at l1
  rw [hn2] at l2
  clear hn1 hn2
  obtain ⟨O1, hO1⟩ : ∃ O, outP p false = O := ⟨_, rfl⟩
  obtain ⟨O2, hO2⟩ : ∃ O, outP p true = O := ⟨_, rfl⟩
  rw [hO1] at o1 l1 h1 e1
  rw [hO2] at o2 l2 h2 e2
  clear hO1 hO2
  rw [l1, Nat.add_sub_cancel] at e1
  rw [l2, Nat.add_sub_cancel] at e2
  have HH1 := Lib.hid h1
  have HH2 := Lib.hid h2
  have HE1 := Lib.hid e1
  have HE2 := Lib.hid e2
  have HL1 := Lib.hid l1
  have HL2 := Lib.hid l2
  clear h1 h2 e1 e2 l1 l2
  obtain ⟨AL, cL, rfl, _, _, _⟩ := hL
  obtain ⟨AR, cR, rfl, _, _, _⟩ := hR
  unfold sV at o1 o2 ⊢
  have hP := (Blk.new w 24 #[.string ⟨p.1.toArray⟩, .int .i64 p.2.1, .slice AL p.2.2.1.length cL, .slice AR p.2.2.2.length cR]).alloc (.cells #[.int .i64 0, .int .i64 0, .int .i64 0, .int .i64 0, .int .i64 0, .int .i64 0, .int .i64 0, .int .i64 0] 104)
  have hZ := Blk.new1 w (.cells #[.string ⟨p.1.toArray⟩, .int .i64 p.2.1, .slice AL p.2.2.1.length cL, .slice AR p.2.2.2.length cR] 24) 104 #[.int .i64 0, .int .i64 0, .int .i64 0, .int .i64 0, .int .i64 0, .int .i64 0, .int .i64 0, .int .i64 0]
  clear hok hw0
  go_enter Tryz.func73, Tryz.ntmps73
  go_upto_region 1 with fail
  obtain ⟨w1, hw1⟩ : ∃ X, (w.alloc (.cells #[.string ⟨p.1.toArray⟩, .int .i64 p.2.1, .slice AL p.2.2.1.length cL, .slice AR p.2.2.2.length cR] 24)).alloc (.cells #[.int .i64 0, .int .i64 0, .int .i64 0, .int .i64 0, .int .i64 0, .int .i64 0, .int .i64 0, .int .i64 0] 104) = X := ⟨_, rfl⟩
  have hb1 : Below w.heap.size w w1 := by rw [← hw1]; exact bl_alloc (bl_alloc bl_refl _) _
  rw [hw1] at hP hZ ⊢
  clear hw1
  have fhP := hP.facts
  refine wp_region_ords [0, 2] [(1, false)] [3, 4, 5] (by kernel_rfl) (by kernel_rfl) (fun d _ _ _ _ h => by cases d <;> exact h) ?_
  simp only [List.map_cons, List.map_nil, List.getD_cons_zero, List.getD_cons_succ]
  repeat (go_big_quiet_step (fail))
  refine wpQuiet_nil ?_
  refine wpMid_run rfl (fun K hK => ?_)
  go_simp
  refine (o1 _ (by (repeat (first | exact bl_refl | assumption | (apply bl_then; assumption) | refine bl_alloc ?_ _ | refine bl_drew ?_ | refine bl_drewN ?_ _)))).mono ?_
  rintro e w8 ⟨v8, rfl, hO8, hb8⟩
  refine hK _ _ (by (repeat (first | exact bl_refl | assumption | (apply bl_then; assumption) | refine bl_alloc ?_ _ | refine bl_drew ?_ | refine bl_drewN ?_ _))) ?_
  clear hK K
  have hP_w8 := hP.below (show Below _ _ w8 by (repeat (first | exact bl_refl | assumption | (apply bl_then; assumption) | refine bl_alloc ?_ _ | refine bl_drew ?_ | refine bl_drewN ?_ _)))
  have fhP_w8 := hP_w8.facts
  refine wpMid_nil ?_
  go_wp2_with (go_at_call 70; refine (o2 _ (by (repeat (first | exact bl_refl | assumption | (apply bl_then; assumption) | refine bl_alloc ?_ _ | refine bl_drew ?_ | refine bl_drewN ?_ _)))).mono ?_; rintro e w9 ⟨v9, rfl, hO9, hb9⟩)
  obtain ⟨A8, c8, rfl⟩ := hO8.shape
  obtain ⟨_, _, he8, hlc8, hcm8, hr8⟩ := hO8.rd kc_len
  obtain ⟨rfl, rfl⟩ : A8 = _ ∧ c8 = _ := by simpa using he8
  obtain ⟨A9, c9, rfl⟩ := hO9.shape
  obtain ⟨_, _, he9, hlc9, hcm9, hr9⟩ := hO9.rd kc_len
  obtain ⟨rfl, rfl⟩ : A9 = _ ∧ c9 = _ := by simpa using he9
  have hb19 : Below w1.heap.size w1 w9 := by (repeat (first | exact bl_refl | assumption | (apply bl_then; assumption) | refine bl_alloc ?_ _ | refine bl_drew ?_ | refine bl_drewN ?_ _))
  have hbw9 : Below w.heap.size w w9 := bl_then hb19 hb1
  have hZ9 := hZ.below hb19
  replace hr8 := hr8.below (show Below w8.heap.size w8 w9 by (repeat (first | exact bl_refl | assumption | (apply bl_then; assumption) | refine bl_alloc ?_ _ | refine bl_drew ?_ | refine bl_drewN ?_ _)))
  obtain ⟨s8, o8, hA8, hl8, p8, q8⟩ := hr8.knot (k := 0) (by have := HL1.out; omega)
  obtain ⟨s9, o9, hA9, hl9, p9, q9⟩ := hr9.knot (k := 0) (by have := HL2.out; omega)
  obtain ⟨s8', o8', hA8', _, P8, Q8⟩ := hr8.knot (k := n1) (by have := HL1.out; omega)
  obtain ⟨s9', o9', hA9', _, P9, Q9⟩ := hr9.knot (k := n2) (by have := HL2.out; omega)
  subst hA8 hA9
  obtain ⟨rfl, rfl⟩ : s8 = s8' ∧ o8 = o8' := by simpa using hA8'
  obtain ⟨rfl, rfl⟩ : s9 = s9' ∧ o9 = o9' := by simpa using hA9'
  rw [(List.getElem?_eq_some_iff.1 HH1.out).2] at p8 q8
  rw [(List.getElem?_eq_some_iff.1 HH2.out).2] at p9 q9
  rw [(List.getElem?_eq_some_iff.1 HE1.out).2] at P8 Q8
  rw [(List.getElem?_eq_some_iff.1 HE2.out).2] at P9 Q9
  simp only [Nat.zero_mul, Nat.add_zero] at p8 q8 p9 q9 P8 Q8 P9 Q9
  rw [HL1.out, HL2.out]
  have ee1 : (((n1 + 1 : Nat) : Int) - 1) = (n1 : Int) := by omega
  have ee2 : (((n2 + 1 : Nat) : Int) - 1) = (n2 : Int) := by omega
  clear he8 he9 hO8 hO9 hb8 hb9 hP fhP hP_w8 fhP_w8 o1 o2 hZ hb19 hb1 hA8' hA9' hlc8 hcm8 hlc9 hcm9 hr8 hr9
  go_upto_region 2 with fail
  refine wp_region_ords [0, 1, 2, 3, 4, 5, 6, 7, 8, 9, 10, 11, 12, 13, 14, 15, 16, 17, 18] [] [19] (by kernel_rfl) (by kernel_rfl) (fun d _ _ _ _ h => by cases d <;> exact h) ?_
  simp only [List.map_cons, List.map_nil, List.getD_cons_zero, List.getD_cons_succ]
  repeat (go_big_quiet_step (fail))
  refine wpQuiet_nil ?_
  refine wpMid_nil ?_
  go_wp2_with (refine wpList_store_blk (hZ9.drew) rfl _ _ _ rfl rfl rfl (by rfl) (by kernel_rfl) (by kernel_rfl) ?_; intro w12 hZ12 hc12; have f12 := hZ12.facts)
  refine bodyPost_ret (v := .agg #[.int .i64 a1, .int .i64 b1, .int .i64 a2, .int .i64 b2, .int .i64 x1, .int .i64 y1, .int .i64 x2, .int .i64 y2]) (by simp [results, Tryz.results73, go_sem, f12]) rfl ?_
  exact ⟨by rw [HC.out], chg_bl (by (repeat (first | exact bl_refl | assumption | (apply bl_then; assumption) | refine bl_alloc ?_ _ | refine bl_drew ?_ | refine bl_drewN ?_ _))) hc12 (by omega)⟩
/-! ## places -/
theorem plcGo_at {l : List Knot} {j : Nat} (hj : j + 1 < l.length) (y : Int) : plcGo y l[j] (l.drop (j + 1)) = if l[j].2 ≤ y ∧ y < l[j + 1].2 then (if l[j + 1].2 = l[j].2 + 1 then (l[j].1, l[j + 1].1) else (l[j + 1].1, l[j + 1].1)) else plcGo y l[j + 1] (l.drop (j + 1 + 1)) := by
  rw [List.drop_eq_getElem_cons hj, plcGo]
theorem rplaces_any {v : Value} (l : List Knot) (y : Int) (w : World) (h : SlK w v l) (hne : 0 < l.length) (hlen : l.length ≤ 100000) (hy : ∀ k ∈ l, -100000 ≤ k.2 ∧ k.2 ≤ 100000) :
    Calls Tryz.prog 123 #[v, .int .i64 y] w (RV w (.agg #[.int .i64 (plcI l y).1, .int .i64 (plcI l y).2])) := by
  obtain ⟨A, c, rfl, hlc, hcm, hr⟩ := h
  have hN := Blk.new w 91 #[.int .i64 0, .int .i64 0]
  have hb1 : Below w.heap.size w (w.alloc (.cells #[.int .i64 0, .int .i64 0] 91)) := bl_alloc bl_refl _
  have HI : Hid (plcI l y = plcGo y (l[0]'hne) (l.drop (0 + 1))) := by
    unfold Hid
    cases l with
    | nil => simp at hne
    | cons k r => rfl
  obtain ⟨⟨RX, RY⟩, hR⟩ : ∃ z, plcI l y = z := ⟨_, rfl⟩
  rw [hR] at HI ⊢
  clear hR
  go_enter Tryz.func123, Tryz.ntmps123
  go_wp2
  obtain ⟨w1, hw1⟩ : ∃ X, w.alloc (.cells #[.int .i64 0, .int .i64 0] 91) = X := ⟨_, rfl⟩
  rw [hw1] at hN hb1 ⊢
  clear hw1
  go_loopw [5] (fun i wr => ∃ j : Nat, ∃ hj : j < l.length, i = .int .i64 ((j + 1 : Nat) : Int) ∧ Hid ((RX, RY) = plcGo y l[j] (l.drop (j + 1))) ∧ Below w1.heap.size w1 wr) (fun i _ => l.length + 1 - (intOf i).toNat)
  case atStart => exact ⟨0, hne, rfl, HI, by (repeat (first | exact bl_refl | assumption | (apply bl_then; assumption) | refine bl_alloc ?_ _ | refine bl_drew ?_ | refine bl_drewN ?_ _))⟩
  case round =>
    obtain ⟨j, hj, rfl, H, hbw⟩ := hrel
    obtain ⟨wo, rfl⟩ : ∃ x, x = wr := ⟨_, rfl⟩
    have hN2 := hN.below hbw
    have e3 : (((j + 1 : Nat) : Int) - 1) = (j : Int) := by omega
    by_cases hlt : j + 1 < l.length
    · obtain ⟨b, off, rfl, hb, p0, p1⟩ := ((hr.below hb1).below hbw).knot hj
      obtain ⟨b', off', hA2, _, e0, e1⟩ := ((hr.below hb1).below hbw).knot hlt
      obtain ⟨rfl, rfl⟩ : b = b' ∧ off = off' := by simpa using hA2
      have HA := Lib.hid (plcGo_at hlt y)
      have hy1 := hy _ (List.getElem_mem hj)
      obtain ⟨⟨X, Y⟩, hX⟩ : ∃ z, l[j + 1] = z := ⟨_, rfl⟩
      obtain ⟨⟨PX, PY⟩, hPX⟩ : ∃ z, l[j] = z := ⟨_, rfl⟩
      have HX := Lib.hid hX
      rw [hX] at e0 e1 HA
      rw [hPX] at p0 p1 HA H hy1
      simp only at e0 e1 p0 p1 hy1
      clear hX hPX hA2
      by_cases h2 : PY ≤ y
      · have t2 : (PY ≤ y) = True := eq_true h2
        by_cases h3 : y < Y
        · have t3 : (y < Y) = True := eq_true h3
          have H2 : Hid ((RX, RY) = if Y = PY + 1 then (PX, X) else (X, X)) := by unfold Hid; rw [H.out, HA.out, if_pos ⟨h2, h3⟩]
          clear HA h2 h3
          by_cases h4 : Y = PY + 1
          · have H3 : Hid (RX = PX ∧ RY = X) := by have := H2.out; rw [if_pos h4] at this; simpa [Hid] using this
            subst h4
            go_upto_region 5 with fail
            refine wp_region_ords [0, 1, 2, 3, 4, 5, 6, 7, 8, 9, 10, 11, 12] [] [] (by kernel_rfl) (by kernel_rfl) (fun d _ _ _ _ h => by cases d <;> exact h) ?_
            simp only [List.map_cons, List.map_nil, List.getD_cons_zero, List.getD_cons_succ]
            repeat (go_big_quiet_step (fail))
            refine wpQuiet_nil ?_
            refine wpMid_nil ?_
            go_upto_region 6 with fail
            refine wp_region_ords [0, 1, 2, 3, 4, 5, 6, 7, 8, 9, 10, 11] [] [12] (by kernel_rfl) (by kernel_rfl) (fun d _ _ _ _ h => by cases d <;> exact h) ?_
            simp only [List.map_cons, List.map_nil, List.getD_cons_zero, List.getD_cons_succ]
            repeat (go_big_quiet_step (fail))
            refine wpQuiet_nil ?_
            refine wpMid_nil ?_
            go_wp2_with (refine wpList_store_blk (hN2.drew.drew) rfl _ _ _ rfl rfl rfl (by rfl) (by kernel_rfl) (by kernel_rfl) ?_; intro w3 hN3 hc3; have fN3 := hN3.facts)
            have hb3 : Below w.heap.size w w3 := chg_bl (by (repeat (first | exact bl_refl | assumption | (apply bl_then; assumption) | refine bl_alloc ?_ _ | refine bl_drew ?_ | refine bl_drewN ?_ _))) hc3 (Nat.le_refl _)
            refine bodyPost_ret (v := .agg #[.int .i64 PX, .int .i64 X]) (by simp [results, Tryz.results123, go_sem, fN3]) rfl ?_
            exact ⟨by rw [H3.out.1, H3.out.2], hb3⟩
          · have t4 : (Y == PY + 1) = false := beq_false_of_ne h4
            have H3 : Hid (RX = X ∧ RY = X) := by have := H2.out; rw [if_neg h4] at this; simpa [Hid] using this
            go_upto_region 5 with fail
            refine wp_region_ords [0, 1, 2, 3, 4, 5, 6, 7, 8, 9, 10, 11, 12] [] [] (by kernel_rfl) (by kernel_rfl) (fun d _ _ _ _ h => by cases d <;> exact h) ?_
            simp only [List.map_cons, List.map_nil, List.getD_cons_zero, List.getD_cons_succ]
            repeat (go_big_quiet_step (fail))
            refine wpQuiet_nil ?_
            refine wpMid_nil ?_
            go_upto_region 7 with fail
            refine wp_region_ords [0, 1, 2, 3, 4, 5, 6, 7, 8, 9, 10] [] [11] (by kernel_rfl) (by kernel_rfl) (fun d _ _ _ _ h => by cases d <;> exact h) ?_
            simp only [List.map_cons, List.map_nil, List.getD_cons_zero, List.getD_cons_succ]
            repeat (go_big_quiet_step (fail))
            refine wpQuiet_nil ?_
            refine wpMid_nil ?_
            go_wp2_with (refine wpList_store_blk (hN2.drew.drew) rfl _ _ _ rfl rfl rfl (by rfl) (by kernel_rfl) (by kernel_rfl) ?_; intro w3 hN3 hc3; have fN3 := hN3.facts)
            have hb3 : Below w.heap.size w w3 := chg_bl (by (repeat (first | exact bl_refl | assumption | (apply bl_then; assumption) | refine bl_alloc ?_ _ | refine bl_drew ?_ | refine bl_drewN ?_ _))) hc3 (Nat.le_refl _)
            refine bodyPost_ret (v := .agg #[.int .i64 X, .int .i64 X]) (by simp [results, Tryz.results123, go_sem, fN3]) rfl ?_
            exact ⟨by rw [H3.out.1, H3.out.2], hb3⟩
        · have t3 : (y < Y) = False := eq_false h3
          have H2 : Hid ((RX, RY) = plcGo y l[j + 1] (l.drop (j + 1 + 1))) := by unfold Hid; rw [H.out, HA.out, if_neg (fun h => h3 h.2), HX.out]
          clear HA h2 h3
          go_wp2
          go_roundw
          case rel => exact ⟨j + 1, hlt, by go_num, H2.out, hbw⟩
          case measure => simp [intOf]; omega
      · have t2 : (PY ≤ y) = False := eq_false h2
        have H2 : Hid ((RX, RY) = plcGo y l[j + 1] (l.drop (j + 1 + 1))) := by unfold Hid; rw [H.out, HA.out, if_neg (fun h => h2 h.1), HX.out]
        clear HA h2
        go_wp2
        go_roundw
        case rel => exact ⟨j + 1, hlt, by go_num, H2.out, hbw⟩
        case measure => simp [intOf]; omega
    · have H2 : Hid (RX = 0 ∧ RY = 0) := by
        have := H.out
        rw [List.drop_eq_nil_of_le (by omega), plcGo] at this
        simpa [Hid] using this
      go_wp2_with (refine wpList_store_blk hN2 rfl _ _ _ rfl rfl rfl (by rfl) (by kernel_rfl) (by kernel_rfl) ?_; intro w3 hN3 hc3; have fN3 := hN3.facts)
      have hb3 : Below w.heap.size w w3 := chg_bl (by (repeat (first | exact bl_refl | assumption | (apply bl_then; assumption) | refine bl_alloc ?_ _ | refine bl_drew ?_ | refine bl_drewN ?_ _))) hc3 (Nat.le_refl _)
      refine bodyPost_ret (v := .agg #[.int .i64 0, .int .i64 0]) (by simp [results, Tryz.results123, go_sem, fN3]) rfl ?_
      exact ⟨by rw [H2.out.1, H2.out.2], hb3⟩
end Go.Proofs.YthkjgcldolnjaaaGreatDoor

/- The reference: strips, area, letters, walked. Conditions: the panel is valid. -/
namespace Go.Proofs.YthkjgcldolnjaaaGreatDoor
open Go.RowKit Go.ChangeMaps
set_option maxHeartbeats 4000000
set_option maxRecDepth 100000

attribute [local go_sem] Oper.semAt_some
/-! # The reference: strips, area, letters; strips compared -/
theorem out_nearY (p : Pan) (right : Bool) (hw : 1 ≤ p.2.1 ∧ p.2.1 ≤ 128) (hs : (stpL (sideP p right)).length ≤ 512) : ∀ k ∈ outP p right, -100000 ≤ k.2 ∧ k.2 ≤ 100000 := by
  intro k hk
  obtain ⟨i, hi, rfl⟩ := List.getElem_of_mem hk
  unfold outP at hi ⊢
  rw [outK_get]
  have h0 : -256 ≤ (fromP p right).1 ∧ (fromP p right).1 ≤ 256 ∧ 0 ≤ (fromP p right).2 ∧ (fromP p right).2 ≤ 256 := by
    unfold fromP
    split <;> simp only <;> omega
  have := end_near (right := right) (n := 256) ((stpL (sideP p right)).take i) h0
  have hl : (((stpL (sideP p right)).take i).length : Int) ≤ 512 := by simp; omega
  omega
theorem strM_snoc (f : Nat → Strp) (k : Nat) : (List.range (k + 1)).map f = (List.range k).map f ++ [f k] := by rw [List.range_succ, List.map_append]; rfl
theorem rstrips_any {vL vR : Value} (p : Pan) (w : World) (hL : SlE w vL p.2.2.1) (hR : SlE w vR p.2.2.2) (hok : PanOk p) :
    Calls Tryz.prog 78 #[.agg #[sV p.1, .int .i64 p.2.1, vL, vR]] w (RG trc 4 124 w (strips p)) := by
  have hw0 : 0 ≤ p.2.1 ∧ p.2.1 ≤ 128 := ⟨by have := hok.wid.1; omega, hok.wid.2⟩
  have o1 := fun W (hb : Below w.heap.size w W) => routline_any p false W (hL.below hb) (hR.below hb) hok.left hok.right hw0
  have o2 := fun W (hb : Below w.heap.size w W) => routline_any p true W (hL.below hb) (hR.below hb) hok.left hok.right hw0
  have hH := fun W (hb : Below w.heap.size w W) => rheight_any (vR := vR) p W (hL.below hb) hok.left
  have hhr := hok.high
  have y1 := out_nearY p false hok.wid hok.left.len
  have y2 := out_nearY p true hok.wid hok.right.len
  have l1 := out_len p false (hok.side false)
  have l2 := out_len p true (hok.side true)
  have n1 : 0 < (outP p false).length := by unfold outP; rw [outK_len]; omega
  have n2 : 0 < (outP p true).length := by unfold outP; rw [outK_len]; omega
  have HS : Hid (strips p = (List.range (heightP p).toNat).map fun y => strI (outP p false) (outP p true) (y : Nat)) := rfl
  obtain ⟨H, hHe⟩ : ∃ n : Nat, heightP p = n := ⟨(heightP p).toNat, by omega⟩
  rw [hHe] at hH HS hhr
  obtain ⟨SP, hSP⟩ : ∃ S, strips p = S := ⟨_, rfl⟩
  rw [hSP] at HS ⊢
  obtain ⟨O1, hO1⟩ : ∃ O, outP p false = O := ⟨_, rfl⟩
  obtain ⟨O2, hO2⟩ : ∃ O, outP p true = O := ⟨_, rfl⟩
  rw [hO1] at o1 y1 l1 n1 HS
  rw [hO2] at o2 y2 l2 n2 HS
  obtain ⟨f, hf⟩ : ∃ f : Nat → Strp, (fun y : Nat => strI O1 O2 (y : Nat)) = f := ⟨_, rfl⟩
  have HF : Hid (∀ y : Nat, f y = ((plcI O1 y).1, (plcI O2 y).1, (plcI O1 y).2, (plcI O2 y).2)) := fun y => by rw [← hf]; rfl
  rw [hf, Int.toNat_natCast] at HS
  clear hHe hSP hO1 hO2 hf
  obtain ⟨AL, cL, rfl, _, _, _⟩ := hL
  obtain ⟨AR, cR, rfl, _, _, _⟩ := hR
  unfold sV at o1 o2 hH ⊢
  have hP := Blk.new w 24 #[.string ⟨p.1.toArray⟩, .int .i64 p.2.1, .slice AL p.2.2.1.length cL, .slice AR p.2.2.2.length cR]
  have fP := hP.facts
  clear hok hw0
  go_enter Tryz.func78, Tryz.ntmps78
  go_upto_region 2 with fail
  refine wp_region_ords [0, 2] [(1, false)] [3, 4, 5] (by kernel_rfl) (by kernel_rfl) (fun d _ _ _ _ h => by cases d <;> exact h) ?_
  simp only [List.map_cons, List.map_nil, List.getD_cons_zero, List.getD_cons_succ]
  repeat (go_big_quiet_step (fail))
  refine wpQuiet_nil ?_
  refine wpMid_run rfl (fun K hK => ?_)
  go_simp
  refine (o1 _ (by (repeat (first | exact bl_refl | assumption | (apply bl_then; assumption) | refine bl_alloc ?_ _ | refine bl_drew ?_ | refine bl_drewN ?_ _)))).mono ?_
  rintro e w2 ⟨v2, rfl, hO1, hb2⟩
  refine hK _ _ (by (repeat (first | exact bl_refl | assumption | (apply bl_then; assumption) | refine bl_alloc ?_ _ | refine bl_drew ?_ | refine bl_drewN ?_ _))) ?_
  clear hK K
  have hP_w2 := hP.below (show Below _ _ w2 by (repeat (first | exact bl_refl | assumption | (apply bl_then; assumption) | refine bl_alloc ?_ _ | refine bl_drew ?_ | refine bl_drewN ?_ _)))
  have fhP_w2 := hP_w2.facts
  refine wpMid_nil ?_
  go_wp2_with (go_at_call 70; refine (o2 _ (by (repeat (first | exact bl_refl | assumption | (apply bl_then; assumption) | refine bl_alloc ?_ _ | refine bl_drew ?_ | refine bl_drewN ?_ _)))).mono ?_; rintro e w3 ⟨v3, rfl, hO2, hb3⟩)
  have hbw3 : Below w.heap.size w w3 := by (repeat (first | exact bl_refl | assumption | (apply bl_then; assumption) | refine bl_alloc ?_ _ | refine bl_drew ?_ | refine bl_drewN ?_ _))
  have s1 := (hO1.rd kc_len).below hb3
  have s2 := hO2.rd kc_len
  have hP3 := hP_w2.below hb3
  have c1 := fun (y : Nat) W (hb : Below w3.heap.size w3 W) => rplaces_any O1 (y : Nat) W (s1.below hb) n1 (by omega) y1
  have c2 := fun (y : Nat) W (hb : Below w3.heap.size w3 W) => rplaces_any O2 (y : Nat) W (s2.below hb) n2 (by omega) y2
  obtain ⟨A2, d2, rfl⟩ := hO1.shape
  obtain ⟨A3, d3, rfl⟩ := hO2.shape
  clear o1 o2 hO1 hO2 s1 s2 y1 y2 hb2 hb3 hP fP hP_w2 fhP_w2
  go_loopw [3, 6] (fun o i wr => ∃ k : Nat, k ≤ H ∧ i = .int .i64 k ∧ Own trc 4 w3.heap.size 124 wr o ((List.range k).map f) ∧ Below w3.heap.size w3 wr) (fun _ i _ => H - (intOf i).toNat)
  case atStart => exact ⟨0, Nat.zero_le _, rfl, by simpa using Own.nil_, bl_refl⟩
  case round =>
    obtain ⟨k, hk, rfl, hO, hbk⟩ := hrel
    obtain ⟨wo, rfl⟩ : ∃ x, x = wr := ⟨_, rfl⟩
    have hP4 := hP3.below hbk
    have fP4 := hP4.facts
    go_wp2_with fail
    refine (hH _ (bl_then hbk hbw3)).mono ?_
    rintro e w5 ⟨rfl, hb5⟩
    have hbk5 : Below w3.heap.size w3 w5 := bl_then hb5 hbk
    have hO5 := hO.below hb5
    by_cases hlt : k < H
    · have HN := Lib.hid (strM_snoc f k)
      have hf := HF.out k
      have ck1 := c1 k
      have ck2 := c2 k
      obtain ⟨⟨a1, b1⟩, hk1⟩ : ∃ z, plcI O1 (k : Nat) = z := ⟨_, rfl⟩
      obtain ⟨⟨a2, b2⟩, hk2⟩ : ∃ z, plcI O2 (k : Nat) = z := ⟨_, rfl⟩
      rw [hk1] at hf ck1
      rw [hk2] at hf ck2
      simp only at hf ck1 ck2
      rw [hf] at HN
      obtain ⟨M, hM⟩ : ∃ M, (List.range k).map f = M := ⟨_, rfl⟩
      have hMl : M.length ≤ 256 := by rw [← hM]; simp; omega
      rw [hM] at hO5 HN
      clear hk1 hk2 hf hM hO hP4 fP4
      obtain ⟨Ao, co, rfl⟩ := hO5.shape
      go_wp2_with fail
      refine (ck1 _ hbk5).mono ?_
      rintro e w6 ⟨rfl, hb6⟩
      go_wp2_with fail
      refine (ck2 _ (bl_then hb6 hbk5)).mono ?_
      rintro e w7 ⟨rfl, hb7⟩
      have hO7 := (hO5.below hb6).below hb7
      have hbk7 : Below w3.heap.size w3 w7 := bl_then hb7 (bl_then hb6 hbk5)
      have hB1 := (Blk.new w7 91 #[.int .i64 a1, .int .i64 b1]).alloc (.cells #[.int .i64 a2, .int .i64 b2] 91)
      have hB2 := Blk.new1 w7 (.cells #[.int .i64 a1, .int .i64 b1] 91) 91 #[.int .i64 a2, .int .i64 b2]
      have f1 := hB1.facts
      have f2 := hB2.facts
      have hal : Below w7.heap.size w7 (((w7.alloc (.cells #[.int .i64 a1, .int .i64 b1] 91)).alloc (.cells #[.int .i64 a2, .int .i64 b2] 91)).alloc (.cells #[.int .i64 a1, .int .i64 a2, .int .i64 b1, .int .i64 b2] 124)) := bl_alloc (bl_alloc (bl_alloc bl_refl _) _) _
      have hal2 := hal.size
      have hu := Sl.oneG (enc := trc) (sz := 4) ((w7.alloc (.cells #[.int .i64 a1, .int .i64 b1] 91)).alloc (.cells #[.int .i64 a2, .int .i64 b2] 91)) 124 (a1, a2, b1, b2) #[.int .i64 a1, .int .i64 a2, .int .i64 b1, .int .i64 b2] rfl
      rw [World.size_alloc, World.size_alloc] at hu
      have hOa := hO7.below hal
      have hz7 := hbk7.size
      go_wp2_with (at_builtin; refine wpList_app rfl rstrp_elem trc_len trc_one _ _ rfl w3.heap.size _ _ _ [(a1, a2, b1, b2)] rfl rfl hOa hu (by simp [maxLen]; omega) (by simp; omega) (by omega) ?_; intro v9 w9 hu9 hgr9)
      have hb9 : Below w3.heap.size w3 w9 := bl_grown hgr9 (bl_then hal hbk7) (fun j e => (hOa.lt j e).1)
      go_wp2
      go_roundw
      case rel => exact ⟨k + 1, by omega, by go_num, by rw [HN.out]; exact hu9, hb9⟩
      case measure => simp [intOf]; omega
    · obtain rfl : k = H := by omega
      rw [← HS.out] at hO5
      go_wp2
      go_ret
      exact ⟨_, rfl, hO5.base_mono (by have := hbw3.size; omega), bl_then hb5 (bl_then hbk hbw3)⟩
theorem rarea_any {vL vR : Value} (p : Pan) (w : World) (hL : SlE w vL p.2.2.1) (hR : SlE w vR p.2.2.2) (hok : PanOk p) :
    Calls Tryz.prog 33 #[.agg #[sV p.1, .int .i64 p.2.1, vL, vR]] w (RV w (.int .i64 (areaS (strips p)))) := by
  have hbd := fun W (hb : Below w.heap.size w W) => rstrips_any p W (hL.below hb) (hR.below hb) hok
  have hS := strips_near hok
  have hSl := strips_le hok
  obtain ⟨S, hSS⟩ : ∃ S, strips p = S := ⟨_, rfl⟩
  rw [hSS] at hbd hS hSl ⊢
  obtain ⟨AL, cL, rfl, _, _, _⟩ := hL
  obtain ⟨AR, cR, rfl, _, _, _⟩ := hR
  unfold sV at hbd ⊢
  have hP := Blk.new w 24 #[.string ⟨p.1.toArray⟩, .int .i64 p.2.1, .slice AL p.2.2.1.length cL, .slice AR p.2.2.2.length cR]
  have fhP := hP.facts
  have HSN := Lib.hid hS
  have HAN := Lib.hid (areaS_near hS)
  clear hok hSS hS
  go_enter Tryz.func33, Tryz.ntmps33
  go_wp2_with fail
  refine (hbd _ (by (repeat (first | exact bl_refl | assumption | (apply bl_then; assumption) | refine bl_alloc ?_ _ | refine bl_drew ?_ | refine bl_drewN ?_ _)))).mono ?_
  rintro e w3 ⟨v3, rfl, hO3, hb3⟩
  replace hP := hP.below (show Below _ _ w3 by (repeat (first | exact bl_refl | assumption | (apply bl_then; assumption) | refine bl_alloc ?_ _ | refine bl_drew ?_ | refine bl_drewN ?_ _)))
  replace fhP := hP.facts
  obtain ⟨A3, c3, rfl⟩ := hO3.shape
  obtain ⟨_, _, he3, hlc3, hcm3, hr3⟩ := hO3.rd trc_len
  obtain ⟨rfl, rfl⟩ : A3 = _ ∧ c3 = _ := by simpa using he3
  have hbw3 : Below w.heap.size w w3 := by (repeat (first | exact bl_refl | assumption | (apply bl_then; assumption) | refine bl_alloc ?_ _ | refine bl_drew ?_ | refine bl_drewN ?_ _))
  clear hP fhP hb3 he3 hbd hO3 hlc3 hcm3
  go_wp2
  go_loopw [3, 5] (fun s3 s5 wr => ∃ k : Nat, k ≤ S.length ∧ s5 = .int .i64 k ∧ s3 = .int .i64 (areaS (S.take k)) ∧ Below w3.heap.size w3 wr) (fun _ s _ => S.length - (intOf s).toNat)
  case atStart => exact ⟨0, Nat.zero_le _, rfl, rfl, bl_refl⟩
  case round =>
    obtain ⟨k, hk, rfl, rfl, hbk⟩ := hrel
    obtain ⟨wo, rfl⟩ : ∃ x, x = wr := ⟨_, rfl⟩
    have hl := HAN.out k hk
    by_cases hlt : k < S.length
    · obtain ⟨b, off, rfl, hb, e0, e1, e2, e3⟩ := (hr3.below hbk).strp hlt
      have hs := HSN.out _ (List.getElem_mem hlt)
      have HT := Lib.hid (areaS_snoc hlt)
      obtain ⟨⟨x0, x1, x2, x3⟩, hx⟩ : ∃ z, S[k] = z := ⟨_, rfl⟩
      rw [hx] at e0 e1 e2 e3 HT hs
      unfold nearS at hs
      simp only at e0 e1 e2 e3 hs
      obtain ⟨⟨_, _⟩, ⟨_, _⟩, ⟨_, _⟩, _, _⟩ := hs
      obtain ⟨m, hm⟩ : ∃ m, areaS (S.take k) = m := ⟨_, rfl⟩
      rw [hm] at hl HT
      rw [hm]
      obtain ⟨hl1, hl2⟩ := hl
      have hl3 : -102400000 ≤ m := by omega
      have hl4 : m ≤ 102400000 := by omega
      clear hx hm hl1 hl2
      go_upto_region 6 with fail
      refine wp_region_ords [0, 1, 2, 3, 4, 5, 6, 7, 8, 9, 10, 11, 12, 13, 14, 15, 16, 17, 18, 19, 20, 21, 22, 23, 24, 25, 26, 27, 28, 29] [] [] (by kernel_rfl) (by kernel_rfl) (fun d _ _ _ _ h => by cases d <;> exact h) ?_
      simp only [List.map_cons, List.map_nil, List.getD_cons_zero, List.getD_cons_succ]
      repeat (go_big_quiet_step (fail))
      refine wpQuiet_nil ?_
      refine wpMid_nil ?_
      go_wp2
      go_roundw
      case rel => exact ⟨k + 1, by omega, by go_num, by rw [HT.out]; congr 1; simp only; omega, by (repeat (first | exact bl_refl | assumption | (apply bl_then; assumption) | refine bl_alloc ?_ _ | refine bl_drew ?_ | refine bl_drewN ?_ _))⟩
      case measure => simp [intOf]; omega
    · obtain rfl : k = S.length := by omega
      rw [List.take_length]
      go_wp2
      refine bodyPost_ret (v := .int .i64 (areaS S)) (by simp [results, Tryz.results33, go_sem]) rfl ?_
      exact ⟨rfl, bl_then hbk hbw3⟩
end Go.Proofs.YthkjgcldolnjaaaGreatDoor

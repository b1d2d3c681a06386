/- BaleGaps, walked. Conditions: the variables are laid. -/
import Derived.Test.YtgndakgggfbanaaGreatDoorR42
import Derived.Test.YtgndakgggfbanaaGreatDoorR44
import Derived.Test.YtgndakgggfbanaaGreatDoorR45
namespace Go.Proofs.YtgndakgggfbanaaGreatDoor
open Go.RowKit Go.ChangeMaps
set_option maxHeartbeats 4000000
set_option maxRecDepth 100000
attribute [local go_sem] Oper.semAt_some
theorem rslP_one {w : World} {x : PnV} {p : Pan} (t : TypeId) (h : PnAt w x p) : SlP (w.alloc (.cells #[sV x.1, .int .i64 x.2.1, slV x.2.2.1, slV x.2.2.2] t)) (.slice (some ⟨w.heap.size, 0, none⟩) 1 1) [p] :=
 ⟨[x], Sl.oneG (enc := pnc) (sz := 4) w _ x _ rfl, h.below (bl_alloc bl_refl _), trivial⟩
theorem rslP_two {w : World} {x y : PnV} {p q : Pan} (t : TypeId) (h : PnAt w x p) (h' : PnAt w y q) : SlP (w.alloc (.cells #[sV x.1, .int .i64 x.2.1, slV x.2.2.1, slV x.2.2.2, sV y.1, .int .i64 y.2.1, slV y.2.2.1, slV y.2.2.2] t)) (.slice (some ⟨w.heap.size, 0, none⟩) 2 2) [p, q] :=
 ⟨[x, y], (own_newG (enc := pnc) (sz := 4) w (Nat.le_refl _) t [x, y] pnc_len (by simp) _ rfl 2 rfl).rd pnc_len, h.below (bl_alloc bl_refl _), h'.below (bl_alloc bl_refl _), trivial⟩
theorem slP_two {W : World} {v : Value} {p q : Pan} (h : SlP W v [p, q]) : ∃ (b off c : Nat) (vL vR uL uR : Value), v = .slice (some ⟨b, off, none⟩) 2 c ∧ b < W.heap.size ∧
  W.cell? ⟨b, off, none⟩ = some (sV p.1) ∧ W.cell? ⟨b, off + 1, none⟩ = some (.int .i64 p.2.1) ∧ W.cell? ⟨b, off + 2, none⟩ = some vL ∧ W.cell? ⟨b, off + 3, none⟩ = some vR ∧
  W.cell? ⟨b, off + 4, none⟩ = some (sV q.1) ∧ W.cell? ⟨b, off + 4 + 1, none⟩ = some (.int .i64 q.2.1) ∧ W.cell? ⟨b, off + 4 + 2, none⟩ = some uL ∧ W.cell? ⟨b, off + 4 + 3, none⟩ = some uR ∧
  SlE W vL p.2.2.1 ∧ SlE W vR p.2.2.2 ∧ SlE W uL q.2.2.1 ∧ SlE W uR q.2.2.2 := by
 obtain ⟨xs, ⟨A, c, rfl, _, _, hr⟩, hx⟩ := h
 obtain ⟨x, y, rfl⟩ : ∃ x y, xs = [x, y] := by
  have := hx.len
  match xs, this with
  | [x, y], _ => exact ⟨x, y, rfl⟩
 obtain ⟨h1, h2, _⟩ := hx
 obtain ⟨b, off, rfl, hlt, a0, a1, a2, a3⟩ := hr.pan (k := 0) rfl
 obtain ⟨b', off', e, _, b0, b1, b2, b3⟩ := hr.pan (k := 1) rfl
 obtain ⟨rfl, rfl⟩ : b = b' ∧ off = off' := by simpa using e
 rw [h1.nm] at a0
 rw [h1.wd] at a1
 rw [h2.nm] at b0
 rw [h2.wd] at b1
 simp only [Nat.zero_mul, Nat.one_mul, Nat.add_zero] at a0 a1 a2 a3 b0 b1 b2 b3
 exact ⟨b, off, c, _, _, _, _, rfl, hlt, a0, a1, a2, a3, b0, b1, b2, b3, h1.left, h1.right, h2.left, h2.right⟩
theorem pieOk_v {p : Pan} (hn : p.1.length ≤ 1000000) (h : pieE [p] = 0) : PanOk p := panE_zero (pie_one hn h).er
def gapBF (a c : Pan) (i : Nat) (v : Value) (W : World) : Prop :=
 (i = 1 → ∃ A, v = .slice A 1 1 ∧ SlP W v [a]) ∧ (i = 2 → v = .int .i64 (pieE [a])) ∧ (i = 4 → ∃ A, v = .slice A 1 1 ∧ SlP W v [c])
theorem gapBF_st (a c : Pan) : ∀ i v W W', gapBF a c i v W → Below W.heap.size W W' → gapBF a c i v W' := fun i v W W' h hb =>
 ⟨fun hi => by obtain ⟨A, h1, h2⟩ := h.1 hi; exact ⟨A, h1, h2.below hb⟩, h.2.1, fun hi => by obtain ⟨A, h1, h2⟩ := h.2.2 hi; exact ⟨A, h1, h2.below hb⟩⟩
theorem baleGaps_any {vL vR uL uR : Value} (a c : Pan) (w : World) (z0 : a.1.length ≤ maxLen) (hL : SlE w vL a.2.2.1) (hR : SlE w vR a.2.2.2) (z1 : c.1.length ≤ maxLen) (kL : SlE w uL c.2.2.1) (kR : SlE w uR c.2.2.2) (hLay : LayB w) :
  Calls Tryz.prog 4 #[.agg #[sV a.1, .int .i64 a.2.1, vL, vR], .agg #[sV c.1, .int .i64 c.2.1, uL, uR]] w (RV w (.bool true)) := by
 have cAw := fun W' (hb : Below w.heap.size w W') => awake5_any W' (hLay.below hb)
 have cS1 := fun W' (hb : Below w.heap.size w W') => shortP_any a 8 W' z0 (hL.below hb) (hR.below hb)
 have cS2 := fun W' (hb : Below w.heap.size w W') => shortP_any c 8 W' z1 (kL.below hb) (kR.below hb)
 obtain ⟨q1, hq1⟩ : ∃ q, shortP a 8 = q := ⟨_, rfl⟩
 obtain ⟨q2, hq2⟩ : ∃ q, shortP c 8 = q := ⟨_, rfl⟩
 rw [hq1] at cS1
 rw [hq2] at cS2
 have HS1 := Lib.hid hL
 have HS2 := Lib.hid hR
 have HS3 := Lib.hid kL
 have HS4 := Lib.hid kR
 obtain ⟨AL, cL, rfl, _, _, _⟩ := hL
 obtain ⟨AR, cR, rfl, _, _, _⟩ := hR
 obtain ⟨BL, dL, rfl, _, _, _⟩ := kL
 obtain ⟨BR, dR, rfl, _, _, _⟩ := kR
 unfold sV at cS1 cS2 ⊢
 have hA := (Blk.new w 44 #[.string ⟨a.1.toArray⟩, .int .i64 a.2.1, .slice AL a.2.2.1.length cL, .slice AR a.2.2.2.length cR]).alloc (.cells #[.string ⟨c.1.toArray⟩, .int .i64 c.2.1, .slice BL c.2.2.1.length dL, .slice BR c.2.2.2.length dR] 44)
 have hC := Blk.new1 w (.cells #[.string ⟨a.1.toArray⟩, .int .i64 a.2.1, .slice AL a.2.2.1.length cL, .slice AR a.2.2.2.length cR] 44) 44 #[.string ⟨c.1.toArray⟩, .int .i64 c.2.1, .slice BL c.2.2.1.length dL, .slice BR c.2.2.2.length dR]
 have fA := hA.facts
 have fC := hC.facts
 cases q1
 ·clear hq1 hq2 HS1 HS2 HS3 HS4
  go_enter Tryz.func4, Tryz.ntmps4
  go_wp2_with fail
  refine (cAw _ (by (repeat first|exact J0|assumption|(apply J1;assumption)|apply J2|apply J3|apply J4))).mono ?_
  rintro e w1 ⟨rfl, hb1⟩
  have fA1 := (hA.below hb1).facts
  go_wp2_with fail
  refine (cS1 _ (by (repeat first|exact J0|assumption|(apply J1;assumption)|apply J2|apply J3|apply J4))).mono ?_
  rintro e w2 ⟨rfl, hb2⟩
  go_wp2_with fail
  refine (cAw _ (by (repeat first|exact J0|assumption|(apply J1;assumption)|apply J2|apply J3|apply J4))).mono ?_
  rintro e w3 ⟨rfl, hb3⟩
  go_wp2
  go_ret
  exact ⟨rfl, by (repeat first|exact J0|assumption|(apply J1;assumption)|apply J2|apply J3|apply J4)⟩
 cases q2
 ·clear hq1 hq2 HS1 HS2 HS3 HS4
  go_enter Tryz.func4, Tryz.ntmps4
  go_wp2_with fail
  refine (cAw _ (by (repeat first|exact J0|assumption|(apply J1;assumption)|apply J2|apply J3|apply J4))).mono ?_
  rintro e w1 ⟨rfl, hb1⟩
  have fA1 := (hA.below hb1).facts
  go_wp2_with fail
  refine (cS1 _ (by (repeat first|exact J0|assumption|(apply J1;assumption)|apply J2|apply J3|apply J4))).mono ?_
  rintro e w2 ⟨rfl, hb2⟩
  have fC2 := ((hC.below hb1).below hb2).facts
  go_wp2_with fail
  refine (cS2 _ (by (repeat first|exact J0|assumption|(apply J1;assumption)|apply J2|apply J3|apply J4))).mono ?_
  rintro e w3 ⟨rfl, hb3⟩
  go_wp2_with fail
  refine (cAw _ (by (repeat first|exact J0|assumption|(apply J1;assumption)|apply J2|apply J3|apply J4))).mono ?_
  rintro e w4 ⟨rfl, hb4⟩
  go_wp2
  go_ret
  exact ⟨rfl, by (repeat first|exact J0|assumption|(apply J1;assumption)|apply J2|apply J3|apply J4)⟩
 obtain ⟨na, ⟨la1, la2⟩, lb1, lb2⟩ := shortP_words hq1
 obtain ⟨nc, ⟨lc1, lc2⟩, ld1, ld2⟩ := shortP_words hq2
 have hna : a.1.length ≤ 1000000 := by omega
 have hnc : c.1.length ≤ 1000000 := by omega
 have cGi := fun (v : Value) W' (h : SlP W' v [a, c]) => l5given_any [a, c] W' h (by simp) (fun p hp => by
  simp at hp
  rcases hp with rfl | rfl
  ·exact ⟨by omega, by omega⟩
  ·exact ⟨by omega, by omega⟩)
 have cGp := fun (v1 v2 u1 u2 : Value) W' (h1 : SlE W' v1 a.2.2.1) (h2 : SlE W' v2 a.2.2.2) (h3 : SlE W' u1 c.2.2.1) (h4 : SlE W' u2 c.2.2.2) => apiGap_any a c W' hna hnc h1 h2 h3 h4
 have cP1 := fun (v : Value) W' (h : SlP W' v [a]) => rcheckPieces_any [a] W' h (fun p hp => by rw [List.mem_singleton.1 hp]; exact hna) (fun p hp => by rw [List.mem_singleton.1 hp]; exact ⟨fun e he => by have := la2 e he; omega, fun e he => by have := lb2 e he; omega⟩) (by simp)
 have cP2 := fun (v : Value) W' (h : SlP W' v [c]) => rcheckPieces_any [c] W' h (fun p hp => by rw [List.mem_singleton.1 hp]; exact hnc) (fun p hp => by rw [List.mem_singleton.1 hp]; exact ⟨fun e he => by have := lc2 e he; omega, fun e he => by have := ld2 e he; omega⟩) (by simp)
 have cFi : ∀ A c' W', Rd ic 1 W' A [pieE [a], pieE [c]] → Calls Tryz.prog 20 #[.slice A 2 c'] W' (RV W' (.int .i64 (gapE a c))) := fun A c' W' hr => l5first_any [pieE [a], pieE [c]] A c' W' (by simp [maxLen]) hr
 have HG := Lib.hid (fun (h : gapE a c = 0) W' (hb : Below w.heap.size w W') => rgap_any a c W' (HS1.out.below hb) (HS2.out.below hb) (HS3.out.below hb) (HS4.out.below hb) (pieOk_v hna (firstI_zero h).1) (pieOk_v hnc (firstI_zero h).2))
 have HPA : Hid (PnAt w (a.1, a.2.1, (AL, a.2.2.1.length, cL), (AR, a.2.2.2.length, cR)) a) := ⟨rfl, rfl, HS1.out, HS2.out⟩
 have HPC : Hid (PnAt w (c.1, c.2.1, (BL, c.2.2.1.length, dL), (BR, c.2.2.2.length, dR)) c) := ⟨rfl, rfl, HS3.out, HS4.out⟩
 clear hq1 hq2 HS1 HS2 HS3 HS4 na nc la1 la2 lb1 lb2 lc1 lc2 ld1 ld2 hna hnc z0 z1
 unfold sV at cGp HG
 go_enter Tryz.func4, Tryz.ntmps4
 go_upto_region 1 with fail
 obtain ⟨w0, hw0⟩ : ∃ X, (w.alloc (.cells #[.string ⟨a.1.toArray⟩, .int .i64 a.2.1, .slice AL a.2.2.1.length cL, .slice AR a.2.2.2.length cR] 44)).alloc (.cells #[.string ⟨c.1.toArray⟩, .int .i64 c.2.1, .slice BL c.2.2.1.length dL, .slice BR c.2.2.2.length dR] 44) = X := ⟨_, rfl⟩
 have hb0 : Below w.heap.size w w0 := by rw [← hw0]; exact bl_alloc (bl_alloc bl_refl _) _
 rw [hw0] at hA hC ⊢
 clear hw0 fA fC
 go_wp2_with fail
 refine (cAw _ (by (repeat first|exact J0|assumption|(apply J1;assumption)|apply J2|apply J3|apply J4))).mono ?_
 rintro e w1 ⟨rfl, hb1⟩
 have fA1 := (hA.below hb1).facts
 go_wp2_with fail
 refine (cS1 _ (by (repeat first|exact J0|assumption|(apply J1;assumption)|apply J2|apply J3|apply J4))).mono ?_
 rintro e w2 ⟨rfl, hb2⟩
 have fC2 := ((hC.below hb1).below hb2).facts
 go_wp2_with fail
 refine (cS2 _ (by (repeat first|exact J0|assumption|(apply J1;assumption)|apply J2|apply J3|apply J4))).mono ?_
 rintro e w3 ⟨rfl, hb3⟩
 have hb03 : Below w0.heap.size w0 w3 := by (repeat first|exact J0|assumption|(apply J1;assumption)|apply J2|apply J3|apply J4)
 have hbW3 := bl_then hb03 hb0
 have hA3 := hA.below hb03
 have hC3 := hC.below hb03
 have fA3 := hA3.facts
 have fC3 := hC3.facts
 clear fA1 fC2 hb1 hb2 hb3 hA hC hb03 hb0
 have hs3 := rslP_two 44 (HPA.out.below hbW3) (HPC.out.below hbW3)
 simp only [sV, slV] at hs3
 go_wp2_with fail
 refine (cGi _ _ hs3).mono ?_
 rintro e w4 ⟨v4, rfl, hS4, hb4⟩
 obtain ⟨b4, o4, c4, xL, xR, yL, yR, rfl, hlt4, y0, y1, y2, y3, y4, y5, y6, y7, hxL, hxR, hyL, hyR⟩ := slP_two hS4
 unfold sV at y0 y4
 have hb34 : Below w3.heap.size w3 w4 := by (repeat first|exact J0|assumption|(apply J1;assumption)|apply J2|apply J3|apply J4)
 have hA4 := hA3.below hb34
 have hC4 := hC3.below hb34
 have hbW4 := bl_then hb34 hbW3
 clear hb4 hb34 hA3 hC3 fA3 fC3 hs3 hS4 hbW3
 go_upto_region 4 with fail
 refine wp_region_ords [0, 1, 2, 3, 4, 5] [(6, false), (7, false), (8, true), (9, true), (10, false)] [11] (by kernel_rfl) (by kernel_rfl) (fun d _ _ _ _ h => by cases d <;> exact h) ?_
 simp only [List.map_cons, List.map_nil, List.getD_cons_zero, List.getD_cons_succ]
 repeat (go_big_quiet_step (fail))
 refine wpQuiet_nil ?_
 refine wpMid_run rfl (fun K hK => ?_)
 go_simp
 refine (cGp _ _ _ _ _ (hxL.below (by (repeat first|exact J0|assumption|(apply J1;assumption)|apply J2|apply J3|apply J4))) (hxR.below (by (repeat first|exact J0|assumption|(apply J1;assumption)|apply J2|apply J3|apply J4))) (hyL.below (by (repeat first|exact J0|assumption|(apply J1;assumption)|apply J2|apply J3|apply J4))) (hyR.below (by (repeat first|exact J0|assumption|(apply J1;assumption)|apply J2|apply J3|apply J4)))).mono ?_
 rintro e w5 ⟨rfl, hb5⟩
 refine hK _ _ (by (repeat first|exact J0|assumption|(apply J1;assumption)|apply J2|apply J3|apply J4)) ?_
 clear hK K
 refine wpMid_run rfl (fun K hK => ?_)
 go_simp
 refine hK _ _ (by (repeat first|exact J0|assumption|(apply J1;assumption)|apply J2|apply J3|apply J4)) ?_
 clear hK K
 refine wpMid_take rfl ?_
 intro K hK
 go_big_quiet_op
 go_big_quiet_on
 refine wpMid_take rfl ?_
 intro K hK
 go_big_quiet_op
 go_big_quiet_on
 refine wpMid_run rfl (fun K hK => ?_)
 go_simp
 refine hK _ _ (by (repeat first|exact J0|assumption|(apply J1;assumption)|apply J2|apply J3|apply J4)) ?_
 clear hK K
 refine wpMid_nil ?_
 have hb45 : Below w4.heap.size w4 w5 := by (repeat first|exact J0|assumption|(apply J1;assumption)|apply J2|apply J3|apply J4)
 have hA5 := hA4.below hb45
 have hC5 := hC4.below hb45
 have hbW5 := bl_then hb45 hbW4
 have fA5 := hA5.facts
 have fC5 := hC5.facts
 clear hb5 hb45 hA4 hC4 hxL hxR hyL hyR y0 y1 y2 y3 y4 y5 y6 y7 hbW4
 go_upto_region 5 with fail
 refine wp_region_facts (gapBF a c) [0, 3] [] [1, 2, 4] [5, 6, 7, 8] (by decide) (by kernel_rfl) (by kernel_rfl) (fun d _ _ _ _ h => by cases d <;> exact h) (gapBF_st a c) ?_
 simp only [List.map_cons, List.map_nil, List.getD_cons_zero, List.getD_cons_succ]
 repeat (go_big_quiet_step (fail))
 refine wpQuiet_nil ⟨List.forall_mem_cons.2 ⟨?_, List.forall_mem_cons.2 ⟨?_, List.forall_mem_cons.2 ⟨?_, List.forall_mem_nil _⟩⟩⟩, ?_⟩
 ·intro vals W hbW hF
  refine facts_step (fun K hK => ?_)
  simp only [putAll, Array.getD_eq_getD_getElem?, List.getElem?_toArray, List.getElem?_cons_succ, List.getElem?_cons_zero, Option.getD_some, List.getD_cons_succ, List.getD_cons_zero, Act.put, List.setIfInBounds_toArray, List.set_cons_zero, List.set_cons_succ]
  go_simp
  exact hK _ _ _ rfl (bl_alloc bl_refl _) ⟨fun _ => ⟨_, rfl, rslP_one _ (HPA.out.below (bl_then hbW hbW5))⟩, fun h => by simp at h, fun h => by simp at h⟩ (fun h => by simp at h)
 ·intro vals W hbW hF
  refine facts_step (fun K hK => ?_)
  simp only [putAll, Array.getD_eq_getD_getElem?, List.getElem?_toArray, List.getElem?_cons_succ, List.getElem?_cons_zero, Option.getD_some, List.getD_cons_succ, List.getD_cons_zero, Act.put, List.setIfInBounds_toArray, List.set_cons_zero, List.set_cons_succ]
  obtain ⟨A1, hv1, hS1⟩ := (hF 1 (of_decide_eq_true (by kernel_rfl))).1 rfl
  rw [hv1] at hS1
  rw [hv1]
  go_simp
  refine (cP1 _ _ hS1).mono ?_
  rintro e w7 ⟨rfl, hb7⟩
  exact hK _ _ _ (by rw [← hv1]; rfl) hb7 ⟨fun h => by simp at h, fun _ => rfl, fun h => by simp at h⟩ (fun h => by simp at h)
 ·intro vals W hbW hF
  refine facts_step (fun K hK => ?_)
  simp only [putAll, Array.getD_eq_getD_getElem?, List.getElem?_toArray, List.getElem?_cons_succ, List.getElem?_cons_zero, Option.getD_some, List.getD_cons_succ, List.getD_cons_zero, Act.put, List.setIfInBounds_toArray, List.set_cons_zero, List.set_cons_succ]
  go_simp
  exact hK _ _ _ rfl (bl_alloc bl_refl _) ⟨fun h => by simp at h, fun h => by simp at h, fun _ => ⟨_, rfl, rslP_one _ (HPC.out.below (bl_then hbW hbW5))⟩⟩ (fun h => by simp at h)
 ·intro vals W hbW hF hAp
  simp only [putAll, Array.getD_eq_getD_getElem?, List.getElem?_toArray, List.getElem?_cons_succ, List.getElem?_cons_zero, Option.getD_some, Act.put, List.setIfInBounds_toArray, List.set_cons_zero, List.set_cons_succ]
  obtain ⟨A1, hv1, hS1⟩ := (hF 1 (by simp)).1 rfl
  have hv2 := (hF 2 (by simp)).2.1 rfl
  obtain ⟨A4, hv4, hS4⟩ := (hF 4 (by simp)).2.2 rfl
  rw [hv4] at hS4
  rw [hv1, hv2, hv4]
  have hA6 := hA5.below hbW
  have hC6 := hC5.below hbW
  have hbW6 := bl_then hbW hbW5
  clear hF hAp hv1 hv2 hv4 hS1 hA5 hC5 fA5 fC5 hbW cP1
  go_wp2_with fail
  refine (cP2 _ _ hS4).mono ?_
  rintro e w7 ⟨rfl, hb7⟩
  go_wp2_with fail
  go_must (refine (cFi _ _ _ (Rd.ints2 (by simp) (by go_simp) (by go_simp))).mono ?_)
  rintro e w8 ⟨rfl, hb8⟩
  have hA8 := hA6.below (show Below _ _ w8 by (repeat first|exact J0|assumption|(apply J1;assumption)|apply J2|apply J3|apply J4))
  have hC8 := hC6.below (show Below _ _ w8 by (repeat first|exact J0|assumption|(apply J1;assumption)|apply J2|apply J3|apply J4))
  have hbW8 : Below w.heap.size w w8 := by (repeat first|exact J0|assumption|(apply J1;assumption)|apply J2|apply J3|apply J4)
  have fA8 := hA8.facts
  have fC8 := hC8.facts
  obtain ⟨E, hE⟩ : ∃ z, gapE a c = z := ⟨_, rfl⟩
  rw [hE] at HG
  have HON : Hid (∀ z, E ≠ 0 → onlyN E z = 0) := fun z h => by unfold onlyN; rw [if_neg h]
  have HOZ : Hid (∀ z, E = 0 → onlyN E z = z) := fun z h => by unfold onlyN; rw [if_pos h]
  rw [hE]
  obtain ⟨G, hG⟩ : ∃ z, gapB (strips a) (strips c) = z := ⟨_, rfl⟩
  rw [hG] at HG ⊢
  obtain ⟨N, hN⟩ : ∃ z, onlyN E G = z := ⟨_, rfl⟩
  rw [hN]
  clear hb7 hb8 hA6 hC6 hbW6 hE hG cFi cP2 hS4
  by_cases hz : E = 0
  ·have t0 : (E == 0) = true := by simp [hz]
   have hNG : G = N := by rw [← hN, HOZ.out _ hz]
   subst hNG
   have cRg := HG.out hz
   clear hz HON HOZ hN HG
   go_wp2_with fail
   refine (cRg _ (by (repeat first|exact J0|assumption|(apply J1;assumption)|apply J2|apply J3|apply J4))).mono ?_
   rintro e w9 ⟨rfl, hb9⟩
   go_wp2
   go_ret
   exact ⟨rfl, by (repeat first|exact J0|assumption|(apply J1;assumption)|apply J2|apply J3|apply J4)⟩
  ·have t0 : (E == 0) = false := by simp [hz]
   have hN0 : 0 = N := by rw [← hN, HON.out _ hz]
   subst hN0
   clear hz HON HOZ hN HG
   go_wp2
   go_ret
   exact ⟨rfl, by (repeat first|exact J0|assumption|(apply J1;assumption)|apply J2|apply J3|apply J4)⟩
end Go.Proofs.YtgndakgggfbanaaGreatDoor

/- CheckPanel, walked. Conditions: none. -/
import Derived.Test.YtkkefahobjlagaaGreatDoorQ18
import Derived.Test.YtkkefahobjlagaaGreatDoorQ17
namespace Go.Proofs.YtkkefahobjlagaaGreatDoor
open Go.RowKit Go.ChangeMaps
set_option maxHeartbeats 4000000
set_option maxRecDepth 100000
attribute [local go_sem] Oper.semAt_some
theorem idxFar_any {v : Value} (l : List Knot) (w : World) (h : SlK w v l) (hf : ∀ k ∈ l, farX k = false) :
  Calls Tryz.prog 125 #[v, .func (.func 122) #[] #[]] w (RV w (.int .i64 (-1))) := by
 obtain ⟨A, c, rfl, hlc, hcm, h⟩ := h
 have hl : l.length ≤ maxLen := Nat.le_trans hlc hcm
 unfold maxLen at hl
 have HF := Lib.hid hf
 clear hf
 go_enter Tryz.func125, Tryz.ntmps125
 go_wp2
 go_loopw [8] (fun i wr => ∃ k : Nat, k ≤ l.length ∧ i = .int .i64 k ∧ Below w.heap.size w wr) (fun i _ => l.length - (intOf i).toNat)
 case atStart => exact ⟨0, Nat.zero_le _, rfl, bl_refl⟩
 case round =>
  obtain ⟨k, hk, rfl, hbw⟩ := hrel
  by_cases hlt : k < l.length
  ·have hr := h.below hbw
   obtain ⟨b, off, rfl, hb, e0, e1⟩ := hr.knot hlt
   have hF := HF.out _ (List.getElem_mem hlt)
   obtain ⟨⟨x, y⟩, hx⟩ : ∃ z, l[k] = z := ⟨_, rfl⟩
   simp only [hx] at hF e0 e1
   have hC := fun W => pfar_any x y W
   rw [hF] at hC
   clear hx hF
   go_wp2_with fail
   refine (hC _).mono ?_
   rintro e w2 ⟨rfl, hb2⟩
   go_wp2
   go_roundw
   case rel => exact ⟨k + 1, by omega, by go_num, by (repeat first|exact J0|assumption|(apply J1;assumption)|apply J2|apply J3|apply J4)⟩
   case measure => simp [intOf]; omega
  ·have hkl : k = l.length := by omega
   go_wp2
   go_ret
   exact ⟨rfl, by (repeat first|exact J0|assumption|(apply J1;assumption)|apply J2|apply J3|apply J4)⟩
theorem contFar_any {v : Value} (l : List Knot) (w : World) (h : SlK w v l) (hf : ∀ k ∈ l, farX k = false) :
  Calls Tryz.prog 121 #[v, .func (.func 122) #[] #[]] w (RV w (.bool false)) := by
 go_enter Tryz.func121, Tryz.ntmps121
 go_wp2_with fail
 refine (idxFar_any l _ h hf).mono ?_
 rintro e w2 ⟨rfl, hb2⟩
 go_wp2
 go_ret
 exact ⟨rfl, by (repeat first|exact J0|assumption|(apply J1;assumption)|apply J2|apply J3|apply J4)⟩
theorem near_farX {l : List Knot} (h : ∀ i (hi : i < l.length), -4096 ≤ l[i].1 ∧ l[i].1 ≤ 4096) : ∀ k ∈ l, farX k = false := by
 intro k hk
 obtain ⟨i, hi, rfl⟩ := List.getElem_of_mem hk
 have := h i hi
 unfold farX
 rw [decide_eq_false (by omega), decide_eq_false (by omega)]
 rfl
theorem outP_near (p : Pan) (right : Bool) (hw : 1 ≤ p.2.1 ∧ p.2.1 ≤ 128) (hs : (stpL (sideP p right)).length ≤ 512) : ∀ k ∈ outP p right, farX k = false := by
 refine near_farX fun i hi => ?_
 unfold outP at hi ⊢
 rw [outK_get]
 have h1 := end_near (right := right) (n := 256) ((stpL (sideP p right)).take i) (k := fromP p right) (by unfold fromP; cases right <;> simp <;> omega)
 have h2 := List.length_take_le' i (stpL (sideP p right))
 omega
theorem crossB_at (L R : List Knot) (k : Nat) (h : crossB L R k = false) : crossB L R (k + 1) = decide ((rchI R (k : Nat)).1 < (rchI L (k : Nat)).2 + 2) := by
 unfold crossB at h ⊢
 rw [List.range_succ, List.any_append, h]
 simp
theorem crossB_in (L R : List Knot) (n k : Nat) (hk : k < n) (h : (rchI R (k : Nat)).1 < (rchI L (k : Nat)).2 + 2) : crossB L R n = true := by
 unfold crossB
 rw [List.any_eq_true]
 exact ⟨k, List.mem_range.2 hk, by simpa using h⟩
theorem row_pair {w : World} {v : Value} {n : Nat} {f : Nat → Int × Int} {base : Nat} (h : Own kc 2 base 73 w v ((List.range n).map f)) {k : Nat} (hk : k < n) :
  ∃ b off c, v = .slice (some ⟨b, off, none⟩) n c ∧ b < w.heap.size ∧ w.cell? ⟨b, off + k * 2, none⟩ = some (.int .i64 (f k).1) ∧ w.cell? ⟨b, off + k * 2 + 1, none⟩ = some (.int .i64 (f k).2) := by
 obtain ⟨A, c, rfl, _, _, hr⟩ := h.rd kc_len
 obtain ⟨b, off, rfl, hb, c0, c1⟩ := hr.knot (k := k) (by simpa using hk)
 exact ⟨b, off, c, by simp, hb, by simpa using c0, by simpa using c1⟩
theorem minmax_near {a : Int × Int} {x : Int} (ha : -999999999 ≤ a.1 ∧ a.1 ≤ 999999999 ∧ -999999999 ≤ a.2 ∧ a.2 ≤ 999999999) (hx : -999999999 ≤ x ∧ x ≤ 999999999) :
  -999999999 ≤ (minmax a x).1 ∧ (minmax a x).1 ≤ 999999999 ∧ -999999999 ≤ (minmax a x).2 ∧ (minmax a x).2 ≤ 999999999 := by unfold minmax; simp only; omega
theorem rchGo_near (row : Int) : ∀ (l : List Knot) (y : Int) (a : Int × Int), (∀ k ∈ l, -999999999 ≤ k.1 ∧ k.1 ≤ 999999999) → (-999999999 ≤ a.1 ∧ a.1 ≤ 999999999 ∧ -999999999 ≤ a.2 ∧ a.2 ≤ 999999999) →
  -999999999 ≤ (rchGo row y l a).1 ∧ (rchGo row y l a).1 ≤ 999999999 ∧ -999999999 ≤ (rchGo row y l a).2 ∧ (rchGo row y l a).2 ≤ 999999999
 | [], _, a, _, ha => ha
 | k :: r, y, a, hl, ha => by
  unfold rchGo
  refine rchGo_near row r _ _ (fun x hx => hl x (List.mem_cons_of_mem _ hx)) ?_
  split
  ·exact minmax_near ha (hl k (List.mem_cons_self ..))
  ·exact ha
theorem rchI_near {l : List Knot} (h : Asc l) (row : Int) : -999999999 ≤ (rchI l row).1 ∧ (rchI l row).1 ≤ 999999999 ∧ -999999999 ≤ (rchI l row).2 ∧ (rchI l row).2 ≤ 999999999 := by
 have hk : ∀ k ∈ l, -999999999 ≤ k.1 ∧ k.1 ≤ 999999999 := by
  intro k hk
  obtain ⟨i, hi, rfl⟩ := List.getElem_of_mem hk
  have := h.near i hi
  omega
 have h0 : -999999999 ≤ noneR.1 ∧ noneR.1 ≤ 999999999 ∧ -999999999 ≤ noneR.2 ∧ noneR.2 ≤ 999999999 := by decide
 unfold rchI
 split
 ·exact h0
 ·exact rchGo_near row _ _ _ hk h0
theorem checkPanel_any {vL vR : Value} (p : Pan) (w : World) (hnm : p.1.length ≤ 1000000) (hL : SlE w vL p.2.2.1) (hR : SlE w vR p.2.2.2) :
  Calls Tryz.prog 61 #[.agg #[sV p.1, .int .i64 p.2.1, vL, vR]] w (RV w (.int .i64 (panE p))) := by
 obtain ⟨E, hE⟩ : ∃ E, panE p = E := ⟨_, rfl⟩
 obtain ⟨E0, hE0⟩ : ∃ E, panE0 p = E := ⟨_, rfl⟩
 rw [hE]
 have HE := Lib.hid hE
 have hf4 : ∀ A c' W, Rd ic 1 W A [whenI (!nameR p.1) 8, withinI p.2.1 1 128, sideE p.2.2.1, sideE p.2.2.2] → Calls Tryz.prog 72 #[.slice A 4 c'] W (RV W (.int .i64 E0)) := fun A c' W hr => by
  rw [← hE0]
  exact pfirst_any [whenI (!nameR p.1) 8, withinI p.2.1 1 128, sideE p.2.2.1, sideE p.2.2.2] A c' W (by simp [maxLen]) hr
 have HE0 := Lib.hid hE0
 clear hE hE0
 have hcn := fun W => nname_any p.1 hnm W
 have hc1 := fun W (hb : Below w.heap.size w W) => checkSide_any p.2.2.1 W (hL.below hb)
 have hc2 := fun W (hb : Below w.heap.size w W) => checkSide_any p.2.2.2 W (hR.below hb)
 have ho := fun (right : Bool) W (hb : Below w.heap.size w W) (h1 : -1000 ≤ p.2.1 ∧ p.2.1 ≤ 1000) (h2 : sideOk (sideP p right)) => outline_any p right W (hL.below hb) (hR.below hb) h1 h2
 have HO := Lib.hid ho
 clear ho hnm
 obtain ⟨AL, cL, rfl, _, _, _⟩ := hL
 obtain ⟨AR, cR, rfl, _, _, _⟩ := hR
 obtain ⟨B, hB⟩ : ∃ B, sV p.1 = B := ⟨_, rfl⟩
 obtain ⟨bn, hbn⟩ : ∃ b, nameR p.1 = b := ⟨_, rfl⟩
 obtain ⟨wd, hwd⟩ : ∃ b, p.2.1 = b := ⟨_, rfl⟩
 obtain ⟨e1, he1⟩ : ∃ b, sideE p.2.2.1 = b := ⟨_, rfl⟩
 obtain ⟨e2, he2⟩ : ∃ b, sideE p.2.2.2 = b := ⟨_, rfl⟩
 rw [hB, hbn] at hcn
 rw [he1] at hc1
 rw [he2] at hc2
 rw [hbn, hwd, he1, he2] at hf4
 rw [hB, hwd]
 have HW := Lib.hid hwd
 have HBn := Lib.hid hB
 have hP := Blk.new w 30 #[B, .int .i64 wd, .slice AL p.2.2.1.length cL, .slice AR p.2.2.2.length cR]
 obtain ⟨s, hs⟩ : ∃ s, B = .string s := ⟨_, hB.symm⟩
 subst hs
 clear hB hbn hwd he1 he2
 go_enter Tryz.func61, Tryz.ntmps61
 go_upto_region 1 with fail
 obtain ⟨w1, hw1⟩ : ∃ X, w.alloc (.cells #[.string s, .int .i64 wd, .slice AL p.2.2.1.length cL, .slice AR p.2.2.2.length cR] 30) = X := ⟨_, rfl⟩
 have hb1 : Below w.heap.size w w1 := by rw [← hw1]; exact bl_alloc bl_refl _
 rw [hw1] at hP ⊢
 clear hw1
 have fhP := hP.facts
 refine wp_region_ords [0, 1, 5, 6, 8, 9, 11, 12] [(2, false), (3, false), (4, false), (7, false), (10, false)] [13, 14, 15, 16] (by kernel_rfl) (by kernel_rfl) (fun d _ _ _ _ h => by cases d <;> exact h) ?_
 simp only [List.map_cons, List.map_nil, List.getD_cons_zero, List.getD_cons_succ]
 repeat (go_big_quiet_step (fail))
 refine wpQuiet_nil ?_
 refine wpMid_run rfl (fun K hK => ?_)
 go_simp
 refine (hcn _).mono ?_
 rintro e w2 ⟨rfl, hb2⟩
 refine hK _ _ (by (repeat first|exact J0|assumption|(apply J1;assumption)|apply J2|apply J3|apply J4)) ?_
 clear hK K
 have hP_w2 := hP.below (show Below _ _ w2 by (repeat first|exact J0|assumption|(apply J1;assumption)|apply J2|apply J3|apply J4))
 have fhP_w2 := hP_w2.facts
 refine wpMid_run rfl (fun K hK => ?_)
 go_simp
 refine hK _ _ (by (repeat first|exact J0|assumption|(apply J1;assumption)|apply J2|apply J3|apply J4)) ?_
 clear hK K
 refine wpMid_run rfl (fun K hK => ?_)
 go_simp
 refine (pwhen_any _ 8 _).mono ?_
 rintro e w3 ⟨rfl, hb3⟩
 refine hK _ _ (by (repeat first|exact J0|assumption|(apply J1;assumption)|apply J2|apply J3|apply J4)) ?_
 clear hK K
 have hP_w3 := hP.below (show Below _ _ w3 by (repeat first|exact J0|assumption|(apply J1;assumption)|apply J2|apply J3|apply J4))
 have fhP_w3 := hP_w3.facts
 refine wpMid_run rfl (fun K hK => ?_)
 go_simp
 refine (pwithin_any wd 1 128 _).mono ?_
 rintro e w4 ⟨rfl, hb4⟩
 refine hK _ _ (by (repeat first|exact J0|assumption|(apply J1;assumption)|apply J2|apply J3|apply J4)) ?_
 clear hK K
 have hP_w4 := hP.below (show Below _ _ w4 by (repeat first|exact J0|assumption|(apply J1;assumption)|apply J2|apply J3|apply J4))
 have fhP_w4 := hP_w4.facts
 refine wpMid_run rfl (fun K hK => ?_)
 go_simp
 refine (hc1 _ (by (repeat first|exact J0|assumption|(apply J1;assumption)|apply J2|apply J3|apply J4))).mono ?_
 rintro e w5 ⟨rfl, hb5⟩
 refine hK _ _ (by (repeat first|exact J0|assumption|(apply J1;assumption)|apply J2|apply J3|apply J4)) ?_
 clear hK K
 have hP_w5 := hP.below (show Below _ _ w5 by (repeat first|exact J0|assumption|(apply J1;assumption)|apply J2|apply J3|apply J4))
 have fhP_w5 := hP_w5.facts
 refine wpMid_nil ?_
 go_wp2_with (go_at_call 119; refine (hc2 _ (by (repeat first|exact J0|assumption|(apply J1;assumption)|apply J2|apply J3|apply J4))).mono ?_; rintro e w6 ⟨rfl, hb6⟩)
 go_must (refine (hf4 _ _ _ (Rd.ints4 (by simp) (by go_simp) (by go_simp) (by go_simp) (by go_simp))).mono ?_)
 rintro e w7 ⟨rfl, hb7⟩
 have hP7 := hP.below (show Below w1.heap.size w1 w7 by (repeat first|exact J0|assumption|(apply J1;assumption)|apply J2|apply J3|apply J4))
 have hbw7 : Below w.heap.size w w7 := by (repeat first|exact J0|assumption|(apply J1;assumption)|apply J2|apply J3|apply J4)
 clear hc1 hc2 hcn hf4 hb2 hb3 hb4 hb5 hb6 hb7 hP_w2 hP_w3 hP_w4 hP_w5 fhP_w2 fhP_w3 fhP_w4 fhP_w5 hP fhP hb1
 by_cases hz : E0 = 0
 ·have t0 : (E0 != 0) = false := by simp [hz]
  obtain ⟨_, hw, hsL, hsR⟩ := panE0_zero (HE0.out.trans hz)
  have HEE : Hid (E = if panE1 p ≠ 0 then panE1 p else whenI (crossB (outP p false) (outP p true) ((heightP p).toNat + 1)) 16) := by
   unfold Hid
   rw [← HE.out]
   unfold panE
   rw [HE0.out, if_neg (by simp [hz])]
  have o1 := fun W hb => HO.out false W hb (by omega) hsL.sideOk
  have o2 := fun W hb => HO.out true W hb (by omega) hsR.sideOk
  have ha1 := outP_asc p false (by omega) hsL.len
  have ha2 := outP_asc p true (by omega) hsR.len
  have hn1 := outP_near p false hw hsL.len
  have hn2 := outP_near p true hw hsR.len
  have l1 := out_len p false hsL.sideOk
  have l2 := out_len p true hsR.sideOk
  have e1 := out_last p false
  have e2 := out_last p true
  have y1 : _ = heightP p := out_top p false
  have y2 : _ = riseL (stpL p.2.2.2) := out_top p true
  obtain ⟨⟨tx1, ty1⟩, hk1⟩ : ∃ z, posK false (fromP p false) (stpL (sideP p false)) = z := ⟨_, rfl⟩
  obtain ⟨⟨tx2, ty2⟩, hk2⟩ : ∃ z, posK true (fromP p true) (stpL (sideP p true)) = z := ⟨_, rfl⟩
  rw [hk1] at e1 y1
  rw [hk2] at e2 y2
  simp only at y1 y2
  have z1 := riseL_range (stpL p.2.2.1)
  have z2 := riseL_range (stpL p.2.2.2)
  obtain ⟨H1, hH1⟩ : ∃ H : Nat, ty1 = H := ⟨ty1.toNat, by unfold heightP at y1; omega⟩
  obtain ⟨H2, hH2⟩ : ∃ H : Nat, ty2 = H := ⟨ty2.toNat, by omega⟩
  have hH1b : H1 ≤ 2000 := by have := hsL.len; unfold heightP at y1; omega
  have hH2b : H2 ≤ 2000 := by have := hsR.len; omega
  have HP1 : Hid (panE1 p = firstI [whenI (decide ((H1 : Int) ≠ H2)) 2, whenI (decide ((H1 : Int) = 0)) 12, whenI (decide (256 < (H1 : Int))) 4]) := by
   unfold Hid panE1
   rw [← hH1, ← hH2, y1, y2]
  have HR2 : Hid (riseL (stpL p.2.2.2) = (H2 : Int)) := by unfold Hid; rw [← y2, hH2]
  have HH : Hid ((heightP p).toNat = H1) := by unfold Hid; rw [← y1, hH1]; rfl
  rw [hH1] at e1
  rw [hH2] at e2
  obtain ⟨O1, hO1⟩ : ∃ O, outP p false = O := ⟨_, rfl⟩
  obtain ⟨O2, hO2⟩ : ∃ O, outP p true = O := ⟨_, rfl⟩
  rw [hO1] at o1 ha1 hn1 l1 e1 HEE
  rw [hO2] at o2 ha2 hn2 l2 e2 HEE
  have he1 := Lib.hid e1
  have he2 := Lib.hid e2
  clear e1 e2 hO1 hO2 hH1 hH2 y1 y2 z1 z2 hk1 hk2 hw hsL hsR hz HO
  rw [HBn.out, HW.out] at o1 o2
  have fhP := hP7.facts
  go_upto_region 4 with fail
  refine wp_region_ords [0, 2] [(1, false)] [3, 4, 5] (by kernel_rfl) (by kernel_rfl) (fun d _ _ _ _ h => by cases d <;> exact h) ?_
  simp only [List.map_cons, List.map_nil, List.getD_cons_zero, List.getD_cons_succ]
  repeat (go_big_quiet_step (fail))
  refine wpQuiet_nil ?_
  refine wpMid_run rfl (fun K hK => ?_)
  go_simp
  refine (o1 _ (by (repeat first|exact J0|assumption|(apply J1;assumption)|apply J2|apply J3|apply J4))).mono ?_
  rintro e w8 ⟨v8, rfl, hO8, hb8⟩
  refine hK _ _ (by (repeat first|exact J0|assumption|(apply J1;assumption)|apply J2|apply J3|apply J4)) ?_
  clear hK K
  have hP7_w8 := hP7.below (show Below _ _ w8 by (repeat first|exact J0|assumption|(apply J1;assumption)|apply J2|apply J3|apply J4))
  have fhP7_w8 := hP7_w8.facts
  refine wpMid_nil ?_
  go_wp2_with (go_at_call 64; refine (o2 _ (by (repeat first|exact J0|assumption|(apply J1;assumption)|apply J2|apply J3|apply J4))).mono ?_; rintro e w9 ⟨v9, rfl, hO9, hb9⟩)
  obtain ⟨A8, c8, rfl⟩ := hO8.shape
  obtain ⟨_, _, he8, hlc8, hcm8, hr8⟩ := hO8.rd kc_len
  obtain ⟨rfl, rfl⟩ : A8 = _ ∧ c8 = _ := by simpa using he8
  obtain ⟨A9, c9, rfl⟩ := hO9.shape
  obtain ⟨_, _, he9, hlc9, hcm9, hr9⟩ := hO9.rd kc_len
  obtain ⟨rfl, rfl⟩ : A9 = _ ∧ c9 = _ := by simpa using he9
  have hbw9 : Below w.heap.size w w9 := by (repeat first|exact J0|assumption|(apply J1;assumption)|apply J2|apply J3|apply J4)
  replace hr8 := hr8.below (show Below w8.heap.size w8 w9 by (repeat first|exact J0|assumption|(apply J1;assumption)|apply J2|apply J3|apply J4))
  clear he8 he9 hO8 hO9 hb8 hb9 hP7 fhP hP7_w8 fhP7_w8 o1 o2
  go_wp2_with fail
  refine (top_any O1 A8 c8 _ hr8 (by omega) tx1 H1 he1.out).mono ?_
  rintro e w10 ⟨rfl, hb10⟩
  go_wp2_with fail
  refine (contFar_any O1 _ ⟨A8, c8, rfl, hlc8, hcm8, hr8.below (by (repeat first|exact J0|assumption|(apply J1;assumption)|apply J2|apply J3|apply J4))⟩ hn1).mono ?_
  rintro e w11 ⟨rfl, hb11⟩
  go_wp2_with fail
  refine (contFar_any O2 _ ⟨A9, c9, rfl, hlc9, hcm9, hr9.below (by (repeat first|exact J0|assumption|(apply J1;assumption)|apply J2|apply J3|apply J4))⟩ hn2).mono ?_
  rintro e w12 ⟨rfl, hb12⟩
  go_wp2_with fail
  refine (top_any O2 A9 c9 _ (hr9.below (by (repeat first|exact J0|assumption|(apply J1;assumption)|apply J2|apply J3|apply J4))) (by omega) tx2 H2 he2.out).mono ?_
  rintro e w13 ⟨rfl, hb13⟩
  obtain ⟨E1, hE1⟩ : ∃ E, panE1 p = E := ⟨_, rfl⟩
  have hf3 : ∀ A c' W, Rd ic 1 W A [whenI ((H1 : Int) != H2) 2, whenI ((H1 : Int) == 0) 12, whenI (decide (256 < (H1 : Int))) 4] → Calls Tryz.prog 72 #[.slice A 3 c'] W (RV W (.int .i64 E1)) := fun A c' W hr => by
   rw [← hE1, HP1.out, show decide ((H1 : Int) ≠ H2) = ((H1 : Int) != H2) by rw [Bool.eq_iff_iff]; simp, show decide ((H1 : Int) = 0) = ((H1 : Int) == 0) by rw [Bool.eq_iff_iff]; simp]
   exact pfirst_any [whenI ((H1 : Int) != H2) 2, whenI ((H1 : Int) == 0) 12, whenI (decide (256 < (H1 : Int))) 4] A c' W (by simp [maxLen]) hr
  rw [hE1] at HEE
  have HE1 := Lib.hid hE1
  have hb913 : Below w9.heap.size w9 w13 := by (repeat first|exact J0|assumption|(apply J1;assumption)|apply J2|apply J3|apply J4)
  replace hr8 := hr8.below hb913
  replace hr9 := hr9.below hb913
  have hbw13 : Below w.heap.size w w13 := bl_then hb913 hbw9
  clear hb913 hbw9
  clear hE1 hb10 hb11 hb12 hb13 HP1 hn1 hn2
  by_cases h256 : 256 < (H1 : Int)
  ·have t3 : (256 < (H1 : Int)) = True := eq_true h256
   rw [decide_eq_true h256] at hf3
   have HEF : Hid (E = E1 ∧ (E1 != 0) = true) := by
    have : E1 ≠ 0 := by
     rw [← HE1.out]
     intro h
     have := panE1_zero h
     have h3 := HH.out
     omega
    exact ⟨by rw [HEE.out, if_pos this], by simp [this]⟩
   have t1 := HEF.out.2
   clear h256
   go_wp2_with fail
   refine (pwhen_any _ 2 _).mono ?_
   rintro e w14 ⟨rfl, hb14⟩
   go_wp2_with fail
   refine (pwhen_any _ 12 _).mono ?_
   rintro e w15 ⟨rfl, hb15⟩
   go_wp2_with fail
   refine (pwhen_any _ 4 _).mono ?_
   rintro e w16 ⟨rfl, hb16⟩
   go_wp2_with fail
   go_must (refine (hf3 _ _ _ (Rd.ints3 (by simp) (by go_simp) (by go_simp) (by go_simp))).mono ?_)
   rintro e w17 ⟨rfl, hb17⟩
   go_wp2
   refine bodyPost_ret (v := .int .i64 E1) (by simp [results, Tryz.results61, go_sem]) rfl ?_
   exact ⟨by rw [HEF.out.1], by (repeat first|exact J0|assumption|(apply J1;assumption)|apply J2|apply J3|apply J4)⟩
  ·have t3 : (256 < (H1 : Int)) = False := eq_false h256
   rw [decide_eq_false h256] at hf3
   clear h256
   go_wp2_with fail
   refine (pwhen_any _ 2 _).mono ?_
   rintro e w14 ⟨rfl, hb14⟩
   go_wp2_with fail
   refine (pwhen_any _ 12 _).mono ?_
   rintro e w15 ⟨rfl, hb15⟩
   go_wp2_with fail
   refine (pwhen_any _ 4 _).mono ?_
   rintro e w16 ⟨rfl, hb16⟩
   go_wp2_with fail
   go_must (refine (hf3 _ _ _ (Rd.ints3 (by simp) (by go_simp) (by go_simp) (by go_simp))).mono ?_)
   rintro e w17 ⟨rfl, hb17⟩
   by_cases hz : E1 = 0
   ·have t1 : (E1 != 0) = false := by simp [hz]
    obtain ⟨q1, q2, q3⟩ := panE1_zero (HE1.out.trans hz)
    have HEF : Hid (E = whenI (crossB O1 O2 (H1 + 1)) 16) := by
     unfold Hid
     rw [HEE.out, if_neg (by simp [hz]), HH.out]
    clear hz hf3
    obtain rfl : H2 = H1 := by have := HH.out; have := HR2.out; omega
    have hb1317 : Below w13.heap.size w13 w17 := by (repeat first|exact J0|assumption|(apply J1;assumption)|apply J2|apply J3|apply J4)
    replace hr8 := hr8.below hb1317
    replace hr9 := hr9.below hb1317
    have hbw17 : Below w.heap.size w w17 := bl_then hb1317 hbw13
    clear hb1317
    clear hb14 hb15 hb16 hb17 hbw13
    go_wp2_with fail
    refine (reach_any O1 A8 c8 H2 _ ha1 (by omega) hr8 hlc8 hcm8 (fun h => by have := he1.out; rw [List.getElem?_eq_getElem h] at this; rw [Option.some.inj this])).mono ?_
    rintro e w18 ⟨v18, rfl, hO18, hb18⟩
    go_wp2_with fail
    refine (reach_any O2 A9 c9 H2 _ ha2 (by omega) (hr9.below (by (repeat first|exact J0|assumption|(apply J1;assumption)|apply J2|apply J3|apply J4))) hlc9 hcm9 (fun h => by have := he2.out; rw [List.getElem?_eq_getElem h] at this; rw [Option.some.inj this])).mono ?_
    rintro e w19 ⟨v19, rfl, hO19, hb19⟩
    replace hO18 := hO18.below (show Below w18.heap.size w18 w19 by (repeat first|exact J0|assumption|(apply J1;assumption)|apply J2|apply J3|apply J4))
    have hbw19 : Below w.heap.size w w19 := bl_then (bl_then hb19 hb18) hbw17
    obtain ⟨b18, o18, c18, rfl, _, _, _⟩ := row_pair hO18 (k := 0) (by omega)
    obtain ⟨b19, o19, c19, rfl, _, _, _⟩ := row_pair hO19 (k := 0) (by omega)
    clear hbw17 hb18 hb19 hr8 hr9 hlc8 hlc9 hcm8 hcm9
    go_wp2
    go_loopw [70] (fun s wr => ∃ k : Nat, k ≤ H2 + 1 ∧ s = .int .i64 k ∧ Below w19.heap.size w19 wr ∧ Hid (crossB O1 O2 k = false)) (fun s _ => H2 + 1 - (intOf s).toNat)
    case atStart => exact ⟨0, Nat.zero_le _, rfl, bl_refl, by simp [Hid, crossB]⟩
    case round =>
     obtain ⟨k, hk, rfl, hbk, HC⟩ := hrel
     by_cases hlt : k < H2 + 1
     ·obtain ⟨_, _, _, hE1, hl18, _, p18⟩ := row_pair (hO18.below hbk) hlt
      obtain ⟨_, _, _, hE2, hl19, p19, _⟩ := row_pair (hO19.below hbk) hlt
      obtain ⟨⟨rfl, rfl⟩, _⟩ : (b18 = _ ∧ o18 = _) ∧ c18 = _ := by simpa using hE1
      obtain ⟨⟨rfl, rfl⟩, _⟩ : (b19 = _ ∧ o19 = _) ∧ c19 = _ := by simpa using hE2
      have n1 := rchI_near ha1 (k : Nat)
      have n2 := rchI_near ha2 (k : Nat)
      have HCA := Lib.hid (crossB_at O1 O2 k HC.out)
      have HCI := Lib.hid (crossB_in O1 O2 (H2 + 1) k hlt)
      obtain ⟨u, hu⟩ : ∃ u, (rchI O1 (k : Nat)).2 = u := ⟨_, rfl⟩
      obtain ⟨v, hv⟩ : ∃ u, (rchI O2 (k : Nat)).1 = u := ⟨_, rfl⟩
      rw [hu] at p18 n1 HCA HCI
      rw [hv] at p19 n2 HCA HCI
      clear hE1 hE2 hu hv
      by_cases hx : v < u + 2
      ·have hEE : Hid (E = 16) := by unfold Hid; rw [HEF.out, HCI.out hx]; rfl
       go_upto_region 14 with fail
       refine wp_region_ords [0, 1, 2, 3, 4, 5, 6, 7, 8, 9, 10, 11] [] [] (by kernel_rfl) (by kernel_rfl) (fun d _ _ _ _ h => by cases d <;> exact h) ?_
       simp only [List.map_cons, List.map_nil, List.getD_cons_zero, List.getD_cons_succ]
       repeat (go_big_quiet_step (fail))
       refine wpQuiet_nil ?_
       refine wpMid_nil ?_
       go_wp2
       refine bodyPost_ret (v := .int .i64 16) (by simp [results, Tryz.results61, go_sem]) rfl ?_
       exact ⟨by rw [hEE.out], by exact bl_drew (bl_then hbk hbw19)⟩
      ·have HC1 : Hid (crossB O1 O2 (k + 1) = false) := by unfold Hid; rw [HCA.out, decide_eq_false hx]
       go_upto_region 14 with fail
       refine wp_region_ords [0, 1, 2, 3, 4, 5, 6, 7, 8, 9, 10, 11] [] [] (by kernel_rfl) (by kernel_rfl) (fun d _ _ _ _ h => by cases d <;> exact h) ?_
       simp only [List.map_cons, List.map_nil, List.getD_cons_zero, List.getD_cons_succ]
       repeat (go_big_quiet_step (fail))
       refine wpQuiet_nil ?_
       refine wpMid_nil ?_
       go_wp2
       go_roundw
       case rel => exact ⟨k + 1, by omega, by go_num, bl_drew hbk, HC1⟩
       case measure => simp [intOf]; omega
     ·obtain rfl : k = H2 + 1 := by omega
      have hEE : Hid (E = 0) := by unfold Hid; rw [HEF.out, HC.out]; rfl
      go_wp2
      refine bodyPost_ret (v := .int .i64 0) (by simp [results, Tryz.results61, go_sem]) rfl ?_
      exact ⟨by rw [hEE.out], by exact bl_then hbk hbw19⟩
   ·have t1 : (E1 != 0) = true := by simp [hz]
    have HEF : Hid (E = E1) := by unfold Hid; rw [HEE.out, if_pos hz]
    clear hz
    go_wp2
    refine bodyPost_ret (v := .int .i64 E1) (by simp [results, Tryz.results61, go_sem]) rfl ?_
    exact ⟨by rw [HEF.out], by (repeat first|exact J0|assumption|(apply J1;assumption)|apply J2|apply J3|apply J4)⟩
 ·have t0 : (E0 != 0) = true := by simp [hz]
  have HEE : Hid (E = E0) := by
   unfold Hid
   rw [← HE.out]
   unfold panE
   rw [HE0.out, if_pos hz]
  clear hz
  go_wp2
  refine bodyPost_ret (v := .int .i64 E0) (by simp [results, Tryz.results61, go_sem]) rfl ?_
  exact ⟨by rw [HEE.out], hbw7⟩
end Go.Proofs.YtkkefahobjlagaaGreatDoor

/- awake of the panels, walked. Conditions: the variables are laid. -/
import Derived.Test.YtkkefahobjlagaaGreatDoorQ36
import Derived.Test.YtkkefahobjlagaaGreatDoorQ13
import Derived.Test.YtkkefahobjlagaaGreatDoorQ14
import Derived.Test.YtkkefahobjlagaaGreatDoorQ07
namespace Go.Proofs.YtkkefahobjlagaaGreatDoor
open Go.RowKit Go.ChangeMaps
set_option maxHeartbeats 4000000
set_option maxRecDepth 100000
attribute [local go_sem] Oper.semAt_some
theorem Own.newG {α : Type} {enc : α → List Value} {sz : Nat} (w : World) {base : Nat} (hb : base ≤ w.heap.size) (t : TypeId) (l : List α) (henc : ∀ x, (enc x).length = sz) (hl : l.length ≤ 1000) (cs : Array Value) (hc : cs = (l.flatMap enc).toArray) (n : Nat) (hn : n = l.length) : Own enc sz base t (w.alloc (.cells cs t)) (.slice (some ⟨w.heap.size, 0, none⟩) n n) l := by
 subst hc hn
 have hs : ∀ l : List α, (l.flatMap enc).length = l.length * sz := fun l => by
  induction l with
  | nil => simp
  | cons a r ih => rw [List.flatMap_cons, List.length_append, henc, ih, List.length_cons, Nat.succ_mul, Nat.add_comm]
 exact ⟨hs l, .inr ⟨w.heap.size, l.length, _, rfl, hb, heap_alloc_new w _, Nat.le_refl _, by simp [maxLen]; omega, by simpa using hs l, by rw [← hs l]; exact List.take_length⟩⟩
theorem a_stkR : pcR (stkE wingP wingP) (stkQ wingP wingP) = panZ := by kernel_rfl
theorem ok0 {α : Type} (l : List α) : onlyOk 0 l = l := rfl
theorem aw_out {vL vR : Value} (w : World) (hL : SlE w vL wingP.2.2.1) (hR : SlE w vR wingP.2.2.2) : Calls Tryz.prog 43 #[.agg #[sV wingP.1, .int .i64 wingP.2.1, vL, vR], .bool true] w (RGE kc 2 40 w [(4, 0), (5, 1), (6, 2)] 0) := by
 have := apiOutline_any wingP true w (by decide) hL hR
 rwa [a_err, a_out, ok0] at this
theorem aw_str {vL vR : Value} (w : World) (hL : SlE w vL wingP.2.2.1) (hR : SlE w vR wingP.2.2.2) : Calls Tryz.prog 31 #[.agg #[sV wingP.1, .int .i64 wingP.2.1, vL, vR]] w (RGE trc 4 75 w [(0, 4, 0, 5), (0, 5, 0, 6)] 0) := by
 have := apiStrips_any wingP w (by decide) hL hR
 rwa [a_err, a_str, ok0] at this
theorem aw_area {vL vR : Value} (w : World) (hL : SlE w vL wingP.2.2.1) (hR : SlE w vR wingP.2.2.2) : Calls Tryz.prog 22 #[.agg #[sV wingP.1, .int .i64 wingP.2.1, vL, vR]] w (RV w (.tuple #[.int .i64 20, .int .i64 0])) := by
 have := apiArea_any wingP w (by decide) hL hR
 rwa [a_err, a_area, show onlyN 0 20 = 20 from rfl] at this
theorem aw_net {vL vR : Value} (w : World) (hL : SlE w vL wingP.2.2.1) (hR : SlE w vR wingP.2.2.2) : Calls Tryz.prog 14 #[.agg #[sV wingP.1, .int .i64 wingP.2.1, vL, vR]] w (RGE bc 3 77 w (netL wingP) 0) := by
 have := apiNet_any wingP w (by decide) hL hR
 rwa [a_netE, ok0] at this
theorem aw_rows {vL vR : Value} (w : World) (hL : SlE w vL wingP.2.2.1) (hR : SlE w vR wingP.2.2.2) : Calls Tryz.prog 32 #[.agg #[sV wingP.1, .int .i64 wingP.2.1, vL, vR]] w (RGE kc 2 73 w [(0, 4), (1, 5), (0, 6)] 0) := by
 have := apiRows_any wingP w (by decide) hL hR
 rwa [a_netE, a_rows, ok0] at this
theorem aw_frm {vL vR : Value} (w : World) (hL : SlE w vL wingP.2.2.1) (hR : SlE w vR wingP.2.2.2) : Calls Tryz.prog 45 #[.agg #[sV wingP.1, .int .i64 wingP.2.1, vL, vR]] w (RV w (.tuple #[.agg #[.int .i64 0, .int .i64 0, .int .i64 3, .int .i64 2], .int .i64 0])) := by
 have := apiAround_any wingP w (by decide) hL hR
 rwa [a_err, a_frm] at this
theorem aw_rest {vL vR : Value} (w : World) (hL : SlE w vL wingP.2.2.1) (hR : SlE w vR wingP.2.2.2) : Calls Tryz.prog 46 #[.agg #[sV wingP.1, .int .i64 wingP.2.1, vL, vR]] w (RBE w [(6, 0, -1)] 0) := by
 have := apiRest_any wingP w (by decide) hL hR
 rwa [a_restE, a_restL] at this
theorem aw_turn {vL vR : Value} (w : World) (hL : SlE w vL wingP.2.2.1) (hR : SlE w vR wingP.2.2.2) : Calls Tryz.prog 26 #[.agg #[sV wingP.1, .int .i64 wingP.2.1, vL, vR]] w (RPN w wingT 0) := by
 have := apiTurn_any wingP w (by decide) hL hR
 rwa [a_turE, a_turR] at this
theorem aw_wide {vL vR : Value} (w : World) (hL : SlE w vL wingP.2.2.1) (hR : SlE w vR wingP.2.2.2) : Calls Tryz.prog 51 #[.agg #[sV wingP.1, .int .i64 wingP.2.1, vL, vR], .int .i64 1] w (RPN w wingW 0) := by
 have := apiWiden_any wingP 1 w (by decide) hL hR
 rwa [a_widE, a_widR] at this
theorem aw_let {vL vR : Value} (w : World) (hL : SlE w vL wingP.2.2.1) (hR : SlE w vR wingP.2.2.2) : Calls Tryz.prog 30 #[.agg #[sV wingP.1, .int .i64 wingP.2.1, vL, vR]] w (RV w (.tuple #[.agg #[.int .i64 1, .int .i64 2, .int .i64 0], .int .i64 0])) := by
 have := apiLetters_any wingP w (by decide) hL hR
 rwa [a_err, a_let] at this
theorem aw_cut {vL vR : Value} (w : World) (hL : SlE w vL wingP.2.2.1) (hR : SlE w vR wingP.2.2.2) : Calls Tryz.prog 12 #[.agg #[sV wingP.1, .int .i64 wingP.2.1, vL, vR], .int .i64 1] w (RV w (.tuple #[.agg (zeroPV ++ zeroPV), .int .i64 18])) :=
 apiCut_rule wingP 1 w (by decide) hL hR a_err ⟨by decide, a_cutH⟩ a_cutS
theorem aw_stk {vL vR uL uR : Value} (w : World) (hL : SlE w vL wingP.2.2.1) (hR : SlE w vR wingP.2.2.2) (kL : SlE w uL wingP.2.2.1) (kR : SlE w uR wingP.2.2.2) : Calls Tryz.prog 16 #[.agg #[sV wingP.1, .int .i64 wingP.2.1, vL, vR], .agg #[sV wingP.1, .int .i64 wingP.2.1, uL, uR]] w (RPN w panZ 24) := by
 have := apiStack_any wingP wingP w (by decide) (by decide) hL hR kL kR
 rwa [a_stk, a_stkR] at this
theorem aw_same {vL vR uL uR : Value} (w : World) (hL : SlE w vL wingP.2.2.1) (hR : SlE w vR wingP.2.2.2) (kL : SlE w uL wingP.2.2.1) (kR : SlE w uR wingP.2.2.2) : Calls Tryz.prog 49 #[.agg #[sV wingP.1, .int .i64 wingP.2.1, vL, vR], .agg #[sV wingP.1, .int .i64 wingP.2.1, uL, uR]] w (RV w (.bool true)) := by
 have := samePanel_any wingP wingP w hL hR kL kR
 rwa [show eqP wingP wingP = true by decide] at this
theorem aw_net2 {vL vR : Value} (w : World) (hL : SlE w vL wingW.2.2.1) (hR : SlE w vR wingW.2.2.2) : Calls Tryz.prog 14 #[.agg #[sV wingW.1, .int .i64 wingW.2.1, vL, vR]] w (RGE bc 3 77 w (netL wingW) 0) := by
 have := apiNet_any wingW w (by decide) hL hR
 rwa [a_wnetE, ok0] at this
theorem aw_prn {v : Value} (w : World) (h : SlP w v [wingP]) (hL : Lay w) : Calls Tryz.prog 35 #[v] w (RV w (.tuple #[sV wingS, .int .i64 0])) := by
 have := apiPrintP_any [wingP] w h (fun p hp => (List.mem_singleton.1 hp) ▸ (by decide : wingP.1.length ≤ 1000000)) hL
 rwa [a_prnS, a_prnE] at this
theorem aw_par (w : World) (hL : Lay w) : Calls Tryz.prog 37 #[sV wingS] w (RPP w ([wingP], 0, 0)) := by
 have := apiParse_any wingS w hL
 rwa [a_par] at this
@[go_sem] theorem eq_pr04 (w : World) : (Op.equalIn 9999 73 (.agg #[.int .i64 0, .int .i64 4]) (.agg #[.int .i64 0, .int .i64 4])).run Tryz.prog w = .ok true w := by kernel_rfl
@[go_sem] theorem eq_pr05 (w : World) : (Op.equalIn 9999 73 (.agg #[.int .i64 0, .int .i64 5]) (.agg #[.int .i64 0, .int .i64 5])).run Tryz.prog w = .ok true w := by kernel_rfl
@[go_sem] theorem eq_strip (w : World) : (Op.equalIn 10000 75 (.agg #[.int .i64 0, .int .i64 4, .int .i64 0, .int .i64 5]) (.agg #[.int .i64 0, .int .i64 4, .int .i64 0, .int .i64 5])).run Tryz.prog w = .ok true w := by kernel_rfl
@[go_sem] theorem eq_frame (w : World) : (Op.equalIn 10000 98 (.agg #[.int .i64 0, .int .i64 0, .int .i64 3, .int .i64 2]) (.agg #[.int .i64 0, .int .i64 0, .int .i64 3, .int .i64 2])).run Tryz.prog w = .ok true w := by kernel_rfl
@[go_sem] theorem eq_edge (w : World) : (Op.equalIn 10000 107 (.agg #[.string ⟨#[66, 66]⟩, .int .i64 1, .bool false]) (.agg #[.string ⟨#[66, 66]⟩, .int .i64 1, .bool false])).run Tryz.prog w = .ok true w := by kernel_rfl
@[go_sem] theorem eq_let (w : World) : (Op.equalIn 10000 60 (.agg #[.int .i64 1, .int .i64 2, .int .i64 0]) (.agg #[.int .i64 1, .int .i64 2, .int .i64 0])).run Tryz.prog w = .ok true w := by kernel_rfl
theorem awakeP_any (w : World) (hL : Lay w) : Calls Tryz.prog 8 #[] w (RV w (.bool true)) := by
 go_enter Tryz.func8, Tryz.ntmps8
 go_wp2_with fail
 refine (wing_any _).mono ?_
 rintro e w1 ⟨vL1, vR1, rfl, hL1, hR1, hb1⟩
 go_wp2_with fail
 refine (aw_out _ hL1 hR1).mono ?_
 rintro e w2 ⟨v2, rfl, hO2, hb2⟩
 obtain ⟨A2, c2, rfl⟩ := hO2.shape
 go_wp2_with fail
 refine (wing_any _).mono ?_
 rintro e w3 ⟨vL3, vR3, rfl, hL3, hR3, hb3⟩
 go_wp2_with fail
 refine (aw_str _ hL3 hR3).mono ?_
 rintro e w4 ⟨v4, rfl, hS4, hb4⟩
 obtain ⟨A4, c4, rfl⟩ := hS4.shape
 go_wp2_with fail
 refine (wing_any _).mono ?_
 rintro e w5 ⟨vL5, vR5, rfl, hL5, hR5, hb5⟩
 go_wp2_with fail
 refine (aw_area _ hL5 hR5).mono ?_
 rintro e w6 ⟨rfl, hb6⟩
 go_wp2_with fail
 refine (wing_any _).mono ?_
 rintro e w7 ⟨vL7, vR7, rfl, hL7, hR7, hb7⟩
 go_wp2_with fail
 refine (aw_net _ hL7 hR7).mono ?_
 rintro e w8 ⟨v8, rfl, hN8, hb8⟩
 obtain ⟨A8, c8, hv8⟩ : ∃ A c, v8 = .slice A 11 c := by obtain ⟨A, c, rfl⟩ := hN8.shape; exact ⟨A, c, by rw [a_netN]⟩
 subst hv8
 go_wp2_with fail
 refine (wing_any _).mono ?_
 rintro e w9 ⟨vL9, vR9, rfl, hL9, hR9, hb9⟩
 go_wp2_with fail
 refine (aw_rows _ hL9 hR9).mono ?_
 rintro e w10 ⟨v10, rfl, hR10, hb10⟩
 obtain ⟨A10, c10, rfl⟩ := hR10.shape
 go_wp2_with fail
 refine (wing_any _).mono ?_
 rintro e w11 ⟨vL11, vR11, rfl, hL11, hR11, hb11⟩
 go_wp2_with fail
 refine (aw_frm _ hL11 hR11).mono ?_
 rintro e w12 ⟨rfl, hb12⟩
 have hB12 := Blk.new w12 98 #[.int .i64 0, .int .i64 0, .int .i64 3, .int .i64 2]
 have fhB12 := hB12.facts
 go_wp2_with fail
 refine (wing_any _).mono ?_
 rintro e w13 ⟨vL13, vR13, rfl, hL13, hR13, hb13⟩
 replace hB12 := hB12.below (show Below _ _ w13 by (repeat first|exact J0|assumption|(apply J1;assumption)|apply J2|apply J3|apply J4))
 replace fhB12 := hB12.facts
 go_wp2_with fail
 refine (aw_rest _ hL13 hR13).mono ?_
 rintro e w14 ⟨v14, rfl, hX14, hb14⟩
 replace hB12 := hB12.below (show Below _ _ w14 by (repeat first|exact J0|assumption|(apply J1;assumption)|apply J2|apply J3|apply J4))
 replace fhB12 := hB12.facts
 obtain ⟨A14, c14, rfl⟩ := hX14.shape
 go_wp2_with fail
 refine (wing_any _).mono ?_
 rintro e w15 ⟨vL15, vR15, rfl, hL15, hR15, hb15⟩
 replace hB12 := hB12.below (show Below _ _ w15 by (repeat first|exact J0|assumption|(apply J1;assumption)|apply J2|apply J3|apply J4))
 replace fhB12 := hB12.facts
 obtain ⟨AL, cL, rfl, _, _, rL⟩ := id hL15
 obtain ⟨AR, cR, rfl, _, _, rR⟩ := id hR15
 have hP15 : SlP (w15.alloc (.cells #[sV wingP.1, .int .i64 wingP.2.1, .slice AL wingP.2.2.1.length cL, .slice AR wingP.2.2.2.length cR] 30)) (.slice (some ⟨w15.heap.size, 0, none⟩) 1 1) [wingP] :=
  ⟨[(wingP.1, wingP.2.1, (AL, wingP.2.2.1.length, cL), (AR, wingP.2.2.2.length, cR))], Sl.oneG (enc := pnc) (sz := 4) w15 _ _ _ rfl, ⟨⟨rfl, rfl, hL15.alloc _, hR15.alloc _⟩, trivial⟩⟩
 clear rL rR
 go_wp2_with fail
 refine (aw_prn _ hP15 (hL.below (by (repeat first|exact J0|assumption|(apply J1;assumption)|apply J2|apply J3|apply J4)))).mono ?_
 rintro e w16 ⟨rfl, hb16⟩
 replace hB12 := hB12.below (show Below _ _ w16 by (repeat first|exact J0|assumption|(apply J1;assumption)|apply J2|apply J3|apply J4))
 replace fhB12 := hB12.facts
 go_wp2_with fail
 refine (aw_par _ (hL.below (by (repeat first|exact J0|assumption|(apply J1;assumption)|apply J2|apply J3|apply J4)))).mono ?_
 rintro e w17 ⟨v17, rfl, hP17, hb17⟩
 replace hB12 := hB12.below (show Below _ _ w17 by (repeat first|exact J0|assumption|(apply J1;assumption)|apply J2|apply J3|apply J4))
 replace fhB12 := hB12.facts
 obtain ⟨xs17, hx17, hp17⟩ := hP17
 obtain ⟨A17, c17, rfl, _, _, hr17⟩ := hx17
 obtain ⟨x17, rfl⟩ : ∃ x, xs17 = [x] := by
  have := hp17.len
  match xs17, this with
  | [x], _ => exact ⟨x, rfl⟩
 simp only [show sV wingS = Value.string { data := #[112, 97, 110, 101, 108, 32, 119, 105, 110, 103, 32, 50, 10, 108, 101, 102, 116, 32, 78, 32, 49, 32, 105, 110, 10, 114, 105, 103, 104, 116, 32, 66, 66, 32, 49, 32, 111, 117, 116, 10, 101, 110, 100, 10] } from rfl]
 have hk18 := (Own.newG (enc := kc) (sz := 2) w17 (Nat.le_refl _) 40 [((4 : Int), (0 : Int)), (5, 1), (6, 2)] kc_len (by decide) #[.int .i64 4, .int .i64 0, .int .i64 5, .int .i64 1, .int .i64 6, .int .i64 2] rfl 3 rfl).rd kc_len
 go_wp2_with fail
 refine (sameKnots_any [((4 : Int), (0 : Int)), (5, 1), (6, 2)] [((4 : Int), (0 : Int)), (5, 1), (6, 2)] _ ((hO2.rd kc_len).below (by (repeat first|exact J0|assumption|(apply J1;assumption)|apply J2|apply J3|apply J4))) hk18).mono ?_
 rintro e w18 ⟨rfl, hb18⟩
 replace hB12 := hB12.below (show Below _ _ w18 by (repeat first|exact J0|assumption|(apply J1;assumption)|apply J2|apply J3|apply J4))
 replace fhB12 := hB12.facts
 obtain ⟨_, _, e4, _, _, hr4⟩ := (hS4.rd trc_len).below (show Below w4.heap.size w4 w18 by (repeat first|exact J0|assumption|(apply J1;assumption)|apply J2|apply J3|apply J4))
 obtain ⟨rfl, rfl⟩ : A4 = _ ∧ c4 = _ := by simpa using e4
 obtain ⟨b4, o4, rfl, hlt4, z0, z1, z2, z3⟩ := hr4.strp (k := 0) (by decide)
 simp only [Nat.zero_mul, Nat.add_zero, List.getElem_cons_zero] at z0 z1 z2 z3
 clear e4 hr4
 have hk19 := (Own.newG (enc := kc) (sz := 2) w18 (Nat.le_refl _) 73 [((0 : Int), (4 : Int)), (1, 5), (0, 6)] kc_len (by decide) #[.int .i64 0, .int .i64 4, .int .i64 1, .int .i64 5, .int .i64 0, .int .i64 6] rfl 3 rfl).rd kc_len
 go_wp2_with fail
 refine (sameRows_any [((0 : Int), (4 : Int)), (1, 5), (0, 6)] [((0 : Int), (4 : Int)), (1, 5), (0, 6)] _ ((hR10.rd kc_len).below (by (repeat first|exact J0|assumption|(apply J1;assumption)|apply J2|apply J3|apply J4))) hk19).mono ?_
 rintro e w19 ⟨rfl, hb19⟩
 replace hB12 := hB12.below (show Below _ _ w19 by (repeat first|exact J0|assumption|(apply J1;assumption)|apply J2|apply J3|apply J4))
 replace fhB12 := hB12.facts
 have hk20 := (Own.newG (enc := bc) (sz := 3) w19 (Nat.le_refl _) 77 [((6 : Int), (0 : Int), (-1 : Int))] bc_len (by decide) #[.int .i64 6, .int .i64 0, .int .i64 (-1)] rfl 1 rfl).rd bc_len
 go_wp2_with fail
 refine (sameBars_any [((6 : Int), (0 : Int), (-1 : Int))] [((6 : Int), (0 : Int), (-1 : Int))] _ ((hX14.rd bc_len).below (by (repeat first|exact J0|assumption|(apply J1;assumption)|apply J2|apply J3|apply J4))) hk20).mono ?_
 rintro e w20 ⟨rfl, hb20⟩
 replace hB12 := hB12.below (show Below _ _ w20 by (repeat first|exact J0|assumption|(apply J1;assumption)|apply J2|apply J3|apply J4))
 replace fhB12 := hB12.facts
 obtain ⟨⟨hnm, hwd, hlf, hrt⟩, _⟩ := hp17.below (show Below w17.heap.size w17 w20 by (repeat first|exact J0|assumption|(apply J1;assumption)|apply J2|apply J3|apply J4))
 obtain ⟨b17, o17, rfl, hlt17, y0, y1, y2, y3⟩ := (hr17.below (show Below w17.heap.size w17 w20 by (repeat first|exact J0|assumption|(apply J1;assumption)|apply J2|apply J3|apply J4))).pan (k := 0) rfl
 rw [hnm] at y0
 rw [hwd] at y1
 obtain ⟨⟨SA, Sn, Sc⟩, hs1⟩ : ∃ z, x17.2.2.1 = z := ⟨_, rfl⟩
 obtain ⟨⟨TA, Tn, Tc⟩, hs2⟩ : ∃ z, x17.2.2.2 = z := ⟨_, rfl⟩
 rw [hs1] at y2 hlf
 rw [hs2] at y3 hrt
 simp only [slV, Nat.zero_mul, Nat.add_zero] at y0 y1 y2 y3 hlf hrt
 clear hs1 hs2 hnm hwd hr17
 go_wp2_with fail
 refine (rown_any wingP _ hlf hrt (by decide) (by decide)).mono ?_
 rintro e w21 ⟨uL, uR, rfl, oL21, oR21, hb21⟩
 replace hB12 := hB12.below (show Below _ _ w21 by (repeat first|exact J0|assumption|(apply J1;assumption)|apply J2|apply J3|apply J4))
 replace fhB12 := hB12.facts
 go_wp2_with fail
 refine (wing_any _).mono ?_
 rintro e w22 ⟨vL22, vR22, rfl, hL22, hR22, hb22⟩
 replace hB12 := hB12.below (show Below _ _ w22 by (repeat first|exact J0|assumption|(apply J1;assumption)|apply J2|apply J3|apply J4))
 replace fhB12 := hB12.facts
 go_wp2_with fail
 refine (rown_any wingP _ hL22 hR22 (by decide) (by decide)).mono ?_
 rintro e w23 ⟨tL, tR, rfl, oL23, oR23, hb23⟩
 replace hB12 := hB12.below (show Below _ _ w23 by (repeat first|exact J0|assumption|(apply J1;assumption)|apply J2|apply J3|apply J4))
 replace fhB12 := hB12.facts
 go_wp2_with fail
 refine (aw_same _ ((oL21.rd ec_len).below (by (repeat first|exact J0|assumption|(apply J1;assumption)|apply J2|apply J3|apply J4))) ((oR21.rd ec_len).below (by (repeat first|exact J0|assumption|(apply J1;assumption)|apply J2|apply J3|apply J4))) (oL23.rd ec_len) (oR23.rd ec_len)).mono ?_
 rintro e w24 ⟨rfl, hb24⟩
 have hbw24 : Below w.heap.size w w24 := by (repeat first|exact J0|assumption|(apply J1;assumption)|apply J2|apply J3|apply J4)
 clear hB12 fhB12 hO2 hS4 hN8 hR10 hX14 hp17 hlf hrt hk18 hk19 hk20 y0 y1 y2 y3 z0 z1 z2 z3 hlt17 hlt4 oL21 oR21 oL23 oR23 hP15 hL1 hR1 hL3 hR3 hL5 hR5 hL7 hR7 hL9 hR9 hL11 hR11 hL13 hR13 hL15 hR15 hL22 hR22 hb1 hb2 hb3 hb4 hb5 hb6 hb7 hb8 hb9 hb10 hb11 hb12 hb13 hb14 hb15 hb16 hb17 hb18 hb19 hb20 hb21 hb22 hb23 hb24
 go_upto_region 12 with fail
 as_aux_lemma =>
  go_wp2_with fail
  refine (wing_any _).mono ?_
  rintro e w25 ⟨vL25, vR25, rfl, hL25, hR25, hb25⟩
  go_wp2_with fail
  refine (aw_turn _ hL25 hR25).mono ?_
  rintro e w26 ⟨vL26, vR26, rfl, tO26, tP26, hb26⟩
  obtain ⟨A26, c26, hv26⟩ : ∃ A c, vL26 = .slice A 1 c := by obtain ⟨A, c, rfl⟩ := tO26.shape; exact ⟨A, c, rfl⟩
  subst hv26
  obtain ⟨_, _, rfl⟩ := tP26.shape
  have hZ26 := Blk.new w26 30 #[.string ⟨#[]⟩, .int .i64 0, .slice none 0 0, .slice none 0 0]
  go_upto_region 13 with (refine wpList_store_blk hZ26 rfl _ _ _ rfl rfl rfl (by rfl) (by kernel_rfl) (by kernel_rfl) ?_; intro x26 hB26 hc26)
  have hx26 : Below w26.heap.size w26 x26 := chg_bl (bl_alloc bl_refl _) hc26 (Nat.le_refl _)
  clear hZ26 hc26
  have fhB26 := hB26.facts
  go_wp2_with fail
  refine (wing_any _).mono ?_
  rintro e w27 ⟨vL27, vR27, rfl, hL27, hR27, hb27⟩
  replace hB26 := hB26.below (show Below _ _ w27 by (repeat first|exact J0|assumption|(apply J1;assumption)|apply J2|apply J3|apply J4))
  replace fhB26 := hB26.facts
  go_wp2_with fail
  refine (aw_cut _ hL27 hR27).mono ?_
  rintro e w28 ⟨rfl, hb28⟩
  replace hB26 := hB26.below (show Below _ _ w28 by (repeat first|exact J0|assumption|(apply J1;assumption)|apply J2|apply J3|apply J4))
  replace fhB26 := hB26.facts
  have hZ28 := Blk.new w28 31 #[.string ⟨#[]⟩, .int .i64 0, .slice none 0 0, .slice none 0 0, .string ⟨#[]⟩, .int .i64 0, .slice none 0 0, .slice none 0 0]
  go_upto_region 14 with (refine wpList_store_blk hZ28 rfl _ _ _ rfl rfl rfl (by rfl) (by kernel_rfl) (by kernel_rfl) ?_; intro x28 hB28 hc28)
  have hx28 : Below w28.heap.size w28 x28 := chg_bl (bl_alloc bl_refl _) hc28 (Nat.le_refl _)
  clear hZ28 hc28
  replace hB26 := hB26.below hx28
  have fhB26 := hB26.facts
  go_wp2_with fail
  refine (wing_any _).mono ?_
  rintro e w29 ⟨vL29, vR29, rfl, hL29, hR29, hb29⟩
  replace hB26 := hB26.below (show Below _ _ w29 by (repeat first|exact J0|assumption|(apply J1;assumption)|apply J2|apply J3|apply J4))
  replace fhB26 := hB26.facts
  go_wp2_with fail
  refine (wing_any _).mono ?_
  rintro e w30 ⟨vL30, vR30, rfl, hL30, hR30, hb30⟩
  replace hB26 := hB26.below (show Below _ _ w30 by (repeat first|exact J0|assumption|(apply J1;assumption)|apply J2|apply J3|apply J4))
  replace fhB26 := hB26.facts
  go_wp2_with fail
  refine (aw_stk _ (hL29.below hb30) (hR29.below hb30) hL30 hR30).mono ?_
  rintro e w31 ⟨vL31, vR31, rfl, oA31, oB31, hb31⟩
  replace hB26 := hB26.below (show Below _ _ w31 by (repeat first|exact J0|assumption|(apply J1;assumption)|apply J2|apply J3|apply J4))
  replace fhB26 := hB26.facts
  obtain ⟨_, _, rfl⟩ := oA31.shape
  obtain ⟨_, _, rfl⟩ := oB31.shape
  have hZ31 := Blk.new w31 30 #[.string ⟨#[]⟩, .int .i64 0, .slice none 0 0, .slice none 0 0]
  go_upto_region 15 with (refine wpList_store_blk hZ31 rfl _ _ _ rfl rfl rfl (by rfl) (by kernel_rfl) (by kernel_rfl) ?_; intro x31 hB31 hc31)
  have hx31 : Below w31.heap.size w31 x31 := chg_bl (bl_alloc bl_refl _) hc31 (Nat.le_refl _)
  clear hZ31 hc31
  replace hB26 := hB26.below hx31
  have fhB26 := hB26.facts
  go_wp2_with fail
  refine (wing_any _).mono ?_
  rintro e w32 ⟨vL32, vR32, rfl, hL32, hR32, hb32⟩
  replace hB26 := hB26.below (show Below _ _ w32 by (repeat first|exact J0|assumption|(apply J1;assumption)|apply J2|apply J3|apply J4))
  replace fhB26 := hB26.facts
  go_wp2_with fail
  refine (aw_wide _ hL32 hR32).mono ?_
  rintro e w33 ⟨vL33, vR33, rfl, wL33, wR33, hb33⟩
  replace hB26 := hB26.below (show Below _ _ w33 by (repeat first|exact J0|assumption|(apply J1;assumption)|apply J2|apply J3|apply J4))
  replace fhB26 := hB26.facts
  obtain ⟨_, _, rfl⟩ := wL33.shape
  obtain ⟨_, _, rfl⟩ := wR33.shape
  have hZ33 := Blk.new w33 30 #[.string ⟨#[]⟩, .int .i64 0, .slice none 0 0, .slice none 0 0]
  go_upto_region 16 with (refine wpList_store_blk hZ33 rfl _ _ _ rfl rfl rfl (by rfl) (by kernel_rfl) (by kernel_rfl) ?_; intro x33 hB33 hc33)
  have hx33 : Below w33.heap.size w33 x33 := chg_bl (bl_alloc bl_refl _) hc33 (Nat.le_refl _)
  clear hZ33 hc33
  replace hB26 := hB26.below hx33
  have fhB26 := hB26.facts
  have fhB33 := hB33.facts
  go_wp2_with fail
  refine (aw_net2 _ ((wL33.rd ec_len).below hx33) ((wR33.rd ec_len).below hx33)).mono ?_
  rintro e w34 ⟨v34, rfl, hN34, hb34⟩
  replace hB26 := hB26.below (show Below _ _ w34 by (repeat first|exact J0|assumption|(apply J1;assumption)|apply J2|apply J3|apply J4))
  replace fhB26 := hB26.facts
  obtain ⟨A34, c34, hv34⟩ : ∃ A c, v34 = .slice A 15 c := by obtain ⟨A, c, rfl⟩ := hN34.shape; exact ⟨A, c, by rw [a_wnetN]⟩
  subst hv34
  go_wp2_with fail
  refine (wing_any _).mono ?_
  rintro e w35 ⟨vL35, vR35, rfl, hL35, hR35, hb35⟩
  replace hB26 := hB26.below (show Below _ _ w35 by (repeat first|exact J0|assumption|(apply J1;assumption)|apply J2|apply J3|apply J4))
  replace fhB26 := hB26.facts
  go_wp2_with fail
  refine (aw_let _ hL35 hR35).mono ?_
  rintro e w36 ⟨rfl, hb36⟩
  replace hB26 := hB26.below (show Below _ _ w36 by (repeat first|exact J0|assumption|(apply J1;assumption)|apply J2|apply J3|apply J4))
  replace fhB26 := hB26.facts
  have hB36 := Blk.new w36 60 #[.int .i64 1, .int .i64 2, .int .i64 0]
  have fhB36 := hB36.facts
  obtain ⟨_, _, e26, _, _, hr26⟩ := (tO26.rd ec_len).below (show Below w26.heap.size w26 w36 by (repeat first|exact J0|assumption|(apply J1;assumption)|apply J2|apply J3|apply J4))
  obtain ⟨rfl, rfl⟩ : A26 = _ ∧ c26 = _ := by simpa [wingT] using e26
  obtain ⟨b26, o26, rfl, hlt26, z0, z1, z2⟩ := hr26.edge (k := 0) (by decide)
  simp only [Nat.zero_mul, Nat.add_zero, List.getElem_cons_zero, wingT] at z0 z1 z2
  have hbw36 : Below w.heap.size w w36 := by (repeat first|exact J0|assumption|(apply J1;assumption)|apply J2|apply J3|apply J4)
  simp only [wingT] at hB26 fhB26
  go_wp2
  go_ret
  exact ⟨rfl, by (repeat first|exact J0|assumption|(apply J1;assumption)|apply J2|apply J3|apply J4)⟩
end Go.Proofs.YtkkefahobjlagaaGreatDoor

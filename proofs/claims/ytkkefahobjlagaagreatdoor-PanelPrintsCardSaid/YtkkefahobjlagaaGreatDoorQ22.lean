/- net, Net, Area, Corners, walked. Conditions: none. -/
import Derived.Test.YtkkefahobjlagaaGreatDoorQ21
import Derived.Test.YtkkefahobjlagaaGreatDoorQ08
namespace Go.Proofs.YtkkefahobjlagaaGreatDoor
open Go.RowKit Go.ChangeMaps
set_option maxHeartbeats 4000000
set_option maxRecDepth 100000
attribute [local go_sem] Oper.semAt_some
theorem net_err {p : Pan} (h : panE p ≠ 0) : netErr p = panE p := by unfold netErr; rw [if_neg h]
theorem net_any {vL vR : Value} (p : Pan) (w : World) (hnm : p.1.length ≤ 1000000) (hL : SlE w vL p.2.2.1) (hR : SlE w vR p.2.2.2) :
  Calls Tryz.prog 70 #[.agg #[sV p.1, .int .i64 p.2.1, vL, vR]] w (RGE bc 3 77 w (onlyOk (netErr p) (netL p)) (netErr p)) := by
 have hc := fun W (hb : Below w.heap.size w W) => checkPanel_any p W hnm (hL.below hb) (hR.below hb)
 by_cases hE : panE p = 0
 ·have hok := panE_zero hE
  have hbd := fun W (hb : Below w.heap.size w W) => strips_any p W (hL.below hb) (hR.below hb) hok
  have hS := strips_near hok
  have hSl := strips_le hok
  have HN : Hid (netErr p = whenI (decide (4096 < (netL p).length)) 5 ∧ netL p = netN (strips p) (strips p).length) := by unfold Hid netErr; rw [if_pos hE]; exact ⟨rfl, rfl⟩
  rw [hE] at hc
  obtain ⟨AL, cL, rfl, _, _, _⟩ := hL
  obtain ⟨AR, cR, rfl, _, _, _⟩ := hR
  unfold sV at hc hbd ⊢
  obtain ⟨S, hSS⟩ : ∃ S, strips p = S := ⟨_, rfl⟩
  rw [hSS] at hbd hS hSl HN
  obtain ⟨T, hT⟩ : ∃ T, netL p = T := ⟨_, rfl⟩
  obtain ⟨E, hEE⟩ : ∃ E, netErr p = E := ⟨_, rfl⟩
  rw [hT, hEE] at HN ⊢
  have hP := Blk.new w 30 #[.string ⟨p.1.toArray⟩, .int .i64 p.2.1, .slice AL p.2.2.1.length cL, .slice AR p.2.2.2.length cR]
  have fhP := hP.facts
  have HSN := Lib.hid hS
  have HLN := Lib.hid (netN_len hS)
  clear hE hnm hSS hT hEE hS
  go_enter Tryz.func70, Tryz.ntmps70
  go_wp2_with fail
  refine (hc _ (by (repeat first|exact J0|assumption|(apply J1;assumption)|apply J2|apply J3|apply J4))).mono ?_
  rintro e w2 ⟨rfl, hb2⟩
  replace hP := hP.below (show Below _ _ w2 by (repeat first|exact J0|assumption|(apply J1;assumption)|apply J2|apply J3|apply J4))
  replace fhP := hP.facts
  go_wp2_with fail
  refine (hbd _ (by (repeat first|exact J0|assumption|(apply J1;assumption)|apply J2|apply J3|apply J4))).mono ?_
  rintro e w3 ⟨v3, rfl, hO3, hb3⟩
  replace hP := hP.below (show Below _ _ w3 by (repeat first|exact J0|assumption|(apply J1;assumption)|apply J2|apply J3|apply J4))
  replace fhP := hP.facts
  obtain ⟨A3, c3, rfl⟩ := hO3.shape
  obtain ⟨_, _, he3, hlc3, hcm3, hr3⟩ := hO3.rd trc_len
  obtain ⟨rfl, rfl⟩ : A3 = _ ∧ c3 = _ := by simpa using he3
  have hbw3 : Below w.heap.size w w3 := by (repeat first|exact J0|assumption|(apply J1;assumption)|apply J2|apply J3|apply J4)
  clear hP fhP hb2 hb3 he3 hc hbd hO3 hlc3 hcm3
  go_wp2
  go_loopw [5, 16] (fun s5 s16 wr => ∃ k : Nat, k ≤ S.length ∧ s16 = .int .i64 k ∧ OwB w3.heap.size wr s5 (netN S k) ∧ Below w3.heap.size w3 wr) (fun _ s _ => S.length - (intOf s).toNat)
  case atStart => exact ⟨0, Nat.zero_le _, rfl, Own.nil_, bl_refl⟩
  case round =>
   obtain ⟨k, hk, rfl, hO, hbk⟩ := hrel
   obtain ⟨wo, rfl⟩ : ∃ x, x = wr := ⟨_, rfl⟩
   have hl := HLN.out k hk
   by_cases hlt : k < S.length
   ·obtain ⟨b, off, rfl, hb, e0, e1, e2, e3⟩ := (hr3.below hbk).strp hlt
    have hs := HSN.out _ (List.getElem_mem hlt)
    have HT : Hid (netN S (k + 1) = netN S k ++ barsS S[k] (k : Int)) := by
     unfold Hid
     rw [netN, List.getD_eq_getElem?_getD, List.getElem?_eq_getElem hlt, Option.getD_some]
    have hbl := barsS_len hs (k : Int)
    have hba := fun W => bars_any S[k] (k : Int) W hs (by omega)
    obtain ⟨⟨x0, x1, x2, x3⟩, hx⟩ : ∃ z, S[k] = z := ⟨_, rfl⟩
    rw [hx] at e0 e1 e2 e3 HT hba hbl
    simp only at e0 e1 e2 e3 hba
    clear hs hx
    obtain ⟨L, hL⟩ : ∃ L, netN S k = L := ⟨_, rfl⟩
    rw [hL] at hO hl HT
    clear hL
    obtain ⟨AO, cO, rfl⟩ := hO.shape
    have hS7 := Blk.new wo 75 #[.int .i64 x0, .int .i64 x1, .int .i64 x2, .int .i64 x3]
    have fhS7 := hS7.facts
    have hO7 := hO.alloc (.cells #[.int .i64 x0, .int .i64 x1, .int .i64 x2, .int .i64 x3] 75)
    have hb7 := bl_alloc hbk (.cells #[.int .i64 x0, .int .i64 x1, .int .i64 x2, .int .i64 x3] 75)
    obtain ⟨R, hR⟩ : ∃ R, barsS (x0, x1, x2, x3) (k : Int) = R := ⟨_, rfl⟩
    rw [hR] at HT hba hbl
    clear hR
    go_wp2_with fail
    refine (hba _).mono ?_
    rintro e w8 ⟨v8, rfl, hO8, hb8⟩
    have hb38 : Below w3.heap.size w3 w8 := bl_then hb8 hb7
    go_wp2_with (at_builtin; refine wpList_appBL (hO7.below hb8) (hO8.rd bc_len) rfl _ _ rfl rfl rfl (by omega) hb38.size ?_; intro v9 w9 hown9 hgr9)
    go_roundw
    case rel => exact ⟨k + 1, by omega, by go_num, by rw [HT.out]; exact hown9, bl_grown hgr9 hb38 (fun j e => (hO.lt j e).1)⟩
    case measure => simp [intOf]; omega
   ·obtain rfl : k = S.length := by omega
    rw [← HN.out.2] at hO hl
    obtain ⟨AO, cO, rfl⟩ := hO.shape
    by_cases h9 : 4096 < T.length
    ·have t1 : (4096 < T.length) = True := eq_true h9
     have t2 : (4096 < (T.length : Int)) = True := eq_true (by omega)
     have HEE : Hid (E = 5) := by unfold Hid; rw [HN.out.1, decide_eq_true h9]; rfl
     clear h9 hl
     go_wp2
     refine bodyPost_ret (v := .tuple #[.slice none 0 0, .int .i64 5]) (by simp [results, Tryz.results70, go_sem]) rfl ?_
     exact ⟨_, by rw [HEE.out], by unfold onlyOk; rw [if_neg (by rw [HEE.out]; decide)]; exact Own.nil_, bl_then hbk hbw3⟩
    ·have t1 : (4096 < T.length) = False := eq_false h9
     have t2 : (4096 < (T.length : Int)) = False := eq_false (by omega)
     have HEE : Hid (E = 0) := by unfold Hid; rw [HN.out.1, decide_eq_false h9]; rfl
     clear h9 hl
     go_wp2
     refine bodyPost_ret (v := .tuple #[.slice AO T.length cO, .int .i64 0]) (by simp [results, Tryz.results70, go_sem]) rfl ?_
     exact ⟨_, by rw [HEE.out], by unfold onlyOk; rw [if_pos HEE.out]; exact hO.base_mono hbw3.size, bl_then hbk hbw3⟩
 ·have HS : Hid (onlyOk (panE p) (netL p) = []) := by unfold Hid onlyOk; rw [if_neg hE]
  have t0 : (panE p != 0) = true := by simp [hE]
  rw [net_err hE]
  obtain ⟨E, hEE⟩ : ∃ E, panE p = E := ⟨_, rfl⟩
  rw [hEE] at hc t0 HS ⊢
  obtain ⟨AL, cL, rfl, _, _, _⟩ := hL
  obtain ⟨AR, cR, rfl, _, _, _⟩ := hR
  unfold sV at hc ⊢
  have hP := Blk.new w 30 #[.string ⟨p.1.toArray⟩, .int .i64 p.2.1, .slice AL p.2.2.1.length cL, .slice AR p.2.2.2.length cR]
  have fhP := hP.facts
  rw [HS.out]
  clear hE hEE hnm
  go_enter Tryz.func70, Tryz.ntmps70
  go_wp2_with fail
  refine (hc _ (by (repeat first|exact J0|assumption|(apply J1;assumption)|apply J2|apply J3|apply J4))).mono ?_
  rintro e w2 ⟨rfl, hb2⟩
  replace hP := hP.below (show Below _ _ w2 by (repeat first|exact J0|assumption|(apply J1;assumption)|apply J2|apply J3|apply J4))
  replace fhP := hP.facts
  go_wp2
  refine bodyPost_ret (v := .tuple #[.slice none 0 0, .int .i64 E]) (by simp [results, Tryz.results70, go_sem]) rfl ?_
  exact ⟨_, rfl, Own.nil_, by (repeat first|exact J0|assumption|(apply J1;assumption)|apply J2|apply J3|apply J4)⟩
theorem apiNet_any {vL vR : Value} (p : Pan) (w : World) (hnm : p.1.length ≤ 1000000) (hL : SlE w vL p.2.2.1) (hR : SlE w vR p.2.2.2) :
  Calls Tryz.prog 14 #[.agg #[sV p.1, .int .i64 p.2.1, vL, vR]] w (RGE bc 3 77 w (onlyOk (netErr p) (netL p)) (netErr p)) := by
 have hn := fun W (hb : Below w.heap.size w W) => net_any p W hnm (hL.below hb) (hR.below hb)
 obtain ⟨E, hEE⟩ : ∃ E, netErr p = E := ⟨_, rfl⟩
 rw [hEE] at hn ⊢
 obtain ⟨AL, cL, rfl, _, _, _⟩ := hL
 obtain ⟨AR, cR, rfl, _, _, _⟩ := hR
 unfold sV at hn ⊢
 have hP := Blk.new w 30 #[.string ⟨p.1.toArray⟩, .int .i64 p.2.1, .slice AL p.2.2.1.length cL, .slice AR p.2.2.2.length cR]
 have fhP := hP.facts
 clear hEE hnm
 go_enter Tryz.func14, Tryz.ntmps14
 go_wp2_with fail
 refine (hn _ (by (repeat first|exact J0|assumption|(apply J1;assumption)|apply J2|apply J3|apply J4))).mono ?_
 rintro e w2 ⟨v2, rfl, hO2, hb2⟩
 go_wp2
 refine bodyPost_ret (v := .tuple #[v2, .int .i64 E]) (by simp [results, Tryz.results14, go_sem]) rfl ?_
 exact ⟨_, rfl, hO2.base_mono (Below.size (by (repeat first|exact J0|assumption|(apply J1;assumption)|apply J2|apply J3|apply J4))), by (repeat first|exact J0|assumption|(apply J1;assumption)|apply J2|apply J3|apply J4)⟩
theorem apiArea_any {vL vR : Value} (p : Pan) (w : World) (hnm : p.1.length ≤ 1000000) (hL : SlE w vL p.2.2.1) (hR : SlE w vR p.2.2.2) :
  Calls Tryz.prog 22 #[.agg #[sV p.1, .int .i64 p.2.1, vL, vR]] w (RV w (.tuple #[.int .i64 (onlyN (panE p) (areaS (strips p))), .int .i64 (panE p)])) := by
 have hc := fun W (hb : Below w.heap.size w W) => checkPanel_any p W hnm (hL.below hb) (hR.below hb)
 by_cases hE : panE p = 0
 ·have hok := panE_zero hE
  have hbd := fun W (hb : Below w.heap.size w W) => strips_any p W (hL.below hb) (hR.below hb) hok
  have hS := strips_near hok
  have hSl := strips_le hok
  have HN : Hid (onlyN (panE p) (areaS (strips p)) = areaS (strips p)) := by unfold Hid onlyN; rw [if_pos hE]
  rw [HN.out]
  rw [hE] at hc ⊢
  obtain ⟨AL, cL, rfl, _, _, _⟩ := hL
  obtain ⟨AR, cR, rfl, _, _, _⟩ := hR
  unfold sV at hc hbd ⊢
  obtain ⟨S, hSS⟩ : ∃ S, strips p = S := ⟨_, rfl⟩
  rw [hSS] at hbd hS hSl ⊢
  have hP := Blk.new w 30 #[.string ⟨p.1.toArray⟩, .int .i64 p.2.1, .slice AL p.2.2.1.length cL, .slice AR p.2.2.2.length cR]
  have fhP := hP.facts
  have HSN := Lib.hid hS
  have HAN := Lib.hid (areaS_near hS)
  clear hE hnm hSS hS HN
  go_enter Tryz.func22, Tryz.ntmps22
  go_wp2_with fail
  refine (hc _ (by (repeat first|exact J0|assumption|(apply J1;assumption)|apply J2|apply J3|apply J4))).mono ?_
  rintro e w2 ⟨rfl, hb2⟩
  replace hP := hP.below (show Below _ _ w2 by (repeat first|exact J0|assumption|(apply J1;assumption)|apply J2|apply J3|apply J4))
  replace fhP := hP.facts
  go_wp2_with fail
  refine (hbd _ (by (repeat first|exact J0|assumption|(apply J1;assumption)|apply J2|apply J3|apply J4))).mono ?_
  rintro e w3 ⟨v3, rfl, hO3, hb3⟩
  replace hP := hP.below (show Below _ _ w3 by (repeat first|exact J0|assumption|(apply J1;assumption)|apply J2|apply J3|apply J4))
  replace fhP := hP.facts
  obtain ⟨A3, c3, rfl⟩ := hO3.shape
  obtain ⟨_, _, he3, hlc3, hcm3, hr3⟩ := hO3.rd trc_len
  obtain ⟨rfl, rfl⟩ : A3 = _ ∧ c3 = _ := by simpa using he3
  have hbw3 : Below w.heap.size w w3 := by (repeat first|exact J0|assumption|(apply J1;assumption)|apply J2|apply J3|apply J4)
  clear hP fhP hb2 hb3 he3 hc hbd hO3 hlc3 hcm3
  go_wp2
  go_loopw [5, 16] (fun s5 s16 wr => ∃ k : Nat, k ≤ S.length ∧ s16 = .int .i64 k ∧ s5 = .int .i64 (areaS (S.take k)) ∧ Below w3.heap.size w3 wr) (fun _ s _ => S.length - (intOf s).toNat)
  case atStart => exact ⟨0, Nat.zero_le _, rfl, rfl, bl_refl⟩
  case round =>
   obtain ⟨k, hk, rfl, rfl, hbk⟩ := hrel
   have hl := HAN.out k hk
   by_cases hlt : k < S.length
   ·obtain ⟨b, off, rfl, hb, e0, e1, e2, e3⟩ := (hr3.below hbk).strp hlt
    have hs := HSN.out _ (List.getElem_mem hlt)
    have HT := Lib.hid (areaS_snoc hlt)
    obtain ⟨⟨x0, x1, x2, x3⟩, hx⟩ : ∃ z, S[k] = z := ⟨_, rfl⟩
    rw [hx] at e0 e1 e2 e3 HT hs
    unfold nearS at hs
    simp only at e0 e1 e2 e3 hs
    obtain ⟨⟨_, _⟩, ⟨_, _⟩, ⟨_, _⟩, _, _⟩ := hs
    obtain ⟨m, hm⟩ : ∃ m, areaS (S.take k) = m := ⟨_, rfl⟩
    rw [hm] at hl HT
    rw [hm]
    obtain ⟨hl1, hl2⟩ := hl
    have hl3 : -102400000 ≤ m := by omega
    have hl4 : m ≤ 102400000 := by omega
    clear hx hm hl1 hl2
    have hS7 := Blk.new wr 75 #[.int .i64 x0, .int .i64 x1, .int .i64 x2, .int .i64 x3]
    have fhS7 := hS7.facts
    go_wp2
    go_roundw
    case rel => exact ⟨k + 1, by omega, by go_num, by rw [HT.out]; congr 1; simp only; omega, bl_alloc hbk _⟩
    case measure => simp [intOf]; omega
   ·obtain rfl : k = S.length := by omega
    rw [List.take_length]
    go_wp2
    refine bodyPost_ret (v := .tuple #[.int .i64 (areaS S), .int .i64 0]) (by simp [results, Tryz.results22, go_sem]) rfl ?_
    exact ⟨rfl, bl_then hbk hbw3⟩
 ·have HS : Hid (onlyN (panE p) (areaS (strips p)) = 0) := by unfold Hid onlyN; rw [if_neg hE]
  have t0 : (panE p != 0) = true := by simp [hE]
  rw [HS.out]
  obtain ⟨E, hEE⟩ : ∃ E, panE p = E := ⟨_, rfl⟩
  rw [hEE] at hc t0 ⊢
  obtain ⟨AL, cL, rfl, _, _, _⟩ := hL
  obtain ⟨AR, cR, rfl, _, _, _⟩ := hR
  unfold sV at hc ⊢
  have hP := Blk.new w 30 #[.string ⟨p.1.toArray⟩, .int .i64 p.2.1, .slice AL p.2.2.1.length cL, .slice AR p.2.2.2.length cR]
  have fhP := hP.facts
  clear hE hEE hnm HS
  go_enter Tryz.func22, Tryz.ntmps22
  go_wp2_with fail
  refine (hc _ (by (repeat first|exact J0|assumption|(apply J1;assumption)|apply J2|apply J3|apply J4))).mono ?_
  rintro e w2 ⟨rfl, hb2⟩
  replace hP := hP.below (show Below _ _ w2 by (repeat first|exact J0|assumption|(apply J1;assumption)|apply J2|apply J3|apply J4))
  replace fhP := hP.facts
  go_wp2
  refine bodyPost_ret (v := .tuple #[.int .i64 0, .int .i64 E]) (by simp [results, Tryz.results22, go_sem]) rfl ?_
  exact ⟨rfl, by (repeat first|exact J0|assumption|(apply J1;assumption)|apply J2|apply J3|apply J4)⟩
def zeros8 : Array Value := #[.int .i64 0, .int .i64 0, .int .i64 0, .int .i64 0, .int .i64 0, .int .i64 0, .int .i64 0, .int .i64 0]
def cornR (p : Pan) : Array Value := if panE p = 0 then cornA p else zeros8
theorem apiCorners_any {vL vR : Value} (p : Pan) (w : World) (hnm : p.1.length ≤ 1000000) (hL : SlE w vL p.2.2.1) (hR : SlE w vR p.2.2.2) :
  Calls Tryz.prog 15 #[.agg #[sV p.1, .int .i64 p.2.1, vL, vR]] w (RV w (.tuple #[.agg (cornR p), .int .i64 (panE p)])) := by
 have hc := fun W (hb : Below w.heap.size w W) => checkPanel_any p W hnm (hL.below hb) (hR.below hb)
 by_cases hE : panE p = 0
 ·have hok := panE_zero hE
  have hbd := fun W (hb : Below w.heap.size w W) => corners_any p W (hL.below hb) (hR.below hb) hok
  have HN : Hid (cornR p = cornA p) := by unfold Hid cornR; rw [if_pos hE]
  rw [HN.out]
  rw [hE] at hc ⊢
  obtain ⟨x0, x1, x2, x3, x4, x5, x6, x7, hC⟩ : ∃ x0 x1 x2 x3 x4 x5 x6 x7 : Int, cornA p = #[.int .i64 x0, .int .i64 x1, .int .i64 x2, .int .i64 x3, .int .i64 x4, .int .i64 x5, .int .i64 x6, .int .i64 x7] := ⟨_, _, _, _, _, _, _, _, rfl⟩
  rw [hC] at hbd ⊢
  obtain ⟨AL, cL, rfl, _, _, _⟩ := hL
  obtain ⟨AR, cR, rfl, _, _, _⟩ := hR
  unfold sV at hc hbd ⊢
  have hP := (Blk.new w 30 #[.string ⟨p.1.toArray⟩, .int .i64 p.2.1, .slice AL p.2.2.1.length cL, .slice AR p.2.2.2.length cR]).alloc (.cells zeros8 41)
  have hZ := Blk.new1 w (.cells #[.string ⟨p.1.toArray⟩, .int .i64 p.2.1, .slice AL p.2.2.1.length cL, .slice AR p.2.2.2.length cR] 30) 41 zeros8
  unfold zeros8 at hP hZ
  have fhP := hP.facts
  have fhZ := hZ.facts
  clear hE hnm hC HN
  go_enter Tryz.func15, Tryz.ntmps15
  go_wp2_with fail
  refine (hc _ (by (repeat first|exact J0|assumption|(apply J1;assumption)|apply J2|apply J3|apply J4))).mono ?_
  rintro e w2 ⟨rfl, hb2⟩
  replace hP := hP.below (show Below _ _ w2 by (repeat first|exact J0|assumption|(apply J1;assumption)|apply J2|apply J3|apply J4))
  replace fhP := hP.facts
  replace hZ := hZ.below (show Below _ _ w2 by (repeat first|exact J0|assumption|(apply J1;assumption)|apply J2|apply J3|apply J4))
  replace fhZ := hZ.facts
  go_wp2_with fail
  refine (hbd _ (by (repeat first|exact J0|assumption|(apply J1;assumption)|apply J2|apply J3|apply J4))).mono ?_
  rintro e w3 ⟨rfl, hb3⟩
  replace hP := hP.below (show Below _ _ w3 by (repeat first|exact J0|assumption|(apply J1;assumption)|apply J2|apply J3|apply J4))
  replace fhP := hP.facts
  replace hZ := hZ.below (show Below _ _ w3 by (repeat first|exact J0|assumption|(apply J1;assumption)|apply J2|apply J3|apply J4))
  replace fhZ := hZ.facts
  go_wp2_with (refine wpList_store_blk hZ rfl _ _ _ rfl rfl rfl (by rfl) (by kernel_rfl) (by kernel_rfl) ?_; intro w12 hZ12 hc12; have f12 := hZ12.facts)
  refine bodyPost_ret (v := .tuple #[.agg #[.int .i64 x0, .int .i64 x1, .int .i64 x2, .int .i64 x3, .int .i64 x4, .int .i64 x5, .int .i64 x6, .int .i64 x7], .int .i64 0]) (by simp [results, Tryz.results15, go_sem, f12]) rfl ?_
  exact ⟨rfl, chg_bl (by (repeat first|exact J0|assumption|(apply J1;assumption)|apply J2|apply J3|apply J4)) hc12 (by omega)⟩
 ·have HS : Hid (cornR p = zeros8) := by unfold Hid cornR; rw [if_neg hE]
  have t0 : (panE p != 0) = true := by simp [hE]
  rw [HS.out]
  obtain ⟨E, hEE⟩ : ∃ E, panE p = E := ⟨_, rfl⟩
  rw [hEE] at hc t0 ⊢
  obtain ⟨AL, cL, rfl, _, _, _⟩ := hL
  obtain ⟨AR, cR, rfl, _, _, _⟩ := hR
  unfold sV at hc ⊢
  have hP := (Blk.new w 30 #[.string ⟨p.1.toArray⟩, .int .i64 p.2.1, .slice AL p.2.2.1.length cL, .slice AR p.2.2.2.length cR]).alloc (.cells zeros8 41)
  have hZ := Blk.new1 w (.cells #[.string ⟨p.1.toArray⟩, .int .i64 p.2.1, .slice AL p.2.2.1.length cL, .slice AR p.2.2.2.length cR] 30) 41 zeros8
  unfold zeros8 at hP hZ ⊢
  have fhP := hP.facts
  have fhZ := hZ.facts
  clear hE hEE hnm HS
  go_enter Tryz.func15, Tryz.ntmps15
  go_wp2_with fail
  refine (hc _ (by (repeat first|exact J0|assumption|(apply J1;assumption)|apply J2|apply J3|apply J4))).mono ?_
  rintro e w2 ⟨rfl, hb2⟩
  replace hP := hP.below (show Below _ _ w2 by (repeat first|exact J0|assumption|(apply J1;assumption)|apply J2|apply J3|apply J4))
  replace fhP := hP.facts
  replace hZ := hZ.below (show Below _ _ w2 by (repeat first|exact J0|assumption|(apply J1;assumption)|apply J2|apply J3|apply J4))
  replace fhZ := hZ.facts
  go_wp2_with (refine wpList_store_blk hZ rfl _ _ _ rfl rfl rfl (by rfl) (by kernel_rfl) (by kernel_rfl) ?_; intro w12 hZ12 hc12; have f12 := hZ12.facts)
  refine bodyPost_ret (v := .tuple #[.agg #[.int .i64 0, .int .i64 0, .int .i64 0, .int .i64 0, .int .i64 0, .int .i64 0, .int .i64 0, .int .i64 0], .int .i64 E]) (by simp [results, Tryz.results15, go_sem, f12]) rfl ?_
  exact ⟨rfl, chg_bl (by (repeat first|exact J0|assumption|(apply J1;assumption)|apply J2|apply J3|apply J4)) hc12 (by omega)⟩
theorem putQ_any (B g n y : Nat) (f : Nat → Int × Int) (x : Int) (w : World) (hB : Blk w B 66 #[.slice (some ⟨g, 0, none⟩) n n]) (hg : Blk w g 73 (rowC n f)) (hy : y < n) :
  Calls Tryz.prog 92 #[.int .i64 y, .int .i64 x, .pointer (some ⟨B, 0, none⟩)] w fun e w' => e = .returned (.tuple #[]) ∧ Blk w' g 73 (rowC n (putF f y x false)) ∧ Chg [g] w w' := by
 have fB := hB.facts
 have fg := hg.facts
 obtain ⟨g0, g1⟩ := rowC_get f hy
 have c0 : w.cell? ⟨g, y * 2, none⟩ = some (.int .i64 (f y).1) := by rw [hg.cell, Nat.mul_comm]; exact g0
 have c1 : w.cell? ⟨g, y * 2 + 1, none⟩ = some (.int .i64 (f y).2) := by rw [hg.cell, Nat.mul_comm]; exact g1
 clear g0 g1 fg
 have glt := hg.lt
 have ff := hg.frozen
 go_enter Tryz.func92, Tryz.ntmps92
 refine wp_region_ords [0, 1, 2, 3, 4, 5, 6, 7, 8, 9, 10, 11, 12, 13, 14, 15, 16, 17] [] [18] (by kernel_rfl) (by kernel_rfl) (fun d _ _ _ _ h => by cases d <;> exact h) ?_
 simp only [List.map_cons, List.map_nil, List.getD_cons_zero, List.getD_cons_succ]
 repeat (go_big_quiet_step (fail))
 refine wpQuiet_nil ?_
 refine wpMid_nil ?_
 go_wp2
 go_end0
 refine ⟨rfl, ?_, ((Chg.refl.setIn (p := ⟨g, y * 2, none⟩) (by simp) _).setIn (p := ⟨g, y * 2 + 1, none⟩) (by simp) _).drew⟩
 have h1 := (((hg.set_ (y * 2) (.int .i64 (min (f y).1 x))).set_ (y * 2 + 1) (.int .i64 (max (f y).2 x)))).drew
 rw [show y * 2 = 2 * y by omega, rowC_set] at h1
 rw [show y * 2 = 2 * y by omega]
 exact h1
theorem netErr_zero {p : Pan} (h : netErr p = 0) : panE p = 0 ∧ (netL p).length ≤ 4096 := by
 unfold netErr at h
 split at h
 ·rename_i h1
  refine ⟨h1, ?_⟩
  unfold whenI at h
  split at h
  ·omega
  ·rename_i h2
   simpa using h2
 ·rename_i h1
  exact absurd h h1
theorem apiRows_any {vL vR : Value} (p : Pan) (w : World) (hnm : p.1.length ≤ 1000000) (hL : SlE w vL p.2.2.1) (hR : SlE w vR p.2.2.2) :
  Calls Tryz.prog 32 #[.agg #[sV p.1, .int .i64 p.2.1, vL, vR]] w (RGE kc 2 73 w (onlyOk (netErr p) (rowsL p)) (netErr p)) := by
 have hn := fun W (hb : Below w.heap.size w W) => net_any p W hnm (hL.below hb) (hR.below hb)
 by_cases hE : netErr p = 0
 ·obtain ⟨hE0, hl⟩ := netErr_zero hE
  have hok := panE_zero hE0
  obtain ⟨H, hH⟩ : ∃ H : Nat, heightP p = H := ⟨(heightP p).toNat, by have := hok.high; omega⟩
  have hHb : H ≤ 256 := by have := hok.high; omega
  have hh := fun W (hb : Below w.heap.size w W) => height_any p W (hL.below hb) (hR.below hb) hok.wid' (hok.side false)
  have HM : Hid (∀ b ∈ netL p, ∃ k : Nat, b.2.1 = (k : Int) ∧ k < H ∧ (b.2.2 = -1 ∨ b.2.2 = 1) ∧ -100000 ≤ b.1 ∧ b.1 ≤ 100000) := fun b hb => by
   obtain ⟨k, h1, h2, h3, h4⟩ := netL_mem hok hb
   exact ⟨k, h1, by rw [hH] at h2; simpa using h2, h3, h4⟩
  rw [hH] at hh
  have HR : Hid (onlyOk (netErr p) (rowsL p) = (List.range (H + 1)).map (rowsF (netL p))) := by unfold Hid onlyOk rowsL; rw [if_pos hE, hH]; rfl
  have HN : Hid (onlyOk (netErr p) (netL p) = netL p) := by unfold Hid onlyOk; rw [if_pos hE]
  rw [HN.out, hE] at hn
  rw [HR.out, hE]
  have hmk : ∀ W, (Instr.makeSlice 66 (.int .i64 ((H : Int) + 1)) (.int .i64 ((H : Int) + 1))).run Tryz.prog W = _ := fun W => make_pairs W (H + 1) (by omega)
  obtain ⟨AL, cL, rfl, _, _, _⟩ := hL
  obtain ⟨AR, cR, rfl, _, _, _⟩ := hR
  unfold sV at hn hh ⊢
  obtain ⟨T, hT⟩ : ∃ T, netL p = T := ⟨_, rfl⟩
  rw [hT] at hn hl HM ⊢
  have hP := Blk.new w 30 #[.string ⟨p.1.toArray⟩, .int .i64 p.2.1, .slice AL p.2.2.1.length cL, .slice AR p.2.2.2.length cR]
  have fhP := hP.facts
  clear hE hE0 hnm hT hH HN HR
  go_enter Tryz.func32, Tryz.ntmps32
  go_wp2_with fail
  refine (hn _ (by (repeat first|exact J0|assumption|(apply J1;assumption)|apply J2|apply J3|apply J4))).mono ?_
  rintro e w2 ⟨v2, rfl, hO2, hb2⟩
  replace hP := hP.below (show Below _ _ w2 by (repeat first|exact J0|assumption|(apply J1;assumption)|apply J2|apply J3|apply J4))
  replace fhP := hP.facts
  obtain ⟨A2, c2, rfl⟩ := hO2.shape
  go_wp2_with fail
  refine (hh _ (by (repeat first|exact J0|assumption|(apply J1;assumption)|apply J2|apply J3|apply J4))).mono ?_
  rintro e w3 ⟨rfl, hb3⟩
  replace hP := hP.below (show Below _ _ w3 by (repeat first|exact J0|assumption|(apply J1;assumption)|apply J2|apply J3|apply J4))
  replace fhP := hP.facts
  go_upto_region 5 with fail
  have hO3 := (hO2.below (show Below w2.heap.size w2 w3 by (repeat first|exact J0|assumption|(apply J1;assumption)|apply J2|apply J3|apply J4)))
  have hG := (Blk.new w3 73 (rowC (H + 1) fun _ => (0, 0))).alloc (.cells #[.slice (some ⟨w3.heap.size, 0, none⟩) (H + 1) (H + 1)] 66)
  have hB := Blk.new1 w3 (.cells (rowC (H + 1) fun _ => (0, 0)) 73) 66 #[.slice (some ⟨w3.heap.size, 0, none⟩) (H + 1) (H + 1)]
  have hO4 := (hO3.alloc (.cells (rowC (H + 1) fun _ => (0, 0)) 73)).alloc (.cells #[.slice (some ⟨w3.heap.size, 0, none⟩) (H + 1) (H + 1)] 66)
  obtain ⟨w4, hw4⟩ : ∃ X, (w3.alloc (.cells (rowC (H + 1) fun _ => (0, 0)) 73)).alloc (.cells #[.slice (some ⟨w3.heap.size, 0, none⟩) (H + 1) (H + 1)] 66) = X := ⟨_, rfl⟩
  have hb4 : Below w.heap.size w w4 := by rw [← hw4]; exact bl_alloc (bl_alloc (bl_then hb3 (bl_then hb2 (bl_alloc bl_refl _))) _) _
  have hne : ∀ b off, A2 = some ⟨b, off, none⟩ → b ∉ [w3.heap.size] := by
   intro b off e
   have := (hO3.lt b (by rw [e]; rfl)).2
   simp
   omega
  obtain ⟨g, hg⟩ : ∃ g, w3.heap.size = g := ⟨_, rfl⟩
  have hgw : w.heap.size < g := by rw [← hg]; exact hP.lt
  rw [hw4, hg] at hG hB
  rw [hw4] at hO4
  rw [hg] at hne
  rw [hw4, hg]
  obtain ⟨_, _, he2, hlc2, hcm2, hr4⟩ := hO4.rd bc_len
  obtain ⟨rfl, rfl⟩ : A2 = _ ∧ c2 = _ := by simpa using he2
  clear hw4 hg hb2 hb3 hP fhP hmk he2 hO2 hO3 hO4 hn hh
  have fB := hB.facts
  go_wp2
  go_loopw [25] (fun s wr => ∃ k : Nat, k ≤ H + 1 ∧ s = .int .i64 k ∧ Blk wr g 73 (rowC (H + 1) (initF k)) ∧ Chg [g] w4 wr) (fun s _ => H + 1 - (intOf s).toNat)
  case atStart => exact ⟨0, Nat.zero_le _, rfl, by rw [initF_zero]; exact hG, Chg.refl⟩
  case round =>
   clear hG fB
   obtain ⟨k, hk, rfl, hGk, hck⟩ := hrel
   have hBk := hB.chg hck (by simp)
   have fB := hBk.facts
   by_cases hlt : k < H + 1
   ·have hS := (hGk.set_ (k * 2) (.int .i64 4098)).set_ (k * 2 + 1) (.int .i64 (-4098))
    rw [show k * 2 = 2 * k by omega, rowC_set, initF_set, show 2 * k = k * 2 by omega] at hS
    have hcS : Chg [g] w4 ((wr.setCell ⟨g, k * 2, none⟩ (.int .i64 4098)).setCell ⟨g, k * 2 + 1, none⟩ (.int .i64 (-4098))) := ((hck.setIn (p := ⟨g, k * 2, none⟩) (by simp) _).setIn (p := ⟨g, k * 2 + 1, none⟩) (by simp) _)
    go_upto_region 9 with (refine wpList_store_mid hGk rfl _ _ _ rfl rfl rfl (by rw [rowC_size]; simp; omega) (by kernel_rfl) (by kernel_rfl) ?_)
    simp only [World.setCells, Act.put]
    go_wp2
    go_roundw
    case rel => exact ⟨k + 1, by omega, by go_num, hS, hcS⟩
    case measure => simp [intOf]; omega
   ·obtain rfl : k = H + 1 := by omega
    have hGs : Blk wr g 73 (rowC (H + 1) (rowsF (T.take 0))) := by
     have e : rowC (H + 1) (initF (H + 1)) = rowC (H + 1) (rowsF (T.take 0)) := by
      unfold rowC rowL
      rw [rowC_congr (g := rowsF (T.take 0)) fun z hz => by unfold initF; rw [if_pos hz]; rfl]
     rw [← e]
     exact hGk
    clear hGk
    obtain ⟨wo, rfl⟩ : ∃ x, x = wr := ⟨_, rfl⟩
    rw [show ((H + 1 : Nat) : Int) = (H : Int) + 1 by push_cast; rfl]
    go_wp2
    go_loopw [36] (fun s wr => ∃ k : Nat, k ≤ T.length ∧ s = .int .i64 k ∧ Blk wr g 73 (rowC (H + 1) (rowsF (T.take k))) ∧ Chg [g] w4 wr) (fun s _ => T.length - (intOf s).toNat)
    case atStart => exact ⟨0, Nat.zero_le _, rfl, hGs, hck⟩
    case round =>
     clear hGs hck hBk fB
     obtain ⟨k, hk, rfl, hGk, hck⟩ := hrel
     have hBk := hB.chg hck (by simp)
     by_cases hlt : k < T.length
     ·obtain ⟨t, ht1, ht2, ht3, ht4, ht5⟩ := HM.out _ (List.getElem_mem hlt)
      obtain ⟨b, off, rfl, hb, e0, e1, e2⟩ := (hr4.chgN hck hne).bar hlt
      have HT : Hid (rowsF (T.take (k + 1)) = rowsStep (rowsF (T.take k)) T[k]) := rowsF_snoc hlt
      obtain ⟨⟨x, y, s⟩, hx⟩ : ∃ z, T[k] = z := ⟨_, rfl⟩
      rw [hx] at ht1 ht3 ht4 ht5 e0 e1 e2 HT
      simp only at ht1 ht3 ht4 ht5 e0 e1 e2
      subst ht1
      obtain ⟨F, hF⟩ : ∃ F, rowsF (T.take k) = F := ⟨_, rfl⟩
      rw [hF] at hGk HT
      have hs1 : -1 ≤ s := by omega
      have hs2 : s ≤ 1 := by omega
      have ht1 : ((t : Nat) : Int) + 1 = ((t + 1 : Nat) : Int) := by push_cast; rfl
      have HT1 := Lib.hid ht1
      have hbn : ¬ b = g := by have := hne b off rfl; simpa using this
      clear hx hF ht3 ht1
      obtain ⟨wo2, rfl⟩ : ∃ x, x = wr := ⟨_, rfl⟩
      have hKB := Blk.new wo2 77 #[.int .i64 x, .int .i64 t, .int .i64 s]
      have hcK : Chg [g] w4 (wo2.alloc (.cells #[.int .i64 x, .int .i64 t, .int .i64 s] 77)) := hck.trans (Chg.of_below (bl_alloc bl_refl _))
      have hGK := hGk.alloc (.cells #[.int .i64 x, .int .i64 t, .int .i64 s] 77)
      have hBK := hBk.alloc (.cells #[.int .i64 x, .int .i64 t, .int .i64 s] 77)
      have hgk : ¬ wo2.heap.size = g := by have := hGk.lt; omega
      have fKB := hKB.facts
      go_wp2_with fail
      refine (putQ_any (g + 1) g (H + 1) t F x _ hBK hGK (by omega)).mono ?_
      rintro e w6 ⟨rfl, hG6, hc6⟩
      have hB6 := hBK.chg hc6 (by simp)
      have hK6 := hKB.chg hc6 (by simpa using hgk)
      have fK6 := hK6.facts
      go_wp2_with fail
      rw [HT1.out]
      refine (putQ_any (g + 1) g (H + 1) (t + 1) _ (x + s) _ hB6 hG6 (by omega)).mono ?_
      rintro e w7 ⟨rfl, hG7, hc7⟩
      go_wp2
      go_roundw
      case rel => exact ⟨k + 1, by omega, by go_num, by rw [HT.out]; exact hG7, (hcK.trans hc6).trans hc7⟩
      case measure => simp [intOf]; omega
     ·obtain rfl : k = T.length := by omega
      rw [List.take_length] at hGk
      have fB := hBk.facts
      have hbw : Below w.heap.size w wr := chg_bl hb4 hck (by omega)
      go_wp2
      refine bodyPost_ret (v := .tuple #[.slice (some ⟨g, 0, none⟩) (H + 1) (H + 1), .int .i64 0]) (by simp [results, Tryz.results32, go_sem]) rfl ?_
      exact ⟨_, rfl, hGk.row kc_len (by omega) (by omega), hbw⟩
 ·have HS : Hid (onlyOk (netErr p) (netL p) = [] ∧ onlyOk (netErr p) (rowsL p) = []) := by unfold Hid onlyOk; rw [if_neg hE, if_neg hE]; exact ⟨rfl, rfl⟩
  have t0 : (netErr p != 0) = true := by simp [hE]
  rw [HS.out.2]
  rw [HS.out.1] at hn
  obtain ⟨E, hEE⟩ : ∃ E, netErr p = E := ⟨_, rfl⟩
  rw [hEE] at hn t0 ⊢
  obtain ⟨AL, cL, rfl, _, _, _⟩ := hL
  obtain ⟨AR, cR, rfl, _, _, _⟩ := hR
  unfold sV at hn ⊢
  have hP := Blk.new w 30 #[.string ⟨p.1.toArray⟩, .int .i64 p.2.1, .slice AL p.2.2.1.length cL, .slice AR p.2.2.2.length cR]
  have fhP := hP.facts
  clear hE hEE hnm HS
  go_enter Tryz.func32, Tryz.ntmps32
  go_wp2_with fail
  refine (hn _ (by (repeat first|exact J0|assumption|(apply J1;assumption)|apply J2|apply J3|apply J4))).mono ?_
  rintro e w2 ⟨v2, rfl, hO2, hb2⟩
  replace hP := hP.below (show Below _ _ w2 by (repeat first|exact J0|assumption|(apply J1;assumption)|apply J2|apply J3|apply J4))
  replace fhP := hP.facts
  go_wp2
  refine bodyPost_ret (v := .tuple #[.slice none 0 0, .int .i64 E]) (by simp [results, Tryz.results32, go_sem]) rfl ?_
  exact ⟨_, rfl, Own.nil_, by (repeat first|exact J0|assumption|(apply J1;assumption)|apply J2|apply J3|apply J4)⟩
end Go.Proofs.YtkkefahobjlagaaGreatDoor

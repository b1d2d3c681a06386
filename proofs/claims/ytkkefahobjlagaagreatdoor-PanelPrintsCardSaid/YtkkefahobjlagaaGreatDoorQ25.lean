/- Panels handed back: checked, Around, Widen, walked. Conditions: none. -/
import Derived.Test.YtkkefahobjlagaaGreatDoorQ24
namespace Go.Proofs.YtkkefahobjlagaaGreatDoor
open Go.RowKit Go.ChangeMaps
set_option maxHeartbeats 4000000
set_option maxRecDepth 100000
attribute [local go_sem] Oper.semAt_some
def panZ : Pan := ([], 0, [], [])
def pcE (e : Int) (q : Pan) : Int := if e ≠ 0 then e else panE q
def pcR (e : Int) (q : Pan) : Pan := if pcE e q = 0 then q else panZ
def RPN (w : World) (q : Pan) (n : Int) (e : Ending) (w' : World) : Prop :=
 ∃ vL vR, e = .returned (.tuple #[.agg #[sV q.1, .int .i64 q.2.1, vL, vR], .int .i64 n]) ∧ Own ec 3 w.heap.size 107 w' vL q.2.2.1 ∧ Own ec 3 w.heap.size 107 w' vR q.2.2.2 ∧ Below w.heap.size w w'
def zeroPV : Array Value := #[.string ⟨#[]⟩, .int .i64 0, .slice none 0 0, .slice none 0 0]
def chkV (q : Pan) (vL vR : Value) : Array Value := if panE q = 0 then #[sV q.1, .int .i64 q.2.1, vL, vR] else zeroPV
theorem checked_any {vL vR : Value} (q : Pan) (w : World) (hnm : q.1.length ≤ 1000000) (hL : SlE w vL q.2.2.1) (hR : SlE w vR q.2.2.2) :
  Calls Tryz.prog 68 #[.agg #[sV q.1, .int .i64 q.2.1, vL, vR]] w (RV w (.tuple #[.agg (chkV q vL vR), .int .i64 (panE q)])) := by
 have hc := fun W (hb : Below w.heap.size w W) => checkPanel_any q W hnm (hL.below hb) (hR.below hb)
 obtain ⟨AL, cL, rfl, _, _, _⟩ := hL
 obtain ⟨AR, cR, rfl, _, _, _⟩ := hR
 by_cases hE : panE q = 0
 ·have HN : Hid (chkV q (.slice AL q.2.2.1.length cL) (.slice AR q.2.2.2.length cR) = #[sV q.1, .int .i64 q.2.1, .slice AL q.2.2.1.length cL, .slice AR q.2.2.2.length cR]) := by unfold Hid chkV; rw [if_pos hE]
  rw [HN.out]
  rw [hE] at hc ⊢
  unfold sV at hc ⊢
  have hP := (Blk.new w 30 #[.string ⟨q.1.toArray⟩, .int .i64 q.2.1, .slice AL q.2.2.1.length cL, .slice AR q.2.2.2.length cR]).alloc (.cells zeroPV 30)
  have hZ := Blk.new1 w (.cells #[.string ⟨q.1.toArray⟩, .int .i64 q.2.1, .slice AL q.2.2.1.length cL, .slice AR q.2.2.2.length cR] 30) 30 zeroPV
  unfold zeroPV at hP hZ
  have fhP := hP.facts
  have fhZ := hZ.facts
  clear hE hnm HN
  go_enter Tryz.func68, Tryz.ntmps68
  go_wp2_with fail
  refine (hc _ (by (repeat first|exact J0|assumption|(apply J1;assumption)|apply J2|apply J3|apply J4))).mono ?_
  rintro e w2 ⟨rfl, hb2⟩
  replace hP := hP.below (show Below _ _ w2 by (repeat first|exact J0|assumption|(apply J1;assumption)|apply J2|apply J3|apply J4))
  replace fhP := hP.facts
  replace hZ := hZ.below (show Below _ _ w2 by (repeat first|exact J0|assumption|(apply J1;assumption)|apply J2|apply J3|apply J4))
  replace fhZ := hZ.facts
  go_wp2_with (refine wpList_store_blk hZ rfl _ _ _ rfl rfl rfl (by rfl) (by kernel_rfl) (by kernel_rfl) ?_; intro w12 hZ12 hc12; have f12 := hZ12.facts)
  refine bodyPost_ret (v := .tuple #[.agg #[.string ⟨q.1.toArray⟩, .int .i64 q.2.1, .slice AL q.2.2.1.length cL, .slice AR q.2.2.2.length cR], .int .i64 0]) (by simp [results, Tryz.results68, go_sem, f12]) rfl ?_
  exact ⟨rfl, chg_bl (by (repeat first|exact J0|assumption|(apply J1;assumption)|apply J2|apply J3|apply J4)) hc12 (by omega)⟩
 ·have HN : Hid (chkV q (.slice AL q.2.2.1.length cL) (.slice AR q.2.2.2.length cR) = zeroPV) := by unfold Hid chkV; rw [if_neg hE]
  rw [HN.out]
  have t0 : (panE q != 0) = true := by simp [hE]
  obtain ⟨E, hEE⟩ : ∃ E, panE q = E := ⟨_, rfl⟩
  rw [hEE] at hc t0 ⊢
  unfold sV at hc
  unfold sV
  have hP := (Blk.new w 30 #[.string ⟨q.1.toArray⟩, .int .i64 q.2.1, .slice AL q.2.2.1.length cL, .slice AR q.2.2.2.length cR]).alloc (.cells zeroPV 30)
  have hZ := Blk.new1 w (.cells #[.string ⟨q.1.toArray⟩, .int .i64 q.2.1, .slice AL q.2.2.1.length cL, .slice AR q.2.2.2.length cR] 30) 30 zeroPV
  unfold zeroPV at hP hZ ⊢
  have fhP := hP.facts
  have fhZ := hZ.facts
  clear hE hEE hnm HN
  go_enter Tryz.func68, Tryz.ntmps68
  go_wp2_with fail
  refine (hc _ (by (repeat first|exact J0|assumption|(apply J1;assumption)|apply J2|apply J3|apply J4))).mono ?_
  rintro e w2 ⟨rfl, hb2⟩
  replace hP := hP.below (show Below _ _ w2 by (repeat first|exact J0|assumption|(apply J1;assumption)|apply J2|apply J3|apply J4))
  replace fhP := hP.facts
  replace hZ := hZ.below (show Below _ _ w2 by (repeat first|exact J0|assumption|(apply J1;assumption)|apply J2|apply J3|apply J4))
  replace fhZ := hZ.facts
  go_wp2_with (refine wpList_store_blk hZ rfl _ _ _ rfl rfl rfl (by rfl) (by kernel_rfl) (by kernel_rfl) ?_; intro w12 hZ12 hc12; have f12 := hZ12.facts)
  refine bodyPost_ret (v := .tuple #[.agg #[.string ⟨#[]⟩, .int .i64 0, .slice none 0 0, .slice none 0 0], .int .i64 E]) (by simp [results, Tryz.results68, go_sem, f12]) rfl ?_
  exact ⟨rfl, chg_bl (by (repeat first|exact J0|assumption|(apply J1;assumption)|apply J2|apply J3|apply J4)) hc12 (by omega)⟩
theorem checked_own {vL vR : Value} {base : Nat} (q : Pan) (W w' : World) (hL : Own ec 3 base 107 W vL q.2.2.1) (hR : Own ec 3 base 107 W vR q.2.2.2) (hb : Below W.heap.size W w') :
  ∃ A1 c1 A2 c2, chkV q vL vR = #[.string ⟨(pcR 0 q).1.toArray⟩, .int .i64 (pcR 0 q).2.1, .slice A1 (pcR 0 q).2.2.1.length c1, .slice A2 (pcR 0 q).2.2.2.length c2] ∧ Own ec 3 base 107 w' (.slice A1 (pcR 0 q).2.2.1.length c1) (pcR 0 q).2.2.1 ∧ Own ec 3 base 107 w' (.slice A2 (pcR 0 q).2.2.2.length c2) (pcR 0 q).2.2.2 := by
 have e : pcE 0 q = panE q := by unfold pcE; rw [if_neg (by simp)]
 obtain ⟨A1, c1, rfl⟩ := hL.shape
 obtain ⟨A2, c2, rfl⟩ := hR.shape
 unfold chkV pcR
 rw [e]
 by_cases h : panE q = 0
 ·rw [if_pos h, if_pos h]
  exact ⟨_, _, _, _, rfl, hL.below hb, hR.below hb⟩
 ·rw [if_neg h, if_neg h]
  exact ⟨none, 0, none, 0, rfl, Own.nil_, Own.nil_⟩
def frmR (p : Pan) : Array Value := if panE p = 0 then frmA p else #[.int .i64 0, .int .i64 0, .int .i64 0, .int .i64 0]
theorem apiAround_any {vL vR : Value} (p : Pan) (w : World) (hnm : p.1.length ≤ 1000000) (hL : SlE w vL p.2.2.1) (hR : SlE w vR p.2.2.2) :
  Calls Tryz.prog 45 #[.agg #[sV p.1, .int .i64 p.2.1, vL, vR]] w (RV w (.tuple #[.agg (frmR p), .int .i64 (panE p)])) := by
 have hc := fun W (hb : Below w.heap.size w W) => checkPanel_any p W hnm (hL.below hb) (hR.below hb)
 by_cases hE : panE p = 0
 ·have hok := panE_zero hE
  have hbd := fun W (hb : Below w.heap.size w W) => around_any p W (hL.below hb) (hR.below hb) hok
  have HN : Hid (frmR p = frmA p) := by unfold Hid frmR; rw [if_pos hE]
  rw [HN.out]
  rw [hE] at hc ⊢
  obtain ⟨x0, x1, x2, x3, hC⟩ : ∃ x0 x1 x2 x3 : Int, frmA p = #[.int .i64 x0, .int .i64 x1, .int .i64 x2, .int .i64 x3] := ⟨_, _, _, _, rfl⟩
  rw [hC] at hbd ⊢
  obtain ⟨AL, cL, rfl, _, _, _⟩ := hL
  obtain ⟨AR, cR, rfl, _, _, _⟩ := hR
  unfold sV at hc hbd ⊢
  have hP := (Blk.new w 30 #[.string ⟨p.1.toArray⟩, .int .i64 p.2.1, .slice AL p.2.2.1.length cL, .slice AR p.2.2.2.length cR]).alloc (.cells #[.int .i64 0, .int .i64 0, .int .i64 0, .int .i64 0] 98)
  have hZ := Blk.new1 w (.cells #[.string ⟨p.1.toArray⟩, .int .i64 p.2.1, .slice AL p.2.2.1.length cL, .slice AR p.2.2.2.length cR] 30) 98 #[.int .i64 0, .int .i64 0, .int .i64 0, .int .i64 0]
  have fhP := hP.facts
  have fhZ := hZ.facts
  clear hE hnm hC HN
  go_enter Tryz.func45, Tryz.ntmps45
  go_wp2_with fail
  refine (hc _ (by (repeat first|exact J0|assumption|(apply J1;assumption)|apply J2|apply J3|apply J4))).mono ?_
  rintro e w2 ⟨rfl, hb2⟩
  replace hP := hP.below (show Below _ _ w2 by (repeat first|exact J0|assumption|(apply J1;assumption)|apply J2|apply J3|apply J4))
  replace fhP := hP.facts
  replace hZ := hZ.below (show Below _ _ w2 by (repeat first|exact J0|assumption|(apply J1;assumption)|apply J2|apply J3|apply J4))
  replace fhZ := hZ.facts
  go_wp2_with fail
  refine (hbd _ (by (repeat first|exact J0|assumption|(apply J1;assumption)|apply J2|apply J3|apply J4))).mono ?_
  rintro e w3 ⟨rfl, hb3⟩
  replace hP := hP.below (show Below _ _ w3 by (repeat first|exact J0|assumption|(apply J1;assumption)|apply J2|apply J3|apply J4))
  replace fhP := hP.facts
  replace hZ := hZ.below (show Below _ _ w3 by (repeat first|exact J0|assumption|(apply J1;assumption)|apply J2|apply J3|apply J4))
  replace fhZ := hZ.facts
  go_wp2_with (refine wpList_store_blk hZ rfl _ _ _ rfl rfl rfl (by rfl) (by kernel_rfl) (by kernel_rfl) ?_; intro w12 hZ12 hc12; have f12 := hZ12.facts)
  refine bodyPost_ret (v := .tuple #[.agg #[.int .i64 x0, .int .i64 x1, .int .i64 x2, .int .i64 x3], .int .i64 0]) (by simp [results, Tryz.results45, go_sem, f12]) rfl ?_
  exact ⟨rfl, chg_bl (by (repeat first|exact J0|assumption|(apply J1;assumption)|apply J2|apply J3|apply J4)) hc12 (by omega)⟩
 ·have HS : Hid (frmR p = #[.int .i64 0, .int .i64 0, .int .i64 0, .int .i64 0]) := by unfold Hid frmR; rw [if_neg hE]
  have t0 : (panE p != 0) = true := by simp [hE]
  rw [HS.out]
  obtain ⟨E, hEE⟩ : ∃ E, panE p = E := ⟨_, rfl⟩
  rw [hEE] at hc t0 ⊢
  obtain ⟨AL, cL, rfl, _, _, _⟩ := hL
  obtain ⟨AR, cR, rfl, _, _, _⟩ := hR
  unfold sV at hc ⊢
  have hP := (Blk.new w 30 #[.string ⟨p.1.toArray⟩, .int .i64 p.2.1, .slice AL p.2.2.1.length cL, .slice AR p.2.2.2.length cR]).alloc (.cells #[.int .i64 0, .int .i64 0, .int .i64 0, .int .i64 0] 98)
  have hZ := Blk.new1 w (.cells #[.string ⟨p.1.toArray⟩, .int .i64 p.2.1, .slice AL p.2.2.1.length cL, .slice AR p.2.2.2.length cR] 30) 98 #[.int .i64 0, .int .i64 0, .int .i64 0, .int .i64 0]
  have fhP := hP.facts
  have fhZ := hZ.facts
  clear hE hEE hnm HS
  go_enter Tryz.func45, Tryz.ntmps45
  go_wp2_with fail
  refine (hc _ (by (repeat first|exact J0|assumption|(apply J1;assumption)|apply J2|apply J3|apply J4))).mono ?_
  rintro e w2 ⟨rfl, hb2⟩
  replace hP := hP.below (show Below _ _ w2 by (repeat first|exact J0|assumption|(apply J1;assumption)|apply J2|apply J3|apply J4))
  replace fhP := hP.facts
  replace hZ := hZ.below (show Below _ _ w2 by (repeat first|exact J0|assumption|(apply J1;assumption)|apply J2|apply J3|apply J4))
  replace fhZ := hZ.facts
  go_wp2_with (refine wpList_store_blk hZ rfl _ _ _ rfl rfl rfl (by rfl) (by kernel_rfl) (by kernel_rfl) ?_; intro w12 hZ12 hc12; have f12 := hZ12.facts)
  refine bodyPost_ret (v := .tuple #[.agg #[.int .i64 0, .int .i64 0, .int .i64 0, .int .i64 0], .int .i64 E]) (by simp [results, Tryz.results45, go_sem, f12]) rfl ?_
  exact ⟨rfl, chg_bl (by (repeat first|exact J0|assumption|(apply J1;assumption)|apply J2|apply J3|apply J4)) hc12 (by omega)⟩
def widQ (p : Pan) (d : Int) : Pan := (p.1, p.2.1 + d, p.2.2.1, p.2.2.2)
def widE (p : Pan) (d : Int) : Int := firstI [panE p, withinI d (-128) 128]
theorem widE_zero {p : Pan} {d : Int} (h : widE p d = 0) : panE p = 0 ∧ -128 ≤ d ∧ d ≤ 128 := by
 obtain ⟨h1, h2⟩ := firstI_zero h
 refine ⟨h1, ?_⟩
 unfold withinI whenI at h2
 split at h2
 ·omega
 ·rename_i q
  simp only [decide_eq_true_eq, Bool.or_eq_true, not_or] at q
  omega
theorem apiWiden_any {vL vR : Value} (p : Pan) (d : Int) (w : World) (hnm : p.1.length ≤ 1000000) (hL : SlE w vL p.2.2.1) (hR : SlE w vR p.2.2.2) :
    Calls Tryz.prog 51 #[.agg #[sV p.1, .int .i64 p.2.1, vL, vR], .int .i64 d] w (RPN w (pcR (widE p d) (widQ p d)) (pcE (widE p d) (widQ p d))) := by
  have hc := fun W (hb : Below w.heap.size w W) => checkPanel_any p W hnm (hL.below hb) (hR.below hb)
  have hf2 : ∀ A c' W, Rd ic 1 W A [panE p, withinI d (-128) 128] → Calls Tryz.prog 72 #[.slice A 2 c'] W (RV W (.int .i64 (widE p d))) := fun A c' W hr => pfirst_any [panE p, withinI d (-128) 128] A c' W (by simp [maxLen]) hr
  by_cases hE : widE p d = 0
  · obtain ⟨hE0, hd1, hd2⟩ := widE_zero hE
    have hok := panE_zero hE0
    have hw1 := hok.wid
    have ll := hok.left.few
    have lr := hok.right.few
    have cl := fun W (hb : Below w.heap.size w W) => cloneE_any p.2.2.1 W (hL.below hb) (by omega)
    have cr := fun W (hb : Below w.heap.size w W) => cloneE_any p.2.2.2 W (hR.below hb) (by omega)
    have HQ : Hid (pcR (widE p d) (widQ p d) = pcR 0 (widQ p d) ∧ pcE (widE p d) (widQ p d) = panE (widQ p d)) := by unfold Hid; rw [hE]; exact ⟨rfl, by unfold pcE; rw [if_neg (by simp)]⟩
    rw [HQ.out.1, HQ.out.2]
    rw [hE] at hf2
    have hch := fun W vl vr hl hr => checked_any (vL := vl) (vR := vr) (widQ p d) W hnm hl hr
    obtain ⟨E, hEE⟩ : ∃ E, panE p = E := ⟨_, rfl⟩
    rw [hEE] at hc hf2
    obtain ⟨AL, cL, rfl, _, _, _⟩ := hL
    obtain ⟨AR, cR, rfl, _, _, _⟩ := hR
    have HCH := Lib.hid hch
    obtain ⟨EQ, hEQ⟩ : ∃ E, panE (widQ p d) = E := ⟨_, rfl⟩
    rw [hEQ] at HCH ⊢
    have hs : sV p.1 = .string ⟨p.1.toArray⟩ := rfl
    rw [hs] at hc
    rw [hs]
    have hP := (Blk.new w 30 #[.string ⟨p.1.toArray⟩, .int .i64 p.2.1, .slice AL p.2.2.1.length cL, .slice AR p.2.2.2.length cR]).alloc (.cells zeroPV 30)
    have hZ := Blk.new1 w (.cells #[.string ⟨p.1.toArray⟩, .int .i64 p.2.1, .slice AL p.2.2.1.length cL, .slice AR p.2.2.2.length cR] 30) 30 zeroPV
    unfold zeroPV at hP hZ
    have fhP := hP.facts
    have fhZ := hZ.facts
    clear hE hE0 hEE hEQ hnm hch hs HQ
    go_enter Tryz.func51, Tryz.ntmps51
    go_wp2_with fail
    refine (hc _ (by (repeat first|exact J0|assumption|(apply J1;assumption)|apply J2|apply J3|apply J4))).mono ?_
    rintro e w2 ⟨rfl, hb2⟩
    replace hP := hP.below (show Below _ _ w2 by (repeat first|exact J0|assumption|(apply J1;assumption)|apply J2|apply J3|apply J4))
    replace fhP := hP.facts
    replace hZ := hZ.below (show Below _ _ w2 by (repeat first|exact J0|assumption|(apply J1;assumption)|apply J2|apply J3|apply J4))
    replace fhZ := hZ.facts
    go_wp2_with fail
    refine (pwithin_any d (-128) 128 _).mono ?_
    rintro e w3 ⟨rfl, hb3⟩
    replace hP := hP.below (show Below _ _ w3 by (repeat first|exact J0|assumption|(apply J1;assumption)|apply J2|apply J3|apply J4))
    replace fhP := hP.facts
    replace hZ := hZ.below (show Below _ _ w3 by (repeat first|exact J0|assumption|(apply J1;assumption)|apply J2|apply J3|apply J4))
    replace fhZ := hZ.facts
    go_wp2_with fail
    go_must (refine (hf2 _ _ _ (Rd.ints2 (by simp) (by go_simp) (by go_simp))).mono ?_)
    rintro e w4 ⟨rfl, hb4⟩
    have hb34 : Below w3.heap.size w3 w4 := by (repeat first|exact J0|assumption|(apply J1;assumption)|apply J2|apply J3|apply J4)
    replace hP := hP.below hb34
    replace hZ := hZ.below hb34
    have hbw4 : Below w.heap.size w w4 := by (repeat first|exact J0|assumption|(apply J1;assumption)|apply J2|apply J3|apply J4)
    replace fhP := hP.facts
    replace fhZ := hZ.facts
    clear hc hf2 hb34 hb2 hb3 hb4
    go_upto_region 4 with fail
    refine wp_region_ords [0, 1, 2, 3, 4, 5, 6, 7, 9, 10] [(8, false), (11, false), (12, false), (13, false), (14, true), (15, false)] [16, 17] (by kernel_rfl) (by kernel_rfl) (fun d _ _ _ _ h => by cases d <;> exact h) ?_
    simp only [List.map_cons, List.map_nil, List.getD_cons_zero, List.getD_cons_succ]
    repeat (go_big_quiet_step (fail))
    refine wpQuiet_nil ?_
    refine wpMid_run rfl (fun K hK => ?_)
    go_simp
    refine (cl _ (by (repeat first|exact J0|assumption|(apply J1;assumption)|apply J2|apply J3|apply J4))).mono ?_
    rintro e w5 ⟨v5, rfl, hO5, hb5⟩
    refine hK _ _ (by (repeat first|exact J0|assumption|(apply J1;assumption)|apply J2|apply J3|apply J4)) ?_
    clear hK K
    have hP_w5 := hP.below (show Below _ _ w5 by (repeat first|exact J0|assumption|(apply J1;assumption)|apply J2|apply J3|apply J4))
    have fhP_w5 := hP_w5.facts
    have hZ_w5 := hZ.below (show Below _ _ w5 by (repeat first|exact J0|assumption|(apply J1;assumption)|apply J2|apply J3|apply J4))
    have fhZ_w5 := hZ_w5.facts
    obtain ⟨A5, c5, rfl⟩ := hO5.shape
    refine wpMid_run rfl (fun K hK => ?_)
    go_simp
    refine (cr _ (by (repeat first|exact J0|assumption|(apply J1;assumption)|apply J2|apply J3|apply J4))).mono ?_
    rintro e w6 ⟨v6, rfl, hO6, hb6⟩
    refine hK _ _ (by (repeat first|exact J0|assumption|(apply J1;assumption)|apply J2|apply J3|apply J4)) ?_
    clear hK K
    have hP_w6 := hP.below (show Below _ _ w6 by (repeat first|exact J0|assumption|(apply J1;assumption)|apply J2|apply J3|apply J4))
    have fhP_w6 := hP_w6.facts
    have hZ_w6 := hZ.below (show Below _ _ w6 by (repeat first|exact J0|assumption|(apply J1;assumption)|apply J2|apply J3|apply J4))
    have fhZ_w6 := hZ_w6.facts
    obtain ⟨A6, c6, rfl⟩ := hO6.shape
    refine wpMid_run rfl (fun K hK => ?_)
    go_simp
    refine hK _ _ (by (repeat first|exact J0|assumption|(apply J1;assumption)|apply J2|apply J3|apply J4)) ?_
    clear hK K
    refine wpMid_run rfl (fun K hK => ?_)
    go_simp
    refine (HCH.out _ _ _ ((hO5.rd ec_len).below (by (repeat first|exact J0|assumption|(apply J1;assumption)|apply J2|apply J3|apply J4))) (hO6.rd ec_len)).mono ?_
    rintro e w7 ⟨rfl, hb7⟩
    refine hK _ _ (by (repeat first|exact J0|assumption|(apply J1;assumption)|apply J2|apply J3|apply J4)) ?_
    clear hK K
    have hP_w7 := hP.below (show Below _ _ w7 by (repeat first|exact J0|assumption|(apply J1;assumption)|apply J2|apply J3|apply J4))
    have fhP_w7 := hP_w7.facts
    have hZ_w7 := hZ.below (show Below _ _ w7 by (repeat first|exact J0|assumption|(apply J1;assumption)|apply J2|apply J3|apply J4))
    have fhZ_w7 := hZ_w7.facts
    obtain ⟨A7, c7, A77, c77, hcv, hu1, hu2⟩ := checked_own (widQ p d) w6 w7 ((hO5.below (show Below w5.heap.size w5 w6 by (repeat first|exact J0|assumption|(apply J1;assumption)|apply J2|apply J3|apply J4))).base_mono (show w4.heap.size ≤ _ by exact Below.size (by (repeat first|exact J0|assumption|(apply J1;assumption)|apply J2|apply J3|apply J4)))) (hO6.base_mono (show w4.heap.size ≤ _ by exact Below.size (by (repeat first|exact J0|assumption|(apply J1;assumption)|apply J2|apply J3|apply J4)))) hb7
    rw [hcv]
    refine wpMid_take rfl ?_
    intro K hK
    go_big_quiet_op
    go_big_quiet_on
    refine wpMid_run rfl (fun K hK => ?_)
    go_simp
    refine hK _ _ (by (repeat first|exact J0|assumption|(apply J1;assumption)|apply J2|apply J3|apply J4)) ?_
    clear hK K
    refine wpMid_nil ?_
    obtain ⟨Q, hQ⟩ : ∃ Q, pcR 0 (widQ p d) = Q := ⟨_, rfl⟩
    rw [hQ] at hu1 hu2 ⊢
    have HQQ := Lib.hid hQ
    clear hQ
    have hbb : Below w4.heap.size w4 w7 := by (repeat first|exact J0|assumption|(apply J1;assumption)|apply J2|apply J3|apply J4)
    go_wp2_with (refine wpList_store_blk hZ_w7 rfl _ _ _ rfl rfl rfl (by rfl) (by kernel_rfl) (by kernel_rfl) ?_; intro w12 hZ12 hc12; have f12 := hZ12.facts)
    refine bodyPost_ret (v := .tuple #[.agg #[.string ⟨Q.1.toArray⟩, .int .i64 Q.2.1, .slice A7 Q.2.2.1.length c7, .slice A77 Q.2.2.2.length c77], .int .i64 EQ]) (by simp [results, Tryz.results51, go_sem, f12]) rfl ?_
    have hz1 : w.heap.size + 1 < w4.heap.size := hZ.lt
    obtain rfl := HQQ.out
    exact ⟨_, _, rfl, (hu1.chg hc12 (by simp; omega)).base_mono hbw4.size, (hu2.chg hc12 (by simp; omega)).base_mono hbw4.size, chg_bl (bl_then hbb hbw4) hc12 (by omega)⟩
  · have HQ : Hid (pcR (widE p d) (widQ p d) = panZ ∧ pcE (widE p d) (widQ p d) = widE p d) := by
      have e : pcE (widE p d) (widQ p d) = widE p d := by unfold pcE; rw [if_pos hE]
      exact ⟨by unfold pcR; rw [e, if_neg hE], e⟩
    rw [HQ.out.1, HQ.out.2]
    have t0 : (widE p d != 0) = true := by simp [hE]
    obtain ⟨EW, hEW⟩ : ∃ E, widE p d = E := ⟨_, rfl⟩
    rw [hEW] at hf2 t0 ⊢
    obtain ⟨E, hEE⟩ : ∃ E, panE p = E := ⟨_, rfl⟩
    rw [hEE] at hc hf2
    obtain ⟨AL, cL, rfl, _, _, _⟩ := hL
    obtain ⟨AR, cR, rfl, _, _, _⟩ := hR
    have hs : sV p.1 = .string ⟨p.1.toArray⟩ := rfl
    rw [hs] at hc
    rw [hs]
    have hP := (Blk.new w 30 #[.string ⟨p.1.toArray⟩, .int .i64 p.2.1, .slice AL p.2.2.1.length cL, .slice AR p.2.2.2.length cR]).alloc (.cells zeroPV 30)
    have hZ := Blk.new1 w (.cells #[.string ⟨p.1.toArray⟩, .int .i64 p.2.1, .slice AL p.2.2.1.length cL, .slice AR p.2.2.2.length cR] 30) 30 zeroPV
    unfold zeroPV at hP hZ
    have fhP := hP.facts
    have fhZ := hZ.facts
    clear hE hEE hEW hnm hs HQ
    go_enter Tryz.func51, Tryz.ntmps51
    go_wp2_with fail
    refine (hc _ (by (repeat first|exact J0|assumption|(apply J1;assumption)|apply J2|apply J3|apply J4))).mono ?_
    rintro e w2 ⟨rfl, hb2⟩
    replace hP := hP.below (show Below _ _ w2 by (repeat first|exact J0|assumption|(apply J1;assumption)|apply J2|apply J3|apply J4))
    replace fhP := hP.facts
    replace hZ := hZ.below (show Below _ _ w2 by (repeat first|exact J0|assumption|(apply J1;assumption)|apply J2|apply J3|apply J4))
    replace fhZ := hZ.facts
    go_wp2_with fail
    refine (pwithin_any d (-128) 128 _).mono ?_
    rintro e w3 ⟨rfl, hb3⟩
    replace hP := hP.below (show Below _ _ w3 by (repeat first|exact J0|assumption|(apply J1;assumption)|apply J2|apply J3|apply J4))
    replace fhP := hP.facts
    replace hZ := hZ.below (show Below _ _ w3 by (repeat first|exact J0|assumption|(apply J1;assumption)|apply J2|apply J3|apply J4))
    replace fhZ := hZ.facts
    go_wp2_with fail
    go_must (refine (hf2 _ _ _ (Rd.ints2 (by simp) (by go_simp) (by go_simp))).mono ?_)
    rintro e w4 ⟨rfl, hb4⟩
    have hZ4 := hZ.below (show Below w3.heap.size w3 w4 by (repeat first|exact J0|assumption|(apply J1;assumption)|apply J2|apply J3|apply J4))
    have fZ4 := hZ4.facts
    have hbw4 : Below w.heap.size w w4 := by (repeat first|exact J0|assumption|(apply J1;assumption)|apply J2|apply J3|apply J4)
    go_wp2_with (refine wpList_store_blk hZ4 rfl _ _ _ rfl rfl rfl (by rfl) (by kernel_rfl) (by kernel_rfl) ?_; intro w12 hZ12 hc12; have f12 := hZ12.facts)
    refine bodyPost_ret (v := .tuple #[.agg #[.string ⟨#[]⟩, .int .i64 0, .slice none 0 0, .slice none 0 0], .int .i64 EW]) (by simp [results, Tryz.results51, go_sem, f12]) rfl ?_
    exact ⟨_, _, rfl, Own.nil_, Own.nil_, chg_bl hbw4 hc12 (by omega)⟩
def topX (p : Pan) (right : Bool) : Int := (posK right (fromP p right) (stpL (sideP p right))).1
def turQ (p : Pan) : Pan := (p.1, (topX p true - topX p false).tdiv 2, oppL p.2.2.2, oppL p.2.2.1)
theorem topX_near {p : Pan} (h : PanOk p) (right : Bool) : -100000 ≤ topX p right ∧ topX p right ≤ 100000 := by
 have hl := out_last p right
 have ha := h.asc right
 obtain ⟨hi, he⟩ := List.getElem?_eq_some_iff.1 hl
 have := ha.near _ hi
 rw [he] at this
 exact ⟨this.1, this.2.1⟩
theorem edg_len {l : List Edg} (h : SideOk l) : ∀ e ∈ l, e.1.length ≤ 1000 := fun e he => by
 have := (edgE_zero (h.ok e he)).2.1
 omega
theorem apiTurn_any {vL vR : Value} (p : Pan) (w : World) (hnm : p.1.length ≤ 1000000) (hL : SlE w vL p.2.2.1) (hR : SlE w vR p.2.2.2) :
    Calls Tryz.prog 26 #[.agg #[sV p.1, .int .i64 p.2.1, vL, vR]] w (RPN w (pcR (panE p) (turQ p)) (pcE (panE p) (turQ p))) := by
  have hc := fun W (hb : Below w.heap.size w W) => checkPanel_any p W hnm (hL.below hb) (hR.below hb)
  by_cases hE : panE p = 0
  · have hok := panE_zero hE
    have ll := hok.left.few
    have lr := hok.right.few
    have hcn := fun W (hb : Below w.heap.size w W) => corners_any p W (hL.below hb) (hR.below hb) hok
    have cl := fun W (hb : Below w.heap.size w W) => opposite_any p.2.2.2 W (hR.below hb) (by omega) (edg_len hok.right)
    have cr := fun W (hb : Below w.heap.size w W) => opposite_any p.2.2.1 W (hL.below hb) (by omega) (edg_len hok.left)
    have hx1 := topX_near hok false
    have hx2 := topX_near hok true
    have HQ : Hid (pcR (panE p) (turQ p) = pcR 0 (turQ p) ∧ pcE (panE p) (turQ p) = panE (turQ p)) := by unfold Hid; rw [hE]; exact ⟨rfl, by unfold pcE; rw [if_neg (by simp)]⟩
    rw [HQ.out.1, HQ.out.2]
    obtain ⟨x0, x1, x2, x3, y2, y3, hC⟩ : ∃ x0 x1 x2 x3 y2 y3 : Int, cornA p = #[.int .i64 x0, .int .i64 x1, .int .i64 x2, .int .i64 x3, .int .i64 (topX p false), .int .i64 y2, .int .i64 (topX p true), .int .i64 y3] := ⟨_, _, _, _, _, _, rfl⟩
    rw [hC] at hcn
    have hch := fun W vl vr hl hr => checked_any (vL := vl) (vR := vr) (turQ p) W hnm hl hr
    rw [hE] at hc
    have HT : Hid (turQ p = (p.1, (topX p true - topX p false).tdiv 2, oppL p.2.2.2, oppL p.2.2.1)) := rfl
    obtain ⟨X1, hX1⟩ : ∃ X, topX p false = X := ⟨_, rfl⟩
    obtain ⟨X2, hX2⟩ : ∃ X, topX p true = X := ⟨_, rfl⟩
    rw [hX1] at hcn HT hx1
    rw [hX2] at hcn HT hx2
    obtain ⟨TQ, hTQ⟩ : ∃ Q, turQ p = Q := ⟨_, rfl⟩
    rw [hTQ] at hch HT ⊢
    obtain rfl := HT.out
    obtain ⟨AL, cL, rfl, _, _, _⟩ := hL
    obtain ⟨AR, cR, rfl, _, _, _⟩ := hR
    have HCH := Lib.hid hch
    obtain ⟨EQ, hEQ⟩ : ∃ E, panE (p.1, (X2 - X1).tdiv 2, oppL p.2.2.2, oppL p.2.2.1) = E := ⟨_, rfl⟩
    rw [hEQ] at HCH ⊢
    have hs : sV p.1 = .string ⟨p.1.toArray⟩ := rfl
    rw [hs] at hc hcn
    rw [hs]
    have hP := (Blk.new w 30 #[.string ⟨p.1.toArray⟩, .int .i64 p.2.1, .slice AL p.2.2.1.length cL, .slice AR p.2.2.2.length cR]).alloc (.cells zeroPV 30)
    have hZ := Blk.new1 w (.cells #[.string ⟨p.1.toArray⟩, .int .i64 p.2.1, .slice AL p.2.2.1.length cL, .slice AR p.2.2.2.length cR] 30) 30 zeroPV
    unfold zeroPV at hP hZ
    have fhP := hP.facts
    have fhZ := hZ.facts
    clear hE hEQ hnm hch hs HQ hX1 hX2 hTQ hC HT
    go_enter Tryz.func26, Tryz.ntmps26
    go_wp2_with fail
    refine (hc _ (by (repeat first|exact J0|assumption|(apply J1;assumption)|apply J2|apply J3|apply J4))).mono ?_
    rintro e w2 ⟨rfl, hb2⟩
    replace hP := hP.below (show Below _ _ w2 by (repeat first|exact J0|assumption|(apply J1;assumption)|apply J2|apply J3|apply J4))
    replace fhP := hP.facts
    replace hZ := hZ.below (show Below _ _ w2 by (repeat first|exact J0|assumption|(apply J1;assumption)|apply J2|apply J3|apply J4))
    replace fhZ := hZ.facts
    go_wp2_with fail
    refine (hcn _ (by (repeat first|exact J0|assumption|(apply J1;assumption)|apply J2|apply J3|apply J4))).mono ?_
    rintro e w3 ⟨rfl, hb3⟩
    replace hP := hP.below (show Below _ _ w3 by (repeat first|exact J0|assumption|(apply J1;assumption)|apply J2|apply J3|apply J4))
    replace fhP := hP.facts
    replace hZ := hZ.below (show Below _ _ w3 by (repeat first|exact J0|assumption|(apply J1;assumption)|apply J2|apply J3|apply J4))
    replace fhZ := hZ.facts
    have hK := Blk.new w3 41 #[.int .i64 x0, .int .i64 x1, .int .i64 x2, .int .i64 x3, .int .i64 X1, .int .i64 y2, .int .i64 X2, .int .i64 y3]
    replace hP := hP.alloc (.cells #[.int .i64 x0, .int .i64 x1, .int .i64 x2, .int .i64 x3, .int .i64 X1, .int .i64 y2, .int .i64 X2, .int .i64 y3] 41)
    replace hZ := hZ.alloc (.cells #[.int .i64 x0, .int .i64 x1, .int .i64 x2, .int .i64 x3, .int .i64 X1, .int .i64 y2, .int .i64 X2, .int .i64 y3] 41)
    have hbw4 : Below w.heap.size w (w3.alloc (.cells #[.int .i64 x0, .int .i64 x1, .int .i64 x2, .int .i64 x3, .int .i64 X1, .int .i64 y2, .int .i64 X2, .int .i64 y3] 41)) := by (repeat first|exact J0|assumption|(apply J1;assumption)|apply J2|apply J3|apply J4)
    go_upto_region 5 with fail
    obtain ⟨w4, hw4⟩ : ∃ X, w3.alloc (.cells #[.int .i64 x0, .int .i64 x1, .int .i64 x2, .int .i64 x3, .int .i64 X1, .int .i64 y2, .int .i64 X2, .int .i64 y3] 41) = X := ⟨_, rfl⟩
    obtain ⟨gk, hgk⟩ : ∃ X, w3.heap.size = X := ⟨_, rfl⟩
    rw [hw4] at hP hZ hbw4
    rw [hw4, hgk] at hK
    rw [hw4, hgk]
    clear hw4 hgk hc hcn hb2 hb3
    replace fhP := hP.facts
    replace fhZ := hZ.facts
    have fK := hK.facts
    refine wp_region_ords [0, 1, 2, 3, 4, 5, 6, 7, 8, 9, 10, 11, 13, 14] [(12, false), (15, false), (16, false), (17, false), (18, true), (19, false)] [20, 21] (by kernel_rfl) (by kernel_rfl) (fun d _ _ _ _ h => by cases d <;> exact h) ?_
    simp only [List.map_cons, List.map_nil, List.getD_cons_zero, List.getD_cons_succ]
    repeat (go_big_quiet_step (fail))
    refine wpQuiet_nil ?_
    refine wpMid_run rfl (fun K hK => ?_)
    go_simp
    refine (cl _ (by (repeat first|exact J0|assumption|(apply J1;assumption)|apply J2|apply J3|apply J4))).mono ?_
    rintro e w5 ⟨v5, rfl, hO5, hb5⟩
    refine hK _ _ (by (repeat first|exact J0|assumption|(apply J1;assumption)|apply J2|apply J3|apply J4)) ?_
    clear hK K
    have hP_w5 := hP.below (show Below _ _ w5 by (repeat first|exact J0|assumption|(apply J1;assumption)|apply J2|apply J3|apply J4))
    have fhP_w5 := hP_w5.facts
    have hZ_w5 := hZ.below (show Below _ _ w5 by (repeat first|exact J0|assumption|(apply J1;assumption)|apply J2|apply J3|apply J4))
    have fhZ_w5 := hZ_w5.facts
    obtain ⟨A5, c5, rfl⟩ := hO5.shape
    refine wpMid_run rfl (fun K hK => ?_)
    go_simp
    refine (cr _ (by (repeat first|exact J0|assumption|(apply J1;assumption)|apply J2|apply J3|apply J4))).mono ?_
    rintro e w6 ⟨v6, rfl, hO6, hb6⟩
    refine hK _ _ (by (repeat first|exact J0|assumption|(apply J1;assumption)|apply J2|apply J3|apply J4)) ?_
    clear hK K
    have hP_w6 := hP.below (show Below _ _ w6 by (repeat first|exact J0|assumption|(apply J1;assumption)|apply J2|apply J3|apply J4))
    have fhP_w6 := hP_w6.facts
    have hZ_w6 := hZ.below (show Below _ _ w6 by (repeat first|exact J0|assumption|(apply J1;assumption)|apply J2|apply J3|apply J4))
    have fhZ_w6 := hZ_w6.facts
    obtain ⟨A6, c6, rfl⟩ := hO6.shape
    refine wpMid_run rfl (fun K hK => ?_)
    go_simp
    refine hK _ _ (by (repeat first|exact J0|assumption|(apply J1;assumption)|apply J2|apply J3|apply J4)) ?_
    clear hK K
    refine wpMid_run rfl (fun K hK => ?_)
    go_simp
    refine (HCH.out _ _ _ ((hO5.rd ec_len).below (by (repeat first|exact J0|assumption|(apply J1;assumption)|apply J2|apply J3|apply J4))) (hO6.rd ec_len)).mono ?_
    rintro e w7 ⟨rfl, hb7⟩
    refine hK _ _ (by (repeat first|exact J0|assumption|(apply J1;assumption)|apply J2|apply J3|apply J4)) ?_
    clear hK K
    have hP_w7 := hP.below (show Below _ _ w7 by (repeat first|exact J0|assumption|(apply J1;assumption)|apply J2|apply J3|apply J4))
    have fhP_w7 := hP_w7.facts
    have hZ_w7 := hZ.below (show Below _ _ w7 by (repeat first|exact J0|assumption|(apply J1;assumption)|apply J2|apply J3|apply J4))
    have fhZ_w7 := hZ_w7.facts
    obtain ⟨A7, c7, A77, c77, hcv, hu1, hu2⟩ := checked_own (p.1, (X2 - X1).tdiv 2, oppL p.2.2.2, oppL p.2.2.1) w6 w7 ((hO5.below (show Below w5.heap.size w5 w6 by (repeat first|exact J0|assumption|(apply J1;assumption)|apply J2|apply J3|apply J4))).base_mono (show w4.heap.size ≤ _ by exact Below.size (by (repeat first|exact J0|assumption|(apply J1;assumption)|apply J2|apply J3|apply J4)))) (hO6.base_mono (show w4.heap.size ≤ _ by exact Below.size (by (repeat first|exact J0|assumption|(apply J1;assumption)|apply J2|apply J3|apply J4)))) hb7
    rw [hcv]
    refine wpMid_take rfl ?_
    intro K hK
    go_big_quiet_op
    go_big_quiet_on
    refine wpMid_run rfl (fun K hK => ?_)
    go_simp
    refine hK _ _ (by (repeat first|exact J0|assumption|(apply J1;assumption)|apply J2|apply J3|apply J4)) ?_
    clear hK K
    refine wpMid_nil ?_
    obtain ⟨Q, hQ⟩ : ∃ Q, pcR 0 (p.1, (X2 - X1).tdiv 2, oppL p.2.2.2, oppL p.2.2.1) = Q := ⟨_, rfl⟩
    rw [hQ] at hu1 hu2 ⊢
    have HQQ := Lib.hid hQ
    clear hQ
    have hbb : Below w4.heap.size w4 w7 := by (repeat first|exact J0|assumption|(apply J1;assumption)|apply J2|apply J3|apply J4)
    go_wp2_with (refine wpList_store_blk hZ_w7 rfl _ _ _ rfl rfl rfl (by rfl) (by kernel_rfl) (by kernel_rfl) ?_; intro w12 hZ12 hc12; have f12 := hZ12.facts)
    refine bodyPost_ret (v := .tuple #[.agg #[.string ⟨Q.1.toArray⟩, .int .i64 Q.2.1, .slice A7 Q.2.2.1.length c7, .slice A77 Q.2.2.2.length c77], .int .i64 EQ]) (by simp [results, Tryz.results26, go_sem, f12]) rfl ?_
    have hz1 : w.heap.size + 1 < w4.heap.size := hZ.lt
    obtain rfl := HQQ.out
    exact ⟨_, _, rfl, (hu1.chg hc12 (by simp; omega)).base_mono hbw4.size, (hu2.chg hc12 (by simp; omega)).base_mono hbw4.size, chg_bl (bl_then hbb hbw4) hc12 (by omega)⟩
  · have HQ : Hid (pcR (panE p) (turQ p) = panZ ∧ pcE (panE p) (turQ p) = panE p) := by
      have e : pcE (panE p) (turQ p) = panE p := by unfold pcE; rw [if_pos hE]
      exact ⟨by unfold pcR; rw [e, if_neg hE], e⟩
    rw [HQ.out.1, HQ.out.2]
    have t0 : (panE p != 0) = true := by simp [hE]
    obtain ⟨E, hEE⟩ : ∃ E, panE p = E := ⟨_, rfl⟩
    rw [hEE] at hc t0 ⊢
    obtain ⟨AL, cL, rfl, _, _, _⟩ := hL
    obtain ⟨AR, cR, rfl, _, _, _⟩ := hR
    have hs : sV p.1 = .string ⟨p.1.toArray⟩ := rfl
    rw [hs] at hc
    rw [hs]
    have hP := (Blk.new w 30 #[.string ⟨p.1.toArray⟩, .int .i64 p.2.1, .slice AL p.2.2.1.length cL, .slice AR p.2.2.2.length cR]).alloc (.cells zeroPV 30)
    have hZ := Blk.new1 w (.cells #[.string ⟨p.1.toArray⟩, .int .i64 p.2.1, .slice AL p.2.2.1.length cL, .slice AR p.2.2.2.length cR] 30) 30 zeroPV
    unfold zeroPV at hP hZ
    have fhP := hP.facts
    have fhZ := hZ.facts
    clear hE hEE hnm hs HQ
    go_enter Tryz.func26, Tryz.ntmps26
    go_wp2_with fail
    refine (hc _ (by (repeat first|exact J0|assumption|(apply J1;assumption)|apply J2|apply J3|apply J4))).mono ?_
    rintro e w2 ⟨rfl, hb2⟩
    replace hP := hP.below (show Below _ _ w2 by (repeat first|exact J0|assumption|(apply J1;assumption)|apply J2|apply J3|apply J4))
    replace fhP := hP.facts
    replace hZ := hZ.below (show Below _ _ w2 by (repeat first|exact J0|assumption|(apply J1;assumption)|apply J2|apply J3|apply J4))
    replace fhZ := hZ.facts
    go_wp2_with (refine wpList_store_blk hZ rfl _ _ _ rfl rfl rfl (by rfl) (by kernel_rfl) (by kernel_rfl) ?_; intro w12 hZ12 hc12; have f12 := hZ12.facts)
    refine bodyPost_ret (v := .tuple #[.agg #[.string ⟨#[]⟩, .int .i64 0, .slice none 0 0, .slice none 0 0], .int .i64 E]) (by simp [results, Tryz.results26, go_sem, f12]) rfl ?_
    exact ⟨_, _, rfl, Own.nil_, Own.nil_, chg_bl (by (repeat first|exact J0|assumption|(apply J1;assumption)|apply J2|apply J3|apply J4)) hc12 (by omega)⟩
end Go.Proofs.YtkkefahobjlagaaGreatDoor

/- The reference: corners, places, walked. Conditions: the panel is valid. -/
import Derived.Test.YtmjfkgbbhplhcaaGreatDoorG43
import Derived.Test.YtmjfkgbbhplhcaaGreatDoorG22
import Derived.Test.YtmjfkgbbhplhcaaGreatDoorG38
import Derived.Test.YtmjfkgbbhplhcaaGreatDoorG27
import Derived.Test.YtmjfkgbbhplhcaaGreatDoorG37
import Derived.Test.YtmjfkgbbhplhcaaGreatDoorG28
import Derived.Test.YtmjfkgbbhplhcaaGreatDoorG15
import Derived.Test.YtmjfkgbbhplhcaaGreatDoorG32
namespace Go.Proofs.YtmjfkgbbhplhcaaGreatDoor
open Go.RowKit Go.ChangeMaps
set_option maxHeartbeats 4000000
set_option maxRecDepth 100000

attribute [local go_sem] Oper.semAt_some
/-! # The reference: corners, places, strips -/
theorem rcorners_any {vL vR : Value} (p : Pan) (w : World) (hL : SlE w vL p.2.2.1) (hR : SlE w vR p.2.2.2) (hok : PanOk p) :
    Calls Tryz.prog 57 #[.agg #[sV p.1, .int .i64 p.2.1, vL, vR]] w (RV w (.agg (cornA p))) := by
  have hw0 : 0 ≤ p.2.1 ∧ p.2.1 ≤ 128 := ⟨by have := hok.wid.1; omega, hok.wid.2⟩
  have o1 := fun W (hb : Below w.heap.size w W) => routline_any p false W (hL.below hb) (hR.below hb) hok.left hok.right hw0
  have o2 := fun W (hb : Below w.heap.size w W) => routline_any p true W (hL.below hb) (hR.below hb) hok.left hok.right hw0
  have l1 : (outP p false).length = (stpL (sideP p false)).length + 1 := outK_len _ _ _
  have l2 : (outP p true).length = (stpL (sideP p true)).length + 1 := outK_len _ _ _
  have h1 := out_head p false
  have h2 := out_head p true
  have e1 := out_last p false
  have e2 := out_last p true
  simp only [sideP, Bool.false_eq_true, if_false, if_true] at e1 e2 l1 l2
  have HC : Hid (cornA p = #[.int .i64 (fromP p false).1, .int .i64 (fromP p false).2, .int .i64 (fromP p true).1, .int .i64 (fromP p true).2,
    .int .i64 (posK false (fromP p false) (stpL p.2.2.1)).1, .int .i64 (posK false (fromP p false) (stpL p.2.2.1)).2, .int .i64 (posK true (fromP p true) (stpL p.2.2.2)).1, .int .i64 (posK true (fromP p true) (stpL p.2.2.2)).2]) := rfl
  obtain ⟨C, hC⟩ : ∃ C, cornA p = C := ⟨_, rfl⟩
  rw [hC] at HC ⊢
  clear hC
  obtain ⟨⟨x1, y1⟩, hk1⟩ : ∃ z, posK false (fromP p false) (stpL p.2.2.1) = z := ⟨_, rfl⟩
  obtain ⟨⟨x2, y2⟩, hk2⟩ : ∃ z, posK true (fromP p true) (stpL p.2.2.2) = z := ⟨_, rfl⟩
  rw [hk1] at e1 HC
  rw [hk2] at e2 HC
  clear hk1 hk2
  obtain ⟨⟨a1, b1⟩, hk1⟩ : ∃ z, fromP p false = z := ⟨_, rfl⟩
  obtain ⟨⟨a2, b2⟩, hk2⟩ : ∃ z, fromP p true = z := ⟨_, rfl⟩
  rw [hk1] at h1 HC
  rw [hk2] at h2 HC
  clear hk1 hk2
  obtain ⟨n1, hn1⟩ : ∃ n, (stpL p.2.2.1).length = n := ⟨_, rfl⟩
  obtain ⟨n2, hn2⟩ : ∃ n, (stpL p.2.2.2).length = n := ⟨_, rfl⟩
  have hs1 : n1 ≤ 512 := by rw [← hn1]; exact hok.left.len
  have hs2 : n2 ≤ 512 := by rw [← hn2]; exact hok.right.len
  rw [hn1] at l1
  rw [hn2] at l2
  clear hn1 hn2
  obtain ⟨O1, hO1⟩ : ∃ O, outP p false = O := ⟨_, rfl⟩
  obtain ⟨O2, hO2⟩ : ∃ O, outP p true = O := ⟨_, rfl⟩
  rw [hO1] at o1 l1 h1 e1
  rw [hO2] at o2 l2 h2 e2
  clear hO1 hO2
  rw [l1, Nat.add_sub_cancel] at e1
  rw [l2, Nat.add_sub_cancel] at e2
  have HH1 := Lib.hid h1
  have HH2 := Lib.hid h2
  have HE1 := Lib.hid e1
  have HE2 := Lib.hid e2
  have HL1 := Lib.hid l1
  have HL2 := Lib.hid l2
  clear h1 h2 e1 e2 l1 l2
  obtain ⟨AL, cL, rfl, _, _, _⟩ := hL
  obtain ⟨AR, cR, rfl, _, _, _⟩ := hR
  unfold sV at o1 o2 ⊢
  have hP := (Blk.new w 24 #[.string ⟨p.1.toArray⟩, .int .i64 p.2.1, .slice AL p.2.2.1.length cL, .slice AR p.2.2.2.length cR]).alloc (.cells #[.int .i64 0, .int .i64 0, .int .i64 0, .int .i64 0, .int .i64 0, .int .i64 0, .int .i64 0, .int .i64 0] 94)
  have hZ := Blk.new1 w (.cells #[.string ⟨p.1.toArray⟩, .int .i64 p.2.1, .slice AL p.2.2.1.length cL, .slice AR p.2.2.2.length cR] 24) 94 #[.int .i64 0, .int .i64 0, .int .i64 0, .int .i64 0, .int .i64 0, .int .i64 0, .int .i64 0, .int .i64 0]
  clear hok hw0
  go_enter Tryz.func57, Tryz.ntmps57
  go_upto_region 1 with fail
  obtain ⟨w1, hw1⟩ : ∃ X, (w.alloc (.cells #[.string ⟨p.1.toArray⟩, .int .i64 p.2.1, .slice AL p.2.2.1.length cL, .slice AR p.2.2.2.length cR] 24)).alloc (.cells #[.int .i64 0, .int .i64 0, .int .i64 0, .int .i64 0, .int .i64 0, .int .i64 0, .int .i64 0, .int .i64 0] 94) = X := ⟨_, rfl⟩
  have hb1 : Below w.heap.size w w1 := by rw [← hw1]; exact bl_alloc (bl_alloc bl_refl _) _
  rw [hw1] at hP hZ ⊢
  clear hw1
  have fhP := hP.facts
  refine wp_region_ords [0, 2] [(1, false)] [3, 4, 5] (by kernel_rfl) (by kernel_rfl) (fun d _ _ _ _ h => by cases d <;> exact h) ?_
  simp only [List.map_cons, List.map_nil, List.getD_cons_zero, List.getD_cons_succ]
  repeat (go_big_quiet_step (fail))
  refine wpQuiet_nil ?_
  refine wpMid_run rfl (fun K hK => ?_)
  go_simp
  refine (o1 _ (by (repeat (first | exact bl_refl | assumption | (apply bl_then; assumption) | refine bl_alloc ?_ _ | refine bl_drew ?_ | refine bl_drewN ?_ _)))).mono ?_
  rintro e w8 ⟨v8, rfl, hO8, hb8⟩
  refine hK _ _ (by (repeat (first | exact bl_refl | assumption | (apply bl_then; assumption) | refine bl_alloc ?_ _ | refine bl_drew ?_ | refine bl_drewN ?_ _))) ?_
  clear hK K
  have hP_w8 := hP.below (show Below _ _ w8 by (repeat (first | exact bl_refl | assumption | (apply bl_then; assumption) | refine bl_alloc ?_ _ | refine bl_drew ?_ | refine bl_drewN ?_ _)))
  have fhP_w8 := hP_w8.facts
  refine wpMid_nil ?_
  go_wp2_with (go_at_call 55; refine (o2 _ (by (repeat (first | exact bl_refl | assumption | (apply bl_then; assumption) | refine bl_alloc ?_ _ | refine bl_drew ?_ | refine bl_drewN ?_ _)))).mono ?_; rintro e w9 ⟨v9, rfl, hO9, hb9⟩)
  obtain ⟨A8, c8, rfl⟩ := hO8.shape
  obtain ⟨_, _, he8, hlc8, hcm8, hr8⟩ := hO8.rd kc_len
  obtain ⟨rfl, rfl⟩ : A8 = _ ∧ c8 = _ := by simpa using he8
  obtain ⟨A9, c9, rfl⟩ := hO9.shape
  obtain ⟨_, _, he9, hlc9, hcm9, hr9⟩ := hO9.rd kc_len
  obtain ⟨rfl, rfl⟩ : A9 = _ ∧ c9 = _ := by simpa using he9
  have hb19 : Below w1.heap.size w1 w9 := by (repeat (first | exact bl_refl | assumption | (apply bl_then; assumption) | refine bl_alloc ?_ _ | refine bl_drew ?_ | refine bl_drewN ?_ _))
  have hbw9 : Below w.heap.size w w9 := bl_then hb19 hb1
  have hZ9 := hZ.below hb19
  replace hr8 := hr8.below (show Below w8.heap.size w8 w9 by (repeat (first | exact bl_refl | assumption | (apply bl_then; assumption) | refine bl_alloc ?_ _ | refine bl_drew ?_ | refine bl_drewN ?_ _)))
  obtain ⟨s8, o8, hA8, hl8, p8, q8⟩ := hr8.knot (k := 0) (by have := HL1.out; omega)
  obtain ⟨s9, o9, hA9, hl9, p9, q9⟩ := hr9.knot (k := 0) (by have := HL2.out; omega)
  obtain ⟨s8', o8', hA8', _, P8, Q8⟩ := hr8.knot (k := n1) (by have := HL1.out; omega)
  obtain ⟨s9', o9', hA9', _, P9, Q9⟩ := hr9.knot (k := n2) (by have := HL2.out; omega)
  subst hA8 hA9
  obtain ⟨rfl, rfl⟩ : s8 = s8' ∧ o8 = o8' := by simpa using hA8'
  obtain ⟨rfl, rfl⟩ : s9 = s9' ∧ o9 = o9' := by simpa using hA9'
  rw [(List.getElem?_eq_some_iff.1 HH1.out).2] at p8 q8
  rw [(List.getElem?_eq_some_iff.1 HH2.out).2] at p9 q9
  rw [(List.getElem?_eq_some_iff.1 HE1.out).2] at P8 Q8
  rw [(List.getElem?_eq_some_iff.1 HE2.out).2] at P9 Q9
  simp only [Nat.zero_mul, Nat.add_zero] at p8 q8 p9 q9 P8 Q8 P9 Q9
  rw [HL1.out, HL2.out]
  have ee1 : (((n1 + 1 : Nat) : Int) - 1) = (n1 : Int) := by omega
  have ee2 : (((n2 + 1 : Nat) : Int) - 1) = (n2 : Int) := by omega
  clear he8 he9 hO8 hO9 hb8 hb9 hP fhP hP_w8 fhP_w8 o1 o2 hZ hb19 hb1 hA8' hA9' hlc8 hcm8 hlc9 hcm9 hr8 hr9
  go_upto_region 2 with fail
  refine wp_region_ords [0, 1, 2, 3, 4, 5, 6, 7, 8, 9, 10, 11, 12, 13, 14, 15, 16, 17, 18] [] [19] (by kernel_rfl) (by kernel_rfl) (fun d _ _ _ _ h => by cases d <;> exact h) ?_
  simp only [List.map_cons, List.map_nil, List.getD_cons_zero, List.getD_cons_succ]
  repeat (go_big_quiet_step (fail))
  refine wpQuiet_nil ?_
  refine wpMid_nil ?_
  go_wp2_with (refine wpList_store_blk (hZ9.drew) rfl _ _ _ rfl rfl rfl (by rfl) (by kernel_rfl) (by kernel_rfl) ?_; intro w12 hZ12 hc12; have f12 := hZ12.facts)
  refine bodyPost_ret (v := .agg #[.int .i64 a1, .int .i64 b1, .int .i64 a2, .int .i64 b2, .int .i64 x1, .int .i64 y1, .int .i64 x2, .int .i64 y2]) (by simp [results, Tryz.results57, go_sem, f12]) rfl ?_
  exact ⟨by rw [HC.out], chg_bl (by (repeat (first | exact bl_refl | assumption | (apply bl_then; assumption) | refine bl_alloc ?_ _ | refine bl_drew ?_ | refine bl_drewN ?_ _))) hc12 (by omega)⟩
/-! ## places -/
theorem plcGo_at {l : List Knot} {j : Nat} (hj : j + 1 < l.length) (y : Int) : plcGo y l[j] (l.drop (j + 1)) = if l[j].2 ≤ y ∧ y < l[j + 1].2 then (if l[j + 1].2 = l[j].2 + 1 then (l[j].1, l[j + 1].1) else (l[j + 1].1, l[j + 1].1)) else plcGo y l[j + 1] (l.drop (j + 1 + 1)) := by
  rw [List.drop_eq_getElem_cons hj, plcGo]
end Go.Proofs.YtmjfkgbbhplhcaaGreatDoor

/- A panel handed back is the expected one, walked. Conditions: bounds. -/
namespace Go.Proofs.YtmjfkgbbhplhcaaGreatDoor
open Go.RowKit Go.ChangeMaps
set_option maxHeartbeats 4000000
set_option maxRecDepth 100000

attribute [local go_sem] Oper.semAt_some
/-! # A panel handed back is the expected one: the law's helpers -/
theorem eqP_refl (p : Pan) : eqP p p = true := by unfold eqP; simp
def pieceE (bad : Int) (want : Pan) : Int := if bad = 0 then panE want else bad
def pieceB (h : Pan) (e bad : Int) (want : Pan) : Bool := if pieceE bad want ≠ 0 then eqP h panZ && decide (e = pieceE bad want) else decide (e = 0) && eqP h want
theorem piece_self (E : Int) (q : Pan) : pieceB (pcR E q) (pcE E q) E q = true := by
  have he : pieceE E q = pcE E q := by
    unfold pieceE pcE
    by_cases h : E = 0
    · rw [if_pos h, if_neg (by simp [h])]
    · rw [if_neg h, if_pos h]
  unfold pieceB
  rw [he]
  by_cases h : pcE E q = 0
  · rw [if_neg (by simp [h]), h]
    unfold pcR
    rw [if_pos h, eqP_refl]
    rfl
  · rw [if_pos h]
    unfold pcR
    rw [if_neg h, eqP_refl]
    simp
theorem piece_bad {E : Int} (hE : E ≠ 0) (q want : Pan) : pieceB (pcR E q) (pcE E q) E want = true := by
  have h2 : pcE E q = E := if_pos hE
  have h3 : pieceE E want = E := if_neg hE
  unfold pieceB pcR
  rw [h2, h3, if_pos hE, if_neg hE, eqP_refl]
  simp
theorem lfst_any (l : List Int) (A : Option Addr) (c : Nat) (w : World) (hl : l.length ≤ maxLen) (h : Rd ic 1 w A l) : Calls Tryz.prog 10 #[.slice A l.length c] w (RV w (.int .i64 (firstI l))) := by
  go_enter Tryz.func10, Tryz.ntmps10
  go_wp2_with (go_at_call 49; refine (rfirst_any l A c _ hl h).mono ?_; rintro e w1 ⟨rfl, hb1⟩)
  go_ret
  exact ⟨rfl, by (repeat (first | exact bl_refl | assumption | (apply bl_then; assumption) | refine bl_alloc ?_ _ | refine bl_drew ?_ | refine bl_drewN ?_ _))⟩
theorem lwhn_any (b : Bool) (n : Int) (w : World) : Calls Tryz.prog 14 #[.bool b, .int .i64 n] w (RV w (.int .i64 (whenI b n))) := by
  cases b
  all_goals
    go_enter Tryz.func14, Tryz.ntmps14
    go_wp2
    go_ret
    exact ⟨rfl, bl_refl⟩
theorem piece_any {hl hr wl wr : Value} (h want : Pan) (e bad : Int) (w : World) (HL : SlE w hl h.2.2.1) (HR : SlE w hr h.2.2.2) (WL : SlE w wl want.2.2.1) (WR : SlE w wr want.2.2.2) (l1 : h.2.2.1.length ≤ 100000) (l2 : h.2.2.2.length ≤ 100000)
    (hnw : want.1.length ≤ 1000000) (w1 : ∀ x ∈ want.2.2.1, x.1.length ≤ 1000000) (w2 : ∀ x ∈ want.2.2.2, x.1.length ≤ 1000000) :
    Calls Tryz.prog 15 #[.agg #[sV h.1, .int .i64 h.2.1, hl, hr], .int .i64 e, .int .i64 bad, .agg #[sV want.1, .int .i64 want.2.1, wl, wr]] w (RV w (.bool (pieceB h e bad want))) := by
  have cCk := fun W (hb : Below w.heap.size w W) => rcheckPanel_any want W hnw (WL.below hb) (WR.below hb) w1 w2
  have cOwn := fun W (hb : Below w.heap.size w W) => rown_any h W (HL.below hb) (HR.below hb) l1 l2
  have cS1 := fun (a b : Value) W hL hR => samePanel_any (vL := a) (vR := b) (uL := .slice none 0 0) (uR := .slice none 0 0) h panZ W hL hR Sl.nil_ Sl.nil_
  have cS2 := fun (a b : Value) W hL hR (hb : Below w.heap.size w W) => samePanel_any (vL := a) (vR := b) (uL := wl) (uR := wr) h want W hL hR (WL.below hb) (WR.below hb)
  unfold ROW at cOwn
  have HB : Hid (pieceB h e bad want = if pieceE bad want ≠ 0 then eqP h panZ && decide (e = pieceE bad want) else decide (e = 0) && eqP h want) := rfl
  have HE : Hid (pieceE bad want = if bad = 0 then panE want else bad) := rfl
  obtain ⟨R, hR⟩ : ∃ R, pieceB h e bad want = R := ⟨_, rfl⟩
  obtain ⟨E, hE⟩ : ∃ R, pieceE bad want = R := ⟨_, rfl⟩
  obtain ⟨P, hP⟩ : ∃ R, panE want = R := ⟨_, rfl⟩
  obtain ⟨q1, hq1⟩ : ∃ R, eqP h panZ = R := ⟨_, rfl⟩
  obtain ⟨q2, hq2⟩ : ∃ R, eqP h want = R := ⟨_, rfl⟩
  rw [hR, hE, hq1, hq2] at HB
  rw [hE, hP] at HE
  rw [hP] at cCk
  rw [hq1] at cS1
  rw [hq2] at cS2
  rw [hR]
  clear hR hE hP hq1 hq2
  obtain ⟨AL, cL, rfl, _, _, _⟩ := HL
  obtain ⟨AR, cR, rfl, _, _, _⟩ := HR
  obtain ⟨BL, dL, rfl, _, _, _⟩ := WL
  obtain ⟨BR, dR, rfl, _, _, _⟩ := WR
  simp only [sV] at cCk cOwn cS1 cS2 ⊢
  have hB1 := (Blk.new w 29 #[.string ⟨h.1.toArray⟩, .int .i64 h.2.1, .slice AL h.2.2.1.length cL, .slice AR h.2.2.2.length cR]).alloc (.cells #[.string ⟨want.1.toArray⟩, .int .i64 want.2.1, .slice BL want.2.2.1.length dL, .slice BR want.2.2.2.length dR] 24)
  have hB2 := Blk.new1 w (.cells #[.string ⟨h.1.toArray⟩, .int .i64 h.2.1, .slice AL h.2.2.1.length cL, .slice AR h.2.2.2.length cR] 29) 24 #[.string ⟨want.1.toArray⟩, .int .i64 want.2.1, .slice BL want.2.2.1.length dL, .slice BR want.2.2.2.length dR]
  have fB1 := hB1.facts
  have fB2 := hB2.facts
  by_cases hb : bad = 0
  · have HE2 : Hid (E = P) := by unfold Hid; rw [HE.out, if_pos hb]
    rw [HE2.out] at HB
    clear HE
    by_cases hP : P = 0
    · have HB2 : Hid (R = (decide (e = 0) && q2)) := by unfold Hid; rw [HB.out, if_neg (by simp [hP])]
      subst hb
      subst hP
      clear HB
      by_cases he : e = 0
      · have HB3 : Hid (R = q2) := by unfold Hid; rw [HB2.out, decide_eq_true he, Bool.true_and]
        subst he
        go_enter Tryz.func15, Tryz.ntmps15
        go_wp2_with fail
        refine (cCk _ (by (repeat (first | exact bl_refl | assumption | (apply bl_then; assumption) | refine bl_alloc ?_ _ | refine bl_drew ?_ | refine bl_drewN ?_ _)))).mono ?_
        rintro e w2 ⟨rfl, hb2⟩
        replace hB1 := hB1.below (show Below _ _ w2 by (repeat (first | exact bl_refl | assumption | (apply bl_then; assumption) | refine bl_alloc ?_ _ | refine bl_drew ?_ | refine bl_drewN ?_ _)))
        replace fhB1 := hB1.facts
        replace hB2 := hB2.below (show Below _ _ w2 by (repeat (first | exact bl_refl | assumption | (apply bl_then; assumption) | refine bl_alloc ?_ _ | refine bl_drew ?_ | refine bl_drewN ?_ _)))
        replace fhB2 := hB2.facts
        go_upto_region 5 with fail
        refine wp_region_ords [0, 1, 2, 3, 5] [(4, false)] [6, 7, 8] (by kernel_rfl) (by kernel_rfl) (fun d _ _ _ _ h => by cases d <;> exact h) ?_
        simp only [List.map_cons, List.map_nil, List.getD_cons_zero, List.getD_cons_succ]
        repeat (go_big_quiet_step (fail))
        refine wpQuiet_nil ?_
        refine wpMid_run rfl (fun K hK => ?_)
        go_simp
        refine (cOwn _ (by (repeat (first | exact bl_refl | assumption | (apply bl_then; assumption) | refine bl_alloc ?_ _ | refine bl_drew ?_ | refine bl_drewN ?_ _)))).mono ?_
        rintro e w3 ⟨uL, uR, rfl, oL, oR, hb3⟩
        refine hK _ _ (by (repeat (first | exact bl_refl | assumption | (apply bl_then; assumption) | refine bl_alloc ?_ _ | refine bl_drew ?_ | refine bl_drewN ?_ _))) ?_
        clear hK K
        have hB1_w3 := hB1.below (show Below _ _ w3 by (repeat (first | exact bl_refl | assumption | (apply bl_then; assumption) | refine bl_alloc ?_ _ | refine bl_drew ?_ | refine bl_drewN ?_ _)))
        have fhB1_w3 := hB1_w3.facts
        have hB2_w3 := hB2.below (show Below _ _ w3 by (repeat (first | exact bl_refl | assumption | (apply bl_then; assumption) | refine bl_alloc ?_ _ | refine bl_drew ?_ | refine bl_drewN ?_ _)))
        have fhB2_w3 := hB2_w3.facts
        refine wpMid_nil ?_
        go_wp2_with (go_at_call 37; refine (cS2 _ _ _ (oL.rd ec_len) (oR.rd ec_len) (by (repeat (first | exact bl_refl | assumption | (apply bl_then; assumption) | refine bl_alloc ?_ _ | refine bl_drew ?_ | refine bl_drewN ?_ _)))).mono ?_; rintro e w4 ⟨rfl, hb4⟩)
        go_ret
        exact ⟨by rw [HB3.out]; rfl, by (repeat (first | exact bl_refl | assumption | (apply bl_then; assumption) | refine bl_alloc ?_ _ | refine bl_drew ?_ | refine bl_drewN ?_ _))⟩
      · have HB3 : Hid (R = false) := by unfold Hid; rw [HB2.out, decide_eq_false he]; rfl
        have te : (e == 0) = false := beq_false_of_ne he
        clear he
        go_enter Tryz.func15, Tryz.ntmps15
        go_wp2_with fail
        refine (cCk _ (by (repeat (first | exact bl_refl | assumption | (apply bl_then; assumption) | refine bl_alloc ?_ _ | refine bl_drew ?_ | refine bl_drewN ?_ _)))).mono ?_
        rintro e w2 ⟨rfl, hb2⟩
        replace hB1 := hB1.below (show Below _ _ w2 by (repeat (first | exact bl_refl | assumption | (apply bl_then; assumption) | refine bl_alloc ?_ _ | refine bl_drew ?_ | refine bl_drewN ?_ _)))
        replace fhB1 := hB1.facts
        replace hB2 := hB2.below (show Below _ _ w2 by (repeat (first | exact bl_refl | assumption | (apply bl_then; assumption) | refine bl_alloc ?_ _ | refine bl_drew ?_ | refine bl_drewN ?_ _)))
        replace fhB2 := hB2.facts
        go_upto_region 5 with fail
        refine wp_region_ords [0, 1, 2, 3, 5] [(4, false)] [6, 7, 8] (by kernel_rfl) (by kernel_rfl) (fun d _ _ _ _ h => by cases d <;> exact h) ?_
        simp only [List.map_cons, List.map_nil, List.getD_cons_zero, List.getD_cons_succ]
        repeat (go_big_quiet_step (fail))
        refine wpQuiet_nil ?_
        refine wpMid_skipF (by kernel_rfl) ?_
        intro K hK
        simp only [Act.put, List.setIfInBounds_toArray, List.set_cons_zero, List.set_cons_succ]
        refine hK _ ?_
        clear hK K
        refine wpMid_nil ?_
        go_wp2
        go_ret
        exact ⟨by rw [HB3.out]; rfl, by (repeat (first | exact bl_refl | assumption | (apply bl_then; assumption) | refine bl_alloc ?_ _ | refine bl_drew ?_ | refine bl_drewN ?_ _))⟩
    · have HB2 : Hid (R = (q1 && decide (e = P))) := by unfold Hid; rw [HB.out, if_pos hP]
      have tp : (P != 0) = true := by simpa using hP
      subst hb
      clear HB hP
      go_enter Tryz.func15, Tryz.ntmps15
      go_wp2_with fail
      refine (cCk _ (by (repeat (first | exact bl_refl | assumption | (apply bl_then; assumption) | refine bl_alloc ?_ _ | refine bl_drew ?_ | refine bl_drewN ?_ _)))).mono ?_
      rintro e w2 ⟨rfl, hb2⟩
      replace hB1 := hB1.below (show Below _ _ w2 by (repeat (first | exact bl_refl | assumption | (apply bl_then; assumption) | refine bl_alloc ?_ _ | refine bl_drew ?_ | refine bl_drewN ?_ _)))
      replace fhB1 := hB1.facts
      replace hB2 := hB2.below (show Below _ _ w2 by (repeat (first | exact bl_refl | assumption | (apply bl_then; assumption) | refine bl_alloc ?_ _ | refine bl_drew ?_ | refine bl_drewN ?_ _)))
      replace fhB2 := hB2.facts
      go_wp2_with fail
      refine (cOwn _ (by (repeat (first | exact bl_refl | assumption | (apply bl_then; assumption) | refine bl_alloc ?_ _ | refine bl_drew ?_ | refine bl_drewN ?_ _)))).mono ?_
      rintro e w3 ⟨uL, uR, rfl, oL, oR, hb3⟩
      replace hB1 := hB1.below (show Below _ _ w3 by (repeat (first | exact bl_refl | assumption | (apply bl_then; assumption) | refine bl_alloc ?_ _ | refine bl_drew ?_ | refine bl_drewN ?_ _)))
      replace fhB1 := hB1.facts
      replace hB2 := hB2.below (show Below _ _ w3 by (repeat (first | exact bl_refl | assumption | (apply bl_then; assumption) | refine bl_alloc ?_ _ | refine bl_drew ?_ | refine bl_drewN ?_ _)))
      replace fhB2 := hB2.facts
      go_wp2_with fail
      refine (cS1 _ _ _ (oL.rd ec_len) (oR.rd ec_len)).mono ?_
      rintro e w4 ⟨rfl, hb4⟩
      cases q1
      · go_wp2
        go_ret
        exact ⟨by rw [HB2.out]; rfl, by (repeat (first | exact bl_refl | assumption | (apply bl_then; assumption) | refine bl_alloc ?_ _ | refine bl_drew ?_ | refine bl_drewN ?_ _))⟩
      · by_cases he : e = P
        · have HB3 : Hid (R = true) := by unfold Hid; rw [HB2.out, decide_eq_true he]; rfl
          subst he
          go_wp2
          go_ret
          exact ⟨by rw [HB3.out]; rfl, by (repeat (first | exact bl_refl | assumption | (apply bl_then; assumption) | refine bl_alloc ?_ _ | refine bl_drew ?_ | refine bl_drewN ?_ _))⟩
        · have HB3 : Hid (R = false) := by unfold Hid; rw [HB2.out, decide_eq_false he]; rfl
          have te : (e == P) = false := beq_false_of_ne he
          clear he
          go_wp2
          go_ret
          exact ⟨by rw [HB3.out]; rfl, by (repeat (first | exact bl_refl | assumption | (apply bl_then; assumption) | refine bl_alloc ?_ _ | refine bl_drew ?_ | refine bl_drewN ?_ _))⟩
  · have HE2 : Hid (E = bad) := by unfold Hid; rw [HE.out, if_neg hb]
    rw [HE2.out] at HB
    have HB2 : Hid (R = (q1 && decide (e = bad))) := by unfold Hid; rw [HB.out, if_pos hb]
    have tb : (bad == 0) = false := beq_false_of_ne hb
    have tb2 : (bad != 0) = true := by simpa using hb
    clear HE HB hb
    go_enter Tryz.func15, Tryz.ntmps15
    go_wp2_with fail
    refine (cOwn _ (by (repeat (first | exact bl_refl | assumption | (apply bl_then; assumption) | refine bl_alloc ?_ _ | refine bl_drew ?_ | refine bl_drewN ?_ _)))).mono ?_
    rintro e w3 ⟨uL, uR, rfl, oL, oR, hb3⟩
    replace hB1 := hB1.below (show Below _ _ w3 by (repeat (first | exact bl_refl | assumption | (apply bl_then; assumption) | refine bl_alloc ?_ _ | refine bl_drew ?_ | refine bl_drewN ?_ _)))
    replace fhB1 := hB1.facts
    replace hB2 := hB2.below (show Below _ _ w3 by (repeat (first | exact bl_refl | assumption | (apply bl_then; assumption) | refine bl_alloc ?_ _ | refine bl_drew ?_ | refine bl_drewN ?_ _)))
    replace fhB2 := hB2.facts
    go_wp2_with fail
    refine (cS1 _ _ _ (oL.rd ec_len) (oR.rd ec_len)).mono ?_
    rintro e w4 ⟨rfl, hb4⟩
    cases q1
    · go_wp2
      go_ret
      exact ⟨by rw [HB2.out]; rfl, by (repeat (first | exact bl_refl | assumption | (apply bl_then; assumption) | refine bl_alloc ?_ _ | refine bl_drew ?_ | refine bl_drewN ?_ _))⟩
    · by_cases he : e = bad
      · have HB3 : Hid (R = true) := by unfold Hid; rw [HB2.out, decide_eq_true he]; rfl
        subst he
        go_wp2
        go_ret
        exact ⟨by rw [HB3.out]; rfl, by (repeat (first | exact bl_refl | assumption | (apply bl_then; assumption) | refine bl_alloc ?_ _ | refine bl_drew ?_ | refine bl_drewN ?_ _))⟩
      · have HB3 : Hid (R = false) := by unfold Hid; rw [HB2.out, decide_eq_false he]; rfl
        have te : (e == bad) = false := beq_false_of_ne he
        clear he
        go_wp2
        go_ret
        exact ⟨by rw [HB3.out]; rfl, by (repeat (first | exact bl_refl | assumption | (apply bl_then; assumption) | refine bl_alloc ?_ _ | refine bl_drew ?_ | refine bl_drewN ?_ _))⟩
/-! ## the reference's Stack -/
theorem rstack_any {vL vR uL uR : Value} (a b : Pan) (w : World) (hL : SlE w vL a.2.2.1) (hR : SlE w vR a.2.2.2) (kL : SlE w uL b.2.2.1) (kR : SlE w uR b.2.2.2) (hok : PanOk a) (hb : PanOk b) :
    Calls Tryz.prog 13 #[.agg #[sV a.1, .int .i64 a.2.1, vL, vR], .agg #[sV b.1, .int .i64 b.2.1, uL, uR]] w (fun e w' => ∃ xL xR, e = .returned (.tuple #[.agg #[sV a.1, .int .i64 a.2.1, xL, xR], .bool (decide (topX a true - topX a false = 2 * b.2.1))]) ∧ Own ec 3 w.heap.size 97 w' xL (a.2.2.1 ++ b.2.2.1) ∧ Own ec 3 w.heap.size 97 w' xR (a.2.2.2 ++ b.2.2.2) ∧ Below w.heap.size w w') := by
  have la := hok.left.few
  have ra := hok.right.few
  have lb := hb.left.few
  have rb := hb.right.few
  have hwb := hb.wid
  have hx1 := topX_near hok false
  have hx2 := topX_near hok true
  have hcn := fun W (hb : Below w.heap.size w W) => rcorners_any a W (hL.below hb) (hR.below hb) hok
  obtain ⟨x0, x1, x2, x3, y2, y3, hC⟩ : ∃ x0 x1 x2 x3 y2 y3 : Int, cornA a = #[.int .i64 x0, .int .i64 x1, .int .i64 x2, .int .i64 x3, .int .i64 (topX a false), .int .i64 y2, .int .i64 (topX a true), .int .i64 y3] := ⟨_, _, _, _, _, _, rfl⟩
  rw [hC] at hcn
  obtain ⟨X1, hX1⟩ : ∃ X, topX a false = X := ⟨_, rfl⟩
  obtain ⟨X2, hX2⟩ : ∃ X, topX a true = X := ⟨_, rfl⟩
  rw [hX1] at hcn hx1 ⊢
  rw [hX2] at hcn hx2 ⊢
  clear hX1 hX2 hC hok hb
  obtain ⟨AL, cL, hvL, _, _, _⟩ := id hL
  obtain ⟨AR, cR, hvR, _, _, _⟩ := id hR
  obtain ⟨BL, dL, huL, _, _, _⟩ := id kL
  obtain ⟨BR, dR, huR, _, _, _⟩ := id kR
  subst hvL hvR huL huR
  simp only [sV] at hcn ⊢
  have hP := ((Blk.new w 24 #[.string ⟨a.1.toArray⟩, .int .i64 a.2.1, .slice AL a.2.2.1.length cL, .slice AR a.2.2.2.length cR]).alloc (.cells #[.string ⟨b.1.toArray⟩, .int .i64 b.2.1, .slice BL b.2.2.1.length dL, .slice BR b.2.2.2.length dR] 24)).alloc (.cells #[.string ⟨#[]⟩, .int .i64 0, .slice none 0 0, .slice none 0 0] 24)
  have hQ := (Blk.new1 w (.cells #[.string ⟨a.1.toArray⟩, .int .i64 a.2.1, .slice AL a.2.2.1.length cL, .slice AR a.2.2.2.length cR] 24) 24 #[.string ⟨b.1.toArray⟩, .int .i64 b.2.1, .slice BL b.2.2.1.length dL, .slice BR b.2.2.2.length dR]).alloc (.cells #[.string ⟨#[]⟩, .int .i64 0, .slice none 0 0, .slice none 0 0] 24)
  have hZ := Blk.new2 w (.cells #[.string ⟨a.1.toArray⟩, .int .i64 a.2.1, .slice AL a.2.2.1.length cL, .slice AR a.2.2.2.length cR] 24) (.cells #[.string ⟨b.1.toArray⟩, .int .i64 b.2.1, .slice BL b.2.2.1.length dL, .slice BR b.2.2.2.length dR] 24) 24 #[.string ⟨#[]⟩, .int .i64 0, .slice none 0 0, .slice none 0 0]
  have fP := hP.facts
  have fQ := hQ.facts
  have fZ := hZ.facts
  go_enter Tryz.func13, Tryz.ntmps13
  go_wp2_with fail
  refine (hcn _ (by (repeat (first | exact bl_refl | assumption | (apply bl_then; assumption) | refine bl_alloc ?_ _ | refine bl_drew ?_ | refine bl_drewN ?_ _)))).mono ?_
  rintro e w2 ⟨rfl, hb2⟩
  replace hP := hP.below (show Below _ _ w2 by (repeat (first | exact bl_refl | assumption | (apply bl_then; assumption) | refine bl_alloc ?_ _ | refine bl_drew ?_ | refine bl_drewN ?_ _)))
  replace fhP := hP.facts
  replace hQ := hQ.below (show Below _ _ w2 by (repeat (first | exact bl_refl | assumption | (apply bl_then; assumption) | refine bl_alloc ?_ _ | refine bl_drew ?_ | refine bl_drewN ?_ _)))
  replace fhQ := hQ.facts
  replace hZ := hZ.below (show Below _ _ w2 by (repeat (first | exact bl_refl | assumption | (apply bl_then; assumption) | refine bl_alloc ?_ _ | refine bl_drew ?_ | refine bl_drewN ?_ _)))
  replace fhZ := hZ.facts
  have hC2 := Blk.new w2 94 #[.int .i64 x0, .int .i64 x1, .int .i64 x2, .int .i64 x3, .int .i64 X1, .int .i64 y2, .int .i64 X2, .int .i64 y3]
  have hbw2 : Below w.heap.size w w2 := by (repeat (first | exact bl_refl | assumption | (apply bl_then; assumption) | refine bl_alloc ?_ _ | refine bl_drew ?_ | refine bl_drewN ?_ _))
  have hlt2 : w.heap.size + 1 + 1 < w2.heap.size := hZ.lt
  go_upto_region 2 with fail
  obtain ⟨w3, hw3⟩ : ∃ X, w2.alloc (.cells #[.int .i64 x0, .int .i64 x1, .int .i64 x2, .int .i64 x3, .int .i64 X1, .int .i64 y2, .int .i64 X2, .int .i64 y3] 94) = X := ⟨_, rfl⟩
  have hb23 : Below w2.heap.size w2 w3 := by rw [← hw3]; exact bl_alloc bl_refl _
  rw [hw3] at hC2 ⊢
  clear hw3
  have hbw3 : Below w.heap.size w w3 := bl_then hb23 hbw2
  have hz23 := hb23.size
  have hP3 := hP.below hb23
  have hQ3 := hQ.below hb23
  have hZ3 := hZ.below hb23
  have fP3 := hP3.facts
  have fQ3 := hQ3.facts
  have sL := hL.below hbw3
  have sR := hR.below hbw3
  have tL := kL.below hbw3
  have tR := kR.below hbw3
  clear hP hQ hZ fP fQ fZ hb2 hb23 hL hR kL kR hcn
  refine wp_region_ords [1, 2, 4, 5] [(0, false), (3, false)] [6, 7] (by kernel_rfl) (by kernel_rfl) (fun d _ _ _ _ h => by cases d <;> exact h) ?_
  simp only [List.map_cons, List.map_nil, List.getD_cons_zero, List.getD_cons_succ]
  repeat (go_big_quiet_step (fail))
  refine wpQuiet_nil ?_
  refine wpMid_run rfl (fun K hK => ?_)
  go_simp
  refine hK _ _ (by (repeat (first | exact bl_refl | assumption | (apply bl_then; assumption) | refine bl_alloc ?_ _ | refine bl_drew ?_ | refine bl_drewN ?_ _))) ?_
  clear hK K
  refine wpMid_run rfl (fun K hK => ?_)
  refine op_app (l := ([] : List Edg)) (r := a.2.2.1) redge_elem ec_len ec_one _ _ rfl w3.heap.size _ _ rfl rfl (Own.empty ec 3 w3.drew 97) ((sL.below (show Below w3.heap.size w3 w3.drew from bl_drew bl_refl)).alloc _) (by simp [maxLen]; omega) (by simp; omega) (by simp) ?_
  intro v5 w5 hO5 hg5
  have hb5 : Below w3.heap.size w3 w5 := bl_grown hg5 (by (repeat (first | exact bl_refl | assumption | (apply bl_then; assumption) | refine bl_alloc ?_ _ | refine bl_drew ?_ | refine bl_drewN ?_ _))) (fun k hk => by have h := ((Own.empty ec 3 w3.drew 97).lt k hk).1; exact h)
  refine hK _ _ hb5 ?_
  clear hK K
  refine wpMid_nil ?_
  simp only [List.nil_append] at hO5
  obtain ⟨A5, c5, rfl⟩ := hO5.shape
  go_wp2_with (at_builtin; refine wpList_app rfl redge_elem ec_len ec_one _ _ rfl w3.heap.size _ _ a.2.2.1 b.2.2.1 rfl rfl hO5 (tL.below hb5) (by simp [maxLen]; omega) (by omega) hb5.size ?_; intro v6 w6 hO6 hg6)
  have hb6 := own_step hO5 hg6 hb5
  have hz36 := hb6.size
  obtain ⟨A6, c6, rfl⟩ := hO6.shape
  have hbw6 : Below w.heap.size w w6 := bl_then hb6 hbw3
  have hP6 := hP3.below hb6
  have hQ6 := hQ3.below hb6
  have hZ6 := hZ3.below hb6
  have hC6 := hC2.below hb6
  have fP6 := hP6.facts
  have fQ6 := hQ6.facts
  have sR6 := sR.below hb6
  have tR6 := tR.below hb6
  have hO6s := hO6
  clear hP3 hQ3 hZ3 hC2 fP3 fQ3 hO5 hg5 hg6 hb5 hb6 sL tL sR tR
  go_upto_region 3 with fail
  refine wp_region_ords [1, 2, 4, 5] [(0, false), (3, false)] [6, 7] (by kernel_rfl) (by kernel_rfl) (fun d _ _ _ _ h => by cases d <;> exact h) ?_
  simp only [List.map_cons, List.map_nil, List.getD_cons_zero, List.getD_cons_succ]
  repeat (go_big_quiet_step (fail))
  refine wpQuiet_nil ?_
  refine wpMid_run rfl (fun K hK => ?_)
  go_simp
  refine hK _ _ (by (repeat (first | exact bl_refl | assumption | (apply bl_then; assumption) | refine bl_alloc ?_ _ | refine bl_drew ?_ | refine bl_drewN ?_ _))) ?_
  clear hK K
  refine wpMid_run rfl (fun K hK => ?_)
  refine op_app (l := ([] : List Edg)) (r := a.2.2.2) redge_elem ec_len ec_one _ _ rfl w6.heap.size _ _ rfl rfl (Own.empty ec 3 w6.drew 97) ((sR6.below (show Below w6.heap.size w6 w6.drew from bl_drew bl_refl)).alloc _) (by simp [maxLen]; omega) (by simp; omega) (by simp) ?_
  intro v7 w7 hO7 hg7
  have hb7 : Below w6.heap.size w6 w7 := bl_grown hg7 (by (repeat (first | exact bl_refl | assumption | (apply bl_then; assumption) | refine bl_alloc ?_ _ | refine bl_drew ?_ | refine bl_drewN ?_ _))) (fun k hk => by have h := ((Own.empty ec 3 w6.drew 97).lt k hk).1; exact h)
  refine hK _ _ hb7 ?_
  clear hK K
  refine wpMid_nil ?_
  simp only [List.nil_append] at hO7
  obtain ⟨A7, c7, rfl⟩ := hO7.shape
  go_wp2_with (at_builtin; refine wpList_app rfl redge_elem ec_len ec_one _ _ rfl w6.heap.size _ _ a.2.2.2 b.2.2.2 rfl rfl hO7 (tR6.below hb7) (by simp [maxLen]; omega) (by omega) hb7.size ?_; intro v8 w8 hO8 hg8)
  have hb8 := own_step hO7 hg8 hb7
  obtain ⟨A8, c8, rfl⟩ := hO8.shape
  have hbw8 : Below w.heap.size w w8 := bl_then hb8 hbw6
  have hP8 := hP6.below hb8
  have hQ8 := hQ6.below hb8
  have hZ8 := hZ6.below hb8
  have hC8 := hC6.below hb8
  have fP8 := hP8.facts
  have fQ8 := hQ8.facts
  have fC8 := hC8.facts
  have sA := hO6s.below hb8
  have sB := hO8
  clear hP6 hQ6 hZ6 hC6 fP6 fQ6 hO7 hg7 hg8 hb7 hb8 hO6s sR6 tR6
  go_upto_region 4 with fail
  have hZd := hZ8.drew
  obtain ⟨P0, hP0⟩ : ∃ P0 : World → Prop, P0 = fun u => u.cell? ⟨w2.heap.size, 4, none⟩ = some (.int .i64 X1) ∧ u.cell? ⟨w2.heap.size, 6, none⟩ = some (.int .i64 X2) := ⟨_, rfl⟩
  have hPm : ∀ u, Blk u w2.heap.size 94 #[.int .i64 x0, .int .i64 x1, .int .i64 x2, .int .i64 x3, .int .i64 X1, .int .i64 y2, .int .i64 X2, .int .i64 y3] → P0 u := fun u h1 => by
    rw [hP0]
    exact ⟨by rw [h1.cell]; rfl, by rw [h1.cell]; rfl⟩
  have hPi : ∀ u, P0 u → u.cell? ⟨w2.heap.size, 4, none⟩ = some (.int .i64 X1) ∧ u.cell? ⟨w2.heap.size, 6, none⟩ = some (.int .i64 X2) := fun u h => by rw [hP0] at h; exact h
  have hp0 : P0 w8.drew := hPm _ hC8.drew
  have hcb1 : ∀ u : BelM (w.heap.size + 1 + 1) w8 P0, u.val.cell? ⟨w2.heap.size, 4, none⟩ = some (.int .i64 X1) := fun u => (hPi _ u.has).1
  have hcb2 : ∀ u : BelM (w.heap.size + 1 + 1) w8 P0, u.val.cell? ⟨w2.heap.size, 6, none⟩ = some (.int .i64 X2) := fun u => (hPi _ u.has).2
  haveI hne' : Nonempty (BelM (w.heap.size + 1 + 1) w8 P0) := BelM.none_empty (Below.refl _ w8) (hPm _ hC8)
  clear hP0 hPi
  refine wp_region_ordm (w.heap.size + 1 + 1) (P0) [0, 1, 2, 3, 4, 5, 6, 7, 8, 9, 10, 11, 12, 13, 14, 15, 16, 17] [(18, false)] [19] (by kernel_rfl) (by kernel_rfl) (fun d _ _ _ _ h => by cases d <;> exact h) (hp0) ?_
  simp only [List.map_cons, List.map_nil, List.getD_cons_zero, List.getD_cons_succ]
  repeat (go_big_quiet_step (fail))
  refine wpQuiet_nil ?_
  refine wpMid_runm rfl (fun K hK => ?_)
  refine op_store_blk hZd _ _ _ rfl rfl rfl rfl (by kernel_rfl) (by kernel_rfl) ?_
  intro w9 hZ9 hc9
  have hb9 : Below (w.heap.size + 1 + 1) w8 w9 := ((Chg.of_below (S := [w.heap.size + 1 + 1]) (show Below w8.heap.size w8 w8.drew from bl_drew bl_refl)).trans hc9).below (by simp) (by have := hC8.lt; omega)
  refine hK _ _ hb9 (hPm _ (hC8.drew.chg hc9 (by simp; omega))) ?_
  clear hK K
  refine wpMid_nil ?_
  have f9 := hZ9.facts
  have hlen1 : (a.2.2.1 ++ b.2.2.1).length = a.2.2.1.length + b.2.2.1.length := List.length_append
  have hlen2 : (a.2.2.2 ++ b.2.2.2).length = a.2.2.2.length + b.2.2.2.length := List.length_append
  rw [hlen1] at sA
  rw [hlen2] at sB
  have oA9 := (sA.drew).chg hc9 (by simp <;> omega)
  have oB9 := (sB.drew).chg hc9 (by simp <;> omega)
  go_wp2
  refine bodyPost_ret (v := .tuple #[.agg #[.string ⟨a.1.toArray⟩, .int .i64 a.2.1, .slice A6 (a.2.2.1.length + b.2.2.1.length) c6, .slice A8 (a.2.2.2.length + b.2.2.2.length) c8], .bool (X2 - X1 == 2 * b.2.1)]) (by simp [results, Tryz.results13, go_sem, f9]) rfl ?_
  refine ⟨_, _, by congr 4, oA9.base_mono (by have := hbw3.size; omega), oB9.base_mono (by have := hbw6.size; omega), ?_⟩
  exact hbw8.trans (hb9.mono (by omega))
end Go.Proofs.YtmjfkgbbhplhcaaGreatDoor

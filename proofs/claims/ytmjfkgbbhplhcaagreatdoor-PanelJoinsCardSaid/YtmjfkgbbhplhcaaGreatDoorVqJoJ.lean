/- PanelJoins, walked. Conditions: the variables are laid. -/
import Derived.Test.YtmjfkgbbhplhcaaGreatDoorG40
import Derived.Test.YtmjfkgbbhplhcaaGreatDoorG46
import Derived.Test.YtmjfkgbbhplhcaaGreatDoorG44
namespace Go.Proofs.YtmjfkgbbhplhcaaGreatDoor
open Go.RowKit Go.ChangeMaps
set_option maxHeartbeats 4000000
set_option maxRecDepth 100000

attribute [local go_sem] Oper.semAt_some
/-! # PanelJoins -/
theorem rdlE {b n : Nat} {W : World} {A} {m c : Nat} {l : List Edg} (h : Own ec 3 b 97 W (.slice A m c) l) (hn : n = l.length) : SlE W (.slice A n c) l := by
  subst hn
  obtain ⟨A2, c2, e⟩ := h.shape
  injection e with e1 e2 e3
  subst e2
  exact h.rd ec_len
theorem panelJoins_any {vL vR uL uR : Value} (p o : Pan) (d : Int) (W : World) (hnp : p.1.length ≤ maxLen) (hL : SlE W vL p.2.2.1) (hR : SlE W vR p.2.2.2) (hno : o.1.length ≤ maxLen) (kL : SlE W uL o.2.2.1) (kR : SlE W uR o.2.2.2) (hLay : Lay W) :
    Calls Tryz.prog 3 #[.agg #[sV p.1, .int .i64 p.2.1, vL, vR], .agg #[sV o.1, .int .i64 o.2.1, uL, uR], .int .i64 d] W (RV W (.bool true)) := by
  have cAw := fun W' (hb : Below W.heap.size W W') => awakeP_any W' (hLay.below hb)
  have cSp := fun W' (hb : Below W.heap.size W W') => shortP_any p 40 W' hnp (hL.below hb) (hR.below hb)
  have cSo := fun W' (hb : Below W.heap.size W W') => shortP_any o 40 W' hno (kL.below hb) (kR.below hb)
  obtain ⟨q1, hq1⟩ : ∃ q, shortP p 40 = q := ⟨_, rfl⟩
  obtain ⟨q2, hq2⟩ : ∃ q, shortP o 40 = q := ⟨_, rfl⟩
  rw [hq1] at cSp
  rw [hq2] at cSo
  obtain ⟨AL, cL, hvL, _, _, _⟩ := id hL
  obtain ⟨AR, cR, hvR, _, _, _⟩ := id hR
  obtain ⟨BL, dL, huL, _, _, _⟩ := id kL
  obtain ⟨BR, dR, huR, _, _, _⟩ := id kR
  subst hvL hvR huL huR
  have hB1 := (Blk.new W 24 #[.string ⟨p.1.toArray⟩, .int .i64 p.2.1, .slice AL p.2.2.1.length cL, .slice AR p.2.2.2.length cR]).alloc (.cells #[.string ⟨o.1.toArray⟩, .int .i64 o.2.1, .slice BL o.2.2.1.length dL, .slice BR o.2.2.2.length dR] 24)
  have hB2 := Blk.new1 W (.cells #[.string ⟨p.1.toArray⟩, .int .i64 p.2.1, .slice AL p.2.2.1.length cL, .slice AR p.2.2.2.length cR] 24) 24 #[.string ⟨o.1.toArray⟩, .int .i64 o.2.1, .slice BL o.2.2.1.length dL, .slice BR o.2.2.2.length dR]
  have fB1 := hB1.facts
  have fB2 := hB2.facts
  cases q1
  · simp only [sV] at cSp ⊢
    clear hq1 hq2 hL hR kL kR
    go_enter Tryz.func3, Tryz.ntmps3
    go_wp2_with fail
    refine (cAw _ (by (repeat (first | exact bl_refl | assumption | (apply bl_then; assumption) | refine bl_alloc ?_ _ | refine bl_drew ?_ | refine bl_drewN ?_ _)))).mono ?_
    rintro e w1 ⟨rfl, hb1⟩
    replace hB1 := hB1.below (show Below _ _ w1 by (repeat (first | exact bl_refl | assumption | (apply bl_then; assumption) | refine bl_alloc ?_ _ | refine bl_drew ?_ | refine bl_drewN ?_ _)))
    replace fhB1 := hB1.facts
    replace hB2 := hB2.below (show Below _ _ w1 by (repeat (first | exact bl_refl | assumption | (apply bl_then; assumption) | refine bl_alloc ?_ _ | refine bl_drew ?_ | refine bl_drewN ?_ _)))
    replace fhB2 := hB2.facts
    go_wp2_with fail
    refine (cSp _ (by (repeat (first | exact bl_refl | assumption | (apply bl_then; assumption) | refine bl_alloc ?_ _ | refine bl_drew ?_ | refine bl_drewN ?_ _)))).mono ?_
    rintro e w2 ⟨rfl, hb2⟩
    go_wp2_with fail
    refine (cAw _ (by (repeat (first | exact bl_refl | assumption | (apply bl_then; assumption) | refine bl_alloc ?_ _ | refine bl_drew ?_ | refine bl_drewN ?_ _)))).mono ?_
    rintro e w3 ⟨rfl, hb3⟩
    go_wp2
    go_ret
    exact ⟨rfl, by (repeat (first | exact bl_refl | assumption | (apply bl_then; assumption) | refine bl_alloc ?_ _ | refine bl_drew ?_ | refine bl_drewN ?_ _))⟩
  · cases q2
    · simp only [sV] at cSp cSo ⊢
      clear hq1 hq2 hL hR kL kR
      go_enter Tryz.func3, Tryz.ntmps3
      go_wp2_with fail
      refine (cAw _ (by (repeat (first | exact bl_refl | assumption | (apply bl_then; assumption) | refine bl_alloc ?_ _ | refine bl_drew ?_ | refine bl_drewN ?_ _)))).mono ?_
      rintro e w1 ⟨rfl, hb1⟩
      replace hB1 := hB1.below (show Below _ _ w1 by (repeat (first | exact bl_refl | assumption | (apply bl_then; assumption) | refine bl_alloc ?_ _ | refine bl_drew ?_ | refine bl_drewN ?_ _)))
      replace fhB1 := hB1.facts
      replace hB2 := hB2.below (show Below _ _ w1 by (repeat (first | exact bl_refl | assumption | (apply bl_then; assumption) | refine bl_alloc ?_ _ | refine bl_drew ?_ | refine bl_drewN ?_ _)))
      replace fhB2 := hB2.facts
      go_wp2_with fail
      refine (cSp _ (by (repeat (first | exact bl_refl | assumption | (apply bl_then; assumption) | refine bl_alloc ?_ _ | refine bl_drew ?_ | refine bl_drewN ?_ _)))).mono ?_
      rintro e w2 ⟨rfl, hb2⟩
      replace hB1 := hB1.below (show Below _ _ w2 by (repeat (first | exact bl_refl | assumption | (apply bl_then; assumption) | refine bl_alloc ?_ _ | refine bl_drew ?_ | refine bl_drewN ?_ _)))
      replace fhB1 := hB1.facts
      replace hB2 := hB2.below (show Below _ _ w2 by (repeat (first | exact bl_refl | assumption | (apply bl_then; assumption) | refine bl_alloc ?_ _ | refine bl_drew ?_ | refine bl_drewN ?_ _)))
      replace fhB2 := hB2.facts
      go_wp2_with fail
      refine (cSo _ (by (repeat (first | exact bl_refl | assumption | (apply bl_then; assumption) | refine bl_alloc ?_ _ | refine bl_drew ?_ | refine bl_drewN ?_ _)))).mono ?_
      rintro e w3 ⟨rfl, hb3⟩
      go_wp2_with fail
      refine (cAw _ (by (repeat (first | exact bl_refl | assumption | (apply bl_then; assumption) | refine bl_alloc ?_ _ | refine bl_drew ?_ | refine bl_drewN ?_ _)))).mono ?_
      rintro e w4 ⟨rfl, hb4⟩
      go_wp2
      go_ret
      exact ⟨rfl, by (repeat (first | exact bl_refl | assumption | (apply bl_then; assumption) | refine bl_alloc ?_ _ | refine bl_drew ?_ | refine bl_drewN ?_ _))⟩
    · obtain ⟨hp60, ⟨plL, pwL⟩, plR, pwR⟩ := shortP_words hq1
      obtain ⟨ho60, ⟨olL, owL⟩, olR, owR⟩ := shortP_words hq2
      have cGp := fun W' (hb : Below W.heap.size W W') => given_any p W' (hL.below hb) (hR.below hb) (by omega) (by omega)
      have cGo := fun W' (hb : Below W.heap.size W W') => given_any o W' (kL.below hb) (kR.below hb) (by omega) (by omega)
      have pwL' : ∀ e ∈ p.2.2.1, e.1.length ≤ 1000000 := fun e he => by have := pwL e he; omega
      have pwR' : ∀ e ∈ p.2.2.2, e.1.length ≤ 1000000 := fun e he => by have := pwR e he; omega
      have owL' : ∀ e ∈ o.2.2.1, e.1.length ≤ 1000000 := fun e he => by have := owL e he; omega
      have owR' : ∀ e ∈ o.2.2.2, e.1.length ≤ 1000000 := fun e he => by have := owR e he; omega
      have cCp := fun W' (hb : Below W.heap.size W W') => rcheckPanel_any p W' (by omega) (hL.below hb) (hR.below hb) pwL' pwR'
      have cCo := fun W' (hb : Below W.heap.size W W') => rcheckPanel_any o W' (by omega) (kL.below hb) (kR.below hb) owL' owR'
      have cStk := fun (a b c e : Value) W' h1 h2 h3 h4 => apiStack_any (vL := a) (vR := b) (uL := c) (uR := e) p o W' (by omega) (by omega) h1 h2 h3 h4
      have cWid := fun (a b : Value) W' h1 h2 => apiWiden_any (vL := a) (vR := b) p d W' (by omega) h1 h2
      have cF1 : ∀ A c' W, Rd ic 1 W A [panE p, panE o] → Calls Tryz.prog 10 #[.slice A 2 c'] W (RV W (.int .i64 (twoP p o))) := fun A c' W hr => lfst_any [panE p, panE o] A c' W (by simp [maxLen]) hr
      have cF2 : ∀ A c' W, Rd ic 1 W A [panE p, withinI d (-128) 128] → Calls Tryz.prog 10 #[.slice A 2 c'] W (RV W (.int .i64 (widE p d))) := fun A c' W hr => lfst_any [panE p, withinI d (-128) 128] A c' W (by simp [maxLen]) hr
      have cPc := fun (h want : Pan) (e bad : Int) (a b c f : Value) W' h1 h2 h3 h4 => piece_any (hl := a) (hr := b) (wl := c) (wr := f) h want e bad W' h1 h2 h3 h4
      unfold GIW at cGp cGo
      unfold RPN at cStk cWid
      have hcase : (twoP p o ≠ 0 ∧ stkE p o = twoP p o) ∨ (twoP p o = 0 ∧ ∃ q, decide (topX p true - topX p false = 2 * o.2.1) = q ∧ stkE p o = whenI (!q) 24) := by
        by_cases h : twoP p o = 0
        · refine .inr ⟨h, _, rfl, ?_⟩
          unfold stkE whenI
          rw [if_neg (by simp [h])]
          by_cases h2 : topX p true - topX p false = 2 * o.2.1
          · rw [if_neg (by simp [h2])]; simp [h2]
          · rw [if_pos h2]; simp [h2]
        · exact .inl ⟨h, if_pos h⟩
      have cRS := fun (h : twoP p o = 0) W' (hb : Below W.heap.size W W') => rstack_any p o W' (hL.below hb) (hR.below hb) (kL.below hb) (kR.below hb) (panE_zero (twoP_zero h).1) (panE_zero (twoP_zero h).2)
      have hpc : ∀ (E : Int) (q : Pan), (pcR E q).2.2.1.length ≤ q.2.2.1.length ∧ (pcR E q).2.2.2.length ≤ q.2.2.2.length := fun E q => by
        unfold pcR panZ
        split <;> simp
      have lS := hpc (stkE p o) (stkQ p o)
      have lW := hpc (widE p d) (widQ p d)
      have lenS : (pcR (stkE p o) (stkQ p o)).2.2.1.length ≤ 100000 ∧ (pcR (stkE p o) (stkQ p o)).2.2.2.length ≤ 100000 := by
        have e1 : (stkQ p o).2.2.1.length = p.2.2.1.length + o.2.2.1.length := by simp [stkQ]
        have e2 : (stkQ p o).2.2.2.length = p.2.2.2.length + o.2.2.2.length := by simp [stkQ]
        omega
      have lenW : (pcR (widE p d) (widQ p d)).2.2.1.length ≤ 100000 ∧ (pcR (widE p d) (widQ p d)).2.2.2.length ≤ 100000 := by
        have e1 : (widQ p d).2.2.1.length = p.2.2.1.length := rfl
        have e2 : (widQ p d).2.2.2.length = p.2.2.2.length := rfl
        omega
      have cS1 := fun (want : Pan) hn h1 h2 (hB : pieceB (pcR (stkE p o) (stkQ p o)) (pcE (stkE p o) (stkQ p o)) (stkE p o) want = true) (a b c f : Value) W' q1 q2 q3 q4 => by
        have := cPc (pcR (stkE p o) (stkQ p o)) want (pcE (stkE p o) (stkQ p o)) (stkE p o) a b c f W' q1 q2 q3 q4 (lenS.1) (lenS.2) hn h1 h2
        rwa [hB] at this
      have cS2 := fun (want : Pan) hn h1 h2 (hB : pieceB (pcR (widE p d) (widQ p d)) (pcE (widE p d) (widQ p d)) (widE p d) want = true) (a b c f : Value) W' q1 q2 q3 q4 => by
        have := cPc (pcR (widE p d) (widQ p d)) want (pcE (widE p d) (widQ p d)) (widE p d) a b c f W' q1 q2 q3 q4 (lenW.1) (lenW.2) hn h1 h2
        rwa [hB] at this
      -- the wanted panels
      have w2a := fun (h : widE p d = 0) => cS2 (p.1, p.2.1 + d, p.2.2.1, p.2.2.2) (by simp only; omega) pwL' pwR' (by have := piece_self (widE p d) (widQ p d); exact this)
      have w2b := fun (h : widE p d ≠ 0) => cS2 p (by omega) pwL' pwR' (piece_bad h _ _)
      have w1a := fun (h : stkE p o ≠ 0) => cS1 panZ (by decide) (fun x hx => by cases hx) (fun x hx => by cases hx) (piece_bad h _ _)
      have w1b := cS1 (stkQ p o) (by simp only [stkQ]; omega) (fun x hx => by
        rcases List.mem_append.1 hx with h | h
        · exact pwL' x h
        · exact owL' x h) (fun x hx => by
        rcases List.mem_append.1 hx with h | h
        · exact pwR' x h
        · exact owR' x h) (piece_self _ _)
      have w1c := w1b
      clear cPc cS1 cS2 hpc lS lW lenS lenW w1c
      obtain ⟨QS, hQS⟩ : ∃ z, stkQ p o = z := ⟨_, rfl⟩
      have hQSv : QS = (p.1, p.2.1, p.2.2.1 ++ o.2.2.1, p.2.2.2 ++ o.2.2.2) := by rw [← hQS]; rfl
      rw [hQS] at w1b
      obtain ⟨QR, hQR⟩ : ∃ z, pcR (stkE p o) (stkQ p o) = z := ⟨_, rfl⟩
      obtain ⟨EE, hEE⟩ : ∃ z, pcE (stkE p o) (stkQ p o) = z := ⟨_, rfl⟩
      rw [hQS] at hQR hEE cStk w1a
      rw [hQR, hEE] at cStk w1a w1b
      obtain ⟨E1, hE1⟩ : ∃ z, stkE p o = z := ⟨_, rfl⟩
      rw [hE1] at w1a w1b hcase
      obtain ⟨WR, hWR⟩ : ∃ z, pcR (widE p d) (widQ p d) = z := ⟨_, rfl⟩
      obtain ⟨WE, hWE⟩ : ∃ z, pcE (widE p d) (widQ p d) = z := ⟨_, rfl⟩
      rw [hWR, hWE] at cWid w2a w2b
      obtain ⟨E2, hE2⟩ : ∃ z, widE p d = z := ⟨_, rfl⟩
      rw [hE2] at w2a w2b cF2
      have hwz := fun h => widE_zero (p := p) (d := d) h
      rw [hE2] at hwz
      obtain ⟨T, hT⟩ : ∃ z, twoP p o = z := ⟨_, rfl⟩
      rw [hT] at hcase cRS cF1
      obtain ⟨E3, hE3⟩ : ∃ z, panE p = z := ⟨_, rfl⟩
      obtain ⟨E4, hE4⟩ : ∃ z, panE o = z := ⟨_, rfl⟩
      rw [hE3] at cCp cF1 cF2 hwz
      rw [hE4] at cCo cF1
      have hpw : E3 = 0 → 1 ≤ p.2.1 ∧ p.2.1 ≤ 128 := fun h => (panE_zero (hE3.trans h)).wid
      simp only [sV] at cSp cSo cGp cGo cCp cCo cStk cWid cRS w1a w1b w2a w2b ⊢
      clear hQS hQR hEE hE1 hWR hWE hE2 hT hE3 hE4 hq1 hq2 kL kR pwL pwR owL owR pwL' pwR' owL' owR'
      go_enter Tryz.func3, Tryz.ntmps3
      go_wp2_with fail
      refine (cAw _ (by (repeat (first | exact bl_refl | assumption | (apply bl_then; assumption) | refine bl_alloc ?_ _ | refine bl_drew ?_ | refine bl_drewN ?_ _)))).mono ?_
      rintro e w1 ⟨rfl, hb1⟩
      replace hB1 := hB1.below (show Below _ _ w1 by (repeat (first | exact bl_refl | assumption | (apply bl_then; assumption) | refine bl_alloc ?_ _ | refine bl_drew ?_ | refine bl_drewN ?_ _)))
      replace fhB1 := hB1.facts
      replace hB2 := hB2.below (show Below _ _ w1 by (repeat (first | exact bl_refl | assumption | (apply bl_then; assumption) | refine bl_alloc ?_ _ | refine bl_drew ?_ | refine bl_drewN ?_ _)))
      replace fhB2 := hB2.facts
      go_wp2_with fail
      refine (cSp _ (by (repeat (first | exact bl_refl | assumption | (apply bl_then; assumption) | refine bl_alloc ?_ _ | refine bl_drew ?_ | refine bl_drewN ?_ _)))).mono ?_
      rintro e w2 ⟨rfl, hb2⟩
      replace hB1 := hB1.below (show Below _ _ w2 by (repeat (first | exact bl_refl | assumption | (apply bl_then; assumption) | refine bl_alloc ?_ _ | refine bl_drew ?_ | refine bl_drewN ?_ _)))
      replace fhB1 := hB1.facts
      replace hB2 := hB2.below (show Below _ _ w2 by (repeat (first | exact bl_refl | assumption | (apply bl_then; assumption) | refine bl_alloc ?_ _ | refine bl_drew ?_ | refine bl_drewN ?_ _)))
      replace fhB2 := hB2.facts
      go_wp2_with fail
      refine (cSo _ (by (repeat (first | exact bl_refl | assumption | (apply bl_then; assumption) | refine bl_alloc ?_ _ | refine bl_drew ?_ | refine bl_drewN ?_ _)))).mono ?_
      rintro e w3 ⟨rfl, hb3⟩
      replace hB1 := hB1.below (show Below _ _ w3 by (repeat (first | exact bl_refl | assumption | (apply bl_then; assumption) | refine bl_alloc ?_ _ | refine bl_drew ?_ | refine bl_drewN ?_ _)))
      replace fhB1 := hB1.facts
      replace hB2 := hB2.below (show Below _ _ w3 by (repeat (first | exact bl_refl | assumption | (apply bl_then; assumption) | refine bl_alloc ?_ _ | refine bl_drew ?_ | refine bl_drewN ?_ _)))
      replace fhB2 := hB2.facts
      have hb03 : Below W.heap.size W w3 := by (repeat (first | exact bl_refl | assumption | (apply bl_then; assumption) | refine bl_alloc ?_ _ | refine bl_drew ?_ | refine bl_drewN ?_ _))
      clear hb1 hb2 hb3 cAw cSp cSo
      go_upto_region 3 with fail
      go_cut [7, 8] from 16 (fun s7 s8 wx => ∃ g A6 c6 A7 c7, s7 = .pointer (some ⟨g, 0, none⟩) ∧ s8 = .int .i64 EE ∧ Blk wx g 29 #[.string ⟨QR.1.toArray⟩, .int .i64 QR.2.1, .slice A6 QR.2.2.1.length c6, .slice A7 QR.2.2.2.length c7] ∧ SlE wx (.slice A6 QR.2.2.1.length c6) QR.2.2.1 ∧ SlE wx (.slice A7 QR.2.2.2.length c7) QR.2.2.2 ∧ Below w3.heap.size w3 wx)
      case first =>
        refine wp_region_tree [0, 2] (.alt (.br 1 (.alt (.br 3 (.alt (.br 4 (.take 5 (.take 6 (.take 7 (.alt (.br 8 (.alt (.br 9 (.fin) (.stop))) (.stop)))))) (.br 8 (.alt (.br 4 (.take 5 (.take 6 (.take 7 (.alt (.br 9 (.fin) (.stop)))))) (.stop))) (.stop)))) (.br 8 (.alt (.br 3 (.alt (.br 4 (.take 5 (.take 6 (.take 7 (.alt (.br 9 (.fin) (.stop)))))) (.stop))) (.stop))) (.stop)))) (.br 8 (.alt (.br 1 (.alt (.br 3 (.alt (.br 4 (.take 5 (.take 6 (.take 7 (.alt (.br 9 (.fin) (.stop)))))) (.stop))) (.stop))) (.stop))) (.stop)))) [10] (by kernel_rfl) (by kernel_rfl) (fun d _ _ _ _ h => by cases d <;> exact h) ?_
        simp only [List.map_cons, List.map_nil, List.getD_cons_zero, List.getD_cons_succ]
        repeat (go_big_quiet_step (fail))
        refine wpQuiet_nil ?_
        refine wpTree_alt (wpTree_br rfl rfl ?_ (wpTree_br rfl rfl ?_ wpTree_stop))
        · intro K hK
          go_simp
          refine (cGp _ (by (repeat (first | exact bl_refl | assumption | (apply bl_then; assumption) | refine bl_alloc ?_ _ | refine bl_drew ?_ | refine bl_drewN ?_ _)))).mono ?_
          rintro e w4 ⟨uL4, uR4, rfl, oL4, oR4, hb4⟩
          refine hK _ _ (by (repeat (first | exact bl_refl | assumption | (apply bl_then; assumption) | refine bl_alloc ?_ _ | refine bl_drew ?_ | refine bl_drewN ?_ _))) ?_
          clear hK K
          refine wpTree_alt (wpTree_br rfl rfl ?_ (wpTree_br rfl rfl ?_ wpTree_stop))
          · intro K hK
            go_simp
            refine (cGo _ (by (repeat (first | exact bl_refl | assumption | (apply bl_then; assumption) | refine bl_alloc ?_ _ | refine bl_drew ?_ | refine bl_drewN ?_ _)))).mono ?_
            rintro e w5 ⟨uL5, uR5, rfl, oL5, oR5, hb5⟩
            refine hK _ _ (by (repeat (first | exact bl_refl | assumption | (apply bl_then; assumption) | refine bl_alloc ?_ _ | refine bl_drew ?_ | refine bl_drewN ?_ _))) ?_
            clear hK K
            refine wpTree_alt (wpTree_br rfl rfl ?_ (wpTree_br rfl rfl ?_ wpTree_stop))
            · intro K hK
              go_simp
              refine (cStk _ _ _ _ _ ((oL4.rd ec_len).below (by (repeat (first | exact bl_refl | assumption | (apply bl_then; assumption) | refine bl_alloc ?_ _ | refine bl_drew ?_ | refine bl_drewN ?_ _)))) ((oR4.rd ec_len).below (by (repeat (first | exact bl_refl | assumption | (apply bl_then; assumption) | refine bl_alloc ?_ _ | refine bl_drew ?_ | refine bl_drewN ?_ _)))) ((oL5.rd ec_len).below (by (repeat (first | exact bl_refl | assumption | (apply bl_then; assumption) | refine bl_alloc ?_ _ | refine bl_drew ?_ | refine bl_drewN ?_ _)))) ((oR5.rd ec_len).below (by (repeat (first | exact bl_refl | assumption | (apply bl_then; assumption) | refine bl_alloc ?_ _ | refine bl_drew ?_ | refine bl_drewN ?_ _))))).mono ?_
              rintro e w6 ⟨vL6, vR6, rfl, oL6, oR6, hb6⟩
              obtain ⟨A6, c6, rfl⟩ := oL6.shape
              obtain ⟨A7, c7, rfl⟩ := oR6.shape
              refine hK _ _ (by (repeat (first | exact bl_refl | assumption | (apply bl_then; assumption) | refine bl_alloc ?_ _ | refine bl_drew ?_ | refine bl_drewN ?_ _))) ?_
              clear hK K
              refine wpTree_take rfl rfl ?_; intro K hK; simp only [Array.getD_eq_getD_getElem?, List.getElem?_toArray, List.getElem?_cons_succ, List.getElem?_cons_zero, Option.getD_some]; go_big_quiet_op; go_big_quiet_on
              refine wpTree_take rfl rfl ?_; intro K hK; simp only [Array.getD_eq_getD_getElem?, List.getElem?_toArray, List.getElem?_cons_succ, List.getElem?_cons_zero, Option.getD_some]; go_big_quiet_op; go_big_quiet_on
              refine wpTree_take rfl rfl ?_; intro K hK; simp only [Array.getD_eq_getD_getElem?, List.getElem?_toArray, List.getElem?_cons_succ, List.getElem?_cons_zero, Option.getD_some]; go_big_quiet_op; go_big_quiet_on
              refine wpTree_alt (wpTree_br rfl rfl ?_ wpTree_stop)
              have hS0 := Blk.new (w6) 29 #[.string ⟨#[]⟩, .int .i64 0, .slice none 0 0, .slice none 0 0]
              intro K hK
              go_simp
              refine hK _ _ (by (repeat (first | exact bl_refl | assumption | (apply bl_then; assumption) | refine bl_alloc ?_ _ | refine bl_drew ?_ | refine bl_drewN ?_ _))) ?_
              clear hK K
              refine wpTree_alt (wpTree_br rfl rfl ?_ wpTree_stop)
              have hS1 := hS0.below (show Below _ _ (w6.alloc (.cells #[.string ⟨#[]⟩, .int .i64 0, .slice none 0 0, .slice none 0 0] 29)) by (repeat (first | exact bl_refl | assumption | (apply bl_then; assumption) | refine bl_alloc ?_ _ | refine bl_drew ?_ | refine bl_drewN ?_ _)))
              intro K hK
              simp only [Array.getD_eq_getD_getElem?, List.getElem?_toArray, List.getElem?_cons_succ, List.getElem?_cons_zero, Option.getD_some]
              refine op_store_blk hS1 _ _ _ rfl rfl rfl rfl (by kernel_rfl) (by kernel_rfl) ?_
              intro w7 hS7 hc7
              have hg7 : w3.heap.size ≤ w6.heap.size := Below.size (show Below w3.heap.size w3 (w6) by (repeat (first | exact bl_refl | assumption | (apply bl_then; assumption) | refine bl_alloc ?_ _ | refine bl_drew ?_ | refine bl_drewN ?_ _)))
              refine hK _ _ (chg_bl (by (repeat (first | exact bl_refl | assumption | (apply bl_then; assumption) | refine bl_alloc ?_ _ | refine bl_drew ?_ | refine bl_drewN ?_ _))) hc7 hg7) ?_
              clear hK K
              refine wpTree_fin ?_
              (go_wp2_with fail; go_meet; case rel => exact ⟨_, A6, c6, A7, c7, rfl, rfl, hS7, Own.rd ec_len ((oL6.below (by (repeat (first | exact bl_refl | assumption | (apply bl_then; assumption) | refine bl_alloc ?_ _ | refine bl_drew ?_ | refine bl_drewN ?_ _)))).past hS1 (by decide) hc7), Own.rd ec_len ((oR6.below (by (repeat (first | exact bl_refl | assumption | (apply bl_then; assumption) | refine bl_alloc ?_ _ | refine bl_drew ?_ | refine bl_drewN ?_ _)))).past hS1 (by decide) hc7), chg_bl (by (repeat (first | exact bl_refl | assumption | (apply bl_then; assumption) | refine bl_alloc ?_ _ | refine bl_drew ?_ | refine bl_drewN ?_ _))) hc7 hg7⟩)
            · have hS0 := Blk.new (w5) 29 #[.string ⟨#[]⟩, .int .i64 0, .slice none 0 0, .slice none 0 0]
              intro K hK
              go_simp
              refine hK _ _ (by (repeat (first | exact bl_refl | assumption | (apply bl_then; assumption) | refine bl_alloc ?_ _ | refine bl_drew ?_ | refine bl_drewN ?_ _))) ?_
              clear hK K
              refine wpTree_alt (wpTree_br rfl rfl ?_ wpTree_stop)
              intro K hK
              go_simp
              refine (cStk _ _ _ _ _ ((oL4.rd ec_len).below (by (repeat (first | exact bl_refl | assumption | (apply bl_then; assumption) | refine bl_alloc ?_ _ | refine bl_drew ?_ | refine bl_drewN ?_ _)))) ((oR4.rd ec_len).below (by (repeat (first | exact bl_refl | assumption | (apply bl_then; assumption) | refine bl_alloc ?_ _ | refine bl_drew ?_ | refine bl_drewN ?_ _)))) ((oL5.rd ec_len).below (by (repeat (first | exact bl_refl | assumption | (apply bl_then; assumption) | refine bl_alloc ?_ _ | refine bl_drew ?_ | refine bl_drewN ?_ _)))) ((oR5.rd ec_len).below (by (repeat (first | exact bl_refl | assumption | (apply bl_then; assumption) | refine bl_alloc ?_ _ | refine bl_drew ?_ | refine bl_drewN ?_ _))))).mono ?_
              rintro e w6 ⟨vL6, vR6, rfl, oL6, oR6, hb6⟩
              obtain ⟨A6, c6, rfl⟩ := oL6.shape
              obtain ⟨A7, c7, rfl⟩ := oR6.shape
              refine hK _ _ (by (repeat (first | exact bl_refl | assumption | (apply bl_then; assumption) | refine bl_alloc ?_ _ | refine bl_drew ?_ | refine bl_drewN ?_ _))) ?_
              clear hK K
              refine wpTree_take rfl rfl ?_; intro K hK; simp only [Array.getD_eq_getD_getElem?, List.getElem?_toArray, List.getElem?_cons_succ, List.getElem?_cons_zero, Option.getD_some]; go_big_quiet_op; go_big_quiet_on
              refine wpTree_take rfl rfl ?_; intro K hK; simp only [Array.getD_eq_getD_getElem?, List.getElem?_toArray, List.getElem?_cons_succ, List.getElem?_cons_zero, Option.getD_some]; go_big_quiet_op; go_big_quiet_on
              refine wpTree_take rfl rfl ?_; intro K hK; simp only [Array.getD_eq_getD_getElem?, List.getElem?_toArray, List.getElem?_cons_succ, List.getElem?_cons_zero, Option.getD_some]; go_big_quiet_op; go_big_quiet_on
              refine wpTree_alt (wpTree_br rfl rfl ?_ wpTree_stop)
              have hS1 := hS0.below (show Below _ _ (w6) by (repeat (first | exact bl_refl | assumption | (apply bl_then; assumption) | refine bl_alloc ?_ _ | refine bl_drew ?_ | refine bl_drewN ?_ _)))
              intro K hK
              simp only [Array.getD_eq_getD_getElem?, List.getElem?_toArray, List.getElem?_cons_succ, List.getElem?_cons_zero, Option.getD_some]
              refine op_store_blk hS1 _ _ _ rfl rfl rfl rfl (by kernel_rfl) (by kernel_rfl) ?_
              intro w7 hS7 hc7
              have hg7 : w3.heap.size ≤ w5.heap.size := Below.size (show Below w3.heap.size w3 (w5) by (repeat (first | exact bl_refl | assumption | (apply bl_then; assumption) | refine bl_alloc ?_ _ | refine bl_drew ?_ | refine bl_drewN ?_ _)))
              refine hK _ _ (chg_bl (by (repeat (first | exact bl_refl | assumption | (apply bl_then; assumption) | refine bl_alloc ?_ _ | refine bl_drew ?_ | refine bl_drewN ?_ _))) hc7 hg7) ?_
              clear hK K
              refine wpTree_fin ?_
              (go_wp2_with fail; go_meet; case rel => exact ⟨_, A6, c6, A7, c7, rfl, rfl, hS7, Own.rd ec_len ((oL6.below (by (repeat (first | exact bl_refl | assumption | (apply bl_then; assumption) | refine bl_alloc ?_ _ | refine bl_drew ?_ | refine bl_drewN ?_ _)))).past hS1 (by decide) hc7), Own.rd ec_len ((oR6.below (by (repeat (first | exact bl_refl | assumption | (apply bl_then; assumption) | refine bl_alloc ?_ _ | refine bl_drew ?_ | refine bl_drewN ?_ _)))).past hS1 (by decide) hc7), chg_bl (by (repeat (first | exact bl_refl | assumption | (apply bl_then; assumption) | refine bl_alloc ?_ _ | refine bl_drew ?_ | refine bl_drewN ?_ _))) hc7 hg7⟩)
          · have hS0 := Blk.new (w4) 29 #[.string ⟨#[]⟩, .int .i64 0, .slice none 0 0, .slice none 0 0]
            intro K hK
            go_simp
            refine hK _ _ (by (repeat (first | exact bl_refl | assumption | (apply bl_then; assumption) | refine bl_alloc ?_ _ | refine bl_drew ?_ | refine bl_drewN ?_ _))) ?_
            clear hK K
            refine wpTree_alt (wpTree_br rfl rfl ?_ wpTree_stop)
            intro K hK
            go_simp
            refine (cGo _ (by (repeat (first | exact bl_refl | assumption | (apply bl_then; assumption) | refine bl_alloc ?_ _ | refine bl_drew ?_ | refine bl_drewN ?_ _)))).mono ?_
            rintro e w5 ⟨uL5, uR5, rfl, oL5, oR5, hb5⟩
            refine hK _ _ (by (repeat (first | exact bl_refl | assumption | (apply bl_then; assumption) | refine bl_alloc ?_ _ | refine bl_drew ?_ | refine bl_drewN ?_ _))) ?_
            clear hK K
            refine wpTree_alt (wpTree_br rfl rfl ?_ wpTree_stop)
            intro K hK
            go_simp
            refine (cStk _ _ _ _ _ ((oL4.rd ec_len).below (by (repeat (first | exact bl_refl | assumption | (apply bl_then; assumption) | refine bl_alloc ?_ _ | refine bl_drew ?_ | refine bl_drewN ?_ _)))) ((oR4.rd ec_len).below (by (repeat (first | exact bl_refl | assumption | (apply bl_then; assumption) | refine bl_alloc ?_ _ | refine bl_drew ?_ | refine bl_drewN ?_ _)))) ((oL5.rd ec_len).below (by (repeat (first | exact bl_refl | assumption | (apply bl_then; assumption) | refine bl_alloc ?_ _ | refine bl_drew ?_ | refine bl_drewN ?_ _)))) ((oR5.rd ec_len).below (by (repeat (first | exact bl_refl | assumption | (apply bl_then; assumption) | refine bl_alloc ?_ _ | refine bl_drew ?_ | refine bl_drewN ?_ _))))).mono ?_
            rintro e w6 ⟨vL6, vR6, rfl, oL6, oR6, hb6⟩
            obtain ⟨A6, c6, rfl⟩ := oL6.shape
            obtain ⟨A7, c7, rfl⟩ := oR6.shape
            refine hK _ _ (by (repeat (first | exact bl_refl | assumption | (apply bl_then; assumption) | refine bl_alloc ?_ _ | refine bl_drew ?_ | refine bl_drewN ?_ _))) ?_
            clear hK K
            refine wpTree_take rfl rfl ?_; intro K hK; simp only [Array.getD_eq_getD_getElem?, List.getElem?_toArray, List.getElem?_cons_succ, List.getElem?_cons_zero, Option.getD_some]; go_big_quiet_op; go_big_quiet_on
            refine wpTree_take rfl rfl ?_; intro K hK; simp only [Array.getD_eq_getD_getElem?, List.getElem?_toArray, List.getElem?_cons_succ, List.getElem?_cons_zero, Option.getD_some]; go_big_quiet_op; go_big_quiet_on
            refine wpTree_take rfl rfl ?_; intro K hK; simp only [Array.getD_eq_getD_getElem?, List.getElem?_toArray, List.getElem?_cons_succ, List.getElem?_cons_zero, Option.getD_some]; go_big_quiet_op; go_big_quiet_on
            refine wpTree_alt (wpTree_br rfl rfl ?_ wpTree_stop)
            have hS1 := hS0.below (show Below _ _ (w6) by (repeat (first | exact bl_refl | assumption | (apply bl_then; assumption) | refine bl_alloc ?_ _ | refine bl_drew ?_ | refine bl_drewN ?_ _)))
            intro K hK
            simp only [Array.getD_eq_getD_getElem?, List.getElem?_toArray, List.getElem?_cons_succ, List.getElem?_cons_zero, Option.getD_some]
            refine op_store_blk hS1 _ _ _ rfl rfl rfl rfl (by kernel_rfl) (by kernel_rfl) ?_
            intro w7 hS7 hc7
            have hg7 : w3.heap.size ≤ w4.heap.size := Below.size (show Below w3.heap.size w3 (w4) by (repeat (first | exact bl_refl | assumption | (apply bl_then; assumption) | refine bl_alloc ?_ _ | refine bl_drew ?_ | refine bl_drewN ?_ _)))
            refine hK _ _ (chg_bl (by (repeat (first | exact bl_refl | assumption | (apply bl_then; assumption) | refine bl_alloc ?_ _ | refine bl_drew ?_ | refine bl_drewN ?_ _))) hc7 hg7) ?_
            clear hK K
            refine wpTree_fin ?_
            (go_wp2_with fail; go_meet; case rel => exact ⟨_, A6, c6, A7, c7, rfl, rfl, hS7, Own.rd ec_len ((oL6.below (by (repeat (first | exact bl_refl | assumption | (apply bl_then; assumption) | refine bl_alloc ?_ _ | refine bl_drew ?_ | refine bl_drewN ?_ _)))).past hS1 (by decide) hc7), Own.rd ec_len ((oR6.below (by (repeat (first | exact bl_refl | assumption | (apply bl_then; assumption) | refine bl_alloc ?_ _ | refine bl_drew ?_ | refine bl_drewN ?_ _)))).past hS1 (by decide) hc7), chg_bl (by (repeat (first | exact bl_refl | assumption | (apply bl_then; assumption) | refine bl_alloc ?_ _ | refine bl_drew ?_ | refine bl_drewN ?_ _))) hc7 hg7⟩)
        · have hS0 := Blk.new (w3.drew) 29 #[.string ⟨#[]⟩, .int .i64 0, .slice none 0 0, .slice none 0 0]
          intro K hK
          go_simp
          refine hK _ _ (by (repeat (first | exact bl_refl | assumption | (apply bl_then; assumption) | refine bl_alloc ?_ _ | refine bl_drew ?_ | refine bl_drewN ?_ _))) ?_
          clear hK K
          refine wpTree_alt (wpTree_br rfl rfl ?_ wpTree_stop)
          intro K hK
          go_simp
          refine (cGp _ (by (repeat (first | exact bl_refl | assumption | (apply bl_then; assumption) | refine bl_alloc ?_ _ | refine bl_drew ?_ | refine bl_drewN ?_ _)))).mono ?_
          rintro e w4 ⟨uL4, uR4, rfl, oL4, oR4, hb4⟩
          refine hK _ _ (by (repeat (first | exact bl_refl | assumption | (apply bl_then; assumption) | refine bl_alloc ?_ _ | refine bl_drew ?_ | refine bl_drewN ?_ _))) ?_
          clear hK K
          refine wpTree_alt (wpTree_br rfl rfl ?_ wpTree_stop)
          intro K hK
          go_simp
          refine (cGo _ (by (repeat (first | exact bl_refl | assumption | (apply bl_then; assumption) | refine bl_alloc ?_ _ | refine bl_drew ?_ | refine bl_drewN ?_ _)))).mono ?_
          rintro e w5 ⟨uL5, uR5, rfl, oL5, oR5, hb5⟩
          refine hK _ _ (by (repeat (first | exact bl_refl | assumption | (apply bl_then; assumption) | refine bl_alloc ?_ _ | refine bl_drew ?_ | refine bl_drewN ?_ _))) ?_
          clear hK K
          refine wpTree_alt (wpTree_br rfl rfl ?_ wpTree_stop)
          intro K hK
          go_simp
          refine (cStk _ _ _ _ _ ((oL4.rd ec_len).below (by (repeat (first | exact bl_refl | assumption | (apply bl_then; assumption) | refine bl_alloc ?_ _ | refine bl_drew ?_ | refine bl_drewN ?_ _)))) ((oR4.rd ec_len).below (by (repeat (first | exact bl_refl | assumption | (apply bl_then; assumption) | refine bl_alloc ?_ _ | refine bl_drew ?_ | refine bl_drewN ?_ _)))) ((oL5.rd ec_len).below (by (repeat (first | exact bl_refl | assumption | (apply bl_then; assumption) | refine bl_alloc ?_ _ | refine bl_drew ?_ | refine bl_drewN ?_ _)))) ((oR5.rd ec_len).below (by (repeat (first | exact bl_refl | assumption | (apply bl_then; assumption) | refine bl_alloc ?_ _ | refine bl_drew ?_ | refine bl_drewN ?_ _))))).mono ?_
          rintro e w6 ⟨vL6, vR6, rfl, oL6, oR6, hb6⟩
          obtain ⟨A6, c6, rfl⟩ := oL6.shape
          obtain ⟨A7, c7, rfl⟩ := oR6.shape
          refine hK _ _ (by (repeat (first | exact bl_refl | assumption | (apply bl_then; assumption) | refine bl_alloc ?_ _ | refine bl_drew ?_ | refine bl_drewN ?_ _))) ?_
          clear hK K
          refine wpTree_take rfl rfl ?_; intro K hK; simp only [Array.getD_eq_getD_getElem?, List.getElem?_toArray, List.getElem?_cons_succ, List.getElem?_cons_zero, Option.getD_some]; go_big_quiet_op; go_big_quiet_on
          refine wpTree_take rfl rfl ?_; intro K hK; simp only [Array.getD_eq_getD_getElem?, List.getElem?_toArray, List.getElem?_cons_succ, List.getElem?_cons_zero, Option.getD_some]; go_big_quiet_op; go_big_quiet_on
          refine wpTree_take rfl rfl ?_; intro K hK; simp only [Array.getD_eq_getD_getElem?, List.getElem?_toArray, List.getElem?_cons_succ, List.getElem?_cons_zero, Option.getD_some]; go_big_quiet_op; go_big_quiet_on
          refine wpTree_alt (wpTree_br rfl rfl ?_ wpTree_stop)
          have hS1 := hS0.below (show Below _ _ (w6) by (repeat (first | exact bl_refl | assumption | (apply bl_then; assumption) | refine bl_alloc ?_ _ | refine bl_drew ?_ | refine bl_drewN ?_ _)))
          intro K hK
          simp only [Array.getD_eq_getD_getElem?, List.getElem?_toArray, List.getElem?_cons_succ, List.getElem?_cons_zero, Option.getD_some]
          refine op_store_blk hS1 _ _ _ rfl rfl rfl rfl (by kernel_rfl) (by kernel_rfl) ?_
          intro w7 hS7 hc7
          have hg7 : w3.heap.size ≤ w3.drew.heap.size := Below.size (show Below w3.heap.size w3 (w3.drew) by (repeat (first | exact bl_refl | assumption | (apply bl_then; assumption) | refine bl_alloc ?_ _ | refine bl_drew ?_ | refine bl_drewN ?_ _)))
          refine hK _ _ (chg_bl (by (repeat (first | exact bl_refl | assumption | (apply bl_then; assumption) | refine bl_alloc ?_ _ | refine bl_drew ?_ | refine bl_drewN ?_ _))) hc7 hg7) ?_
          clear hK K
          refine wpTree_fin ?_
          (go_wp2_with fail; go_meet; case rel => exact ⟨_, A6, c6, A7, c7, rfl, rfl, hS7, Own.rd ec_len ((oL6.below (by (repeat (first | exact bl_refl | assumption | (apply bl_then; assumption) | refine bl_alloc ?_ _ | refine bl_drew ?_ | refine bl_drewN ?_ _)))).past hS1 (by decide) hc7), Own.rd ec_len ((oR6.below (by (repeat (first | exact bl_refl | assumption | (apply bl_then; assumption) | refine bl_alloc ?_ _ | refine bl_drew ?_ | refine bl_drewN ?_ _)))).past hS1 (by decide) hc7), chg_bl (by (repeat (first | exact bl_refl | assumption | (apply bl_then; assumption) | refine bl_alloc ?_ _ | refine bl_drew ?_ | refine bl_drewN ?_ _))) hc7 hg7⟩)
      case rest =>
        obtain ⟨g7, A6, c6, A7, c7, rfl, rfl, hS7, sA, sB, hb7⟩ := hcut
        obtain ⟨w7, rfl⟩ : ∃ x, x = wc := ⟨_, rfl⟩
        replace hB1 := hB1.below hb7
        replace hB2 := hB2.below hb7
        have fB1 := hB1.facts
        have fB2 := hB2.facts
        go_wp2_with fail
        refine (cGp _ (by (repeat (first | exact bl_refl | assumption | (apply bl_then; assumption) | refine bl_alloc ?_ _ | refine bl_drew ?_ | refine bl_drewN ?_ _)))).mono ?_
        rintro e w8 ⟨uL8, uR8, rfl, oL8, oR8, hb8⟩
        replace hB1 := hB1.below (show Below _ _ w8 by (repeat (first | exact bl_refl | assumption | (apply bl_then; assumption) | refine bl_alloc ?_ _ | refine bl_drew ?_ | refine bl_drewN ?_ _)))
        replace fhB1 := hB1.facts
        replace hB2 := hB2.below (show Below _ _ w8 by (repeat (first | exact bl_refl | assumption | (apply bl_then; assumption) | refine bl_alloc ?_ _ | refine bl_drew ?_ | refine bl_drewN ?_ _)))
        replace fhB2 := hB2.facts
        replace hS7 := hS7.below (show Below _ _ w8 by (repeat (first | exact bl_refl | assumption | (apply bl_then; assumption) | refine bl_alloc ?_ _ | refine bl_drew ?_ | refine bl_drewN ?_ _)))
        replace fhS7 := hS7.facts
        go_wp2_with fail
        refine (cWid _ _ _ (oL8.rd ec_len) (oR8.rd ec_len)).mono ?_
        rintro e w9 ⟨vL9, vR9, rfl, oL9, oR9, hb9⟩
        replace hB1 := hB1.below (show Below _ _ w9 by (repeat (first | exact bl_refl | assumption | (apply bl_then; assumption) | refine bl_alloc ?_ _ | refine bl_drew ?_ | refine bl_drewN ?_ _)))
        replace fhB1 := hB1.facts
        replace hB2 := hB2.below (show Below _ _ w9 by (repeat (first | exact bl_refl | assumption | (apply bl_then; assumption) | refine bl_alloc ?_ _ | refine bl_drew ?_ | refine bl_drewN ?_ _)))
        replace fhB2 := hB2.facts
        replace hS7 := hS7.below (show Below _ _ w9 by (repeat (first | exact bl_refl | assumption | (apply bl_then; assumption) | refine bl_alloc ?_ _ | refine bl_drew ?_ | refine bl_drewN ?_ _)))
        replace fhS7 := hS7.facts
        obtain ⟨A8, c8, rfl⟩ := oL9.shape
        obtain ⟨A9, c9, rfl⟩ := oR9.shape
        have hZ9 := Blk.new w9 29 #[.string ⟨#[]⟩, .int .i64 0, .slice none 0 0, .slice none 0 0]
        go_upto_region 5 with (refine wpList_store_blk hZ9 rfl _ _ _ rfl rfl rfl (by rfl) (by kernel_rfl) (by kernel_rfl) ?_; intro x9 hS9 hc9)
        have hx9 : Below w9.heap.size w9 x9 := chg_bl (bl_alloc bl_refl _) hc9 (Nat.le_refl _)
        have sC := (oL9.rd ec_len).below hx9
        have sD := (oR9.rd ec_len).below hx9
        have hb79 : Below w7.heap.size w7 x9 := by (repeat (first | exact bl_refl | assumption | (apply bl_then; assumption) | refine bl_alloc ?_ _ | refine bl_drew ?_ | refine bl_drewN ?_ _))
        have sA9 := sA.below hb79
        have sB9 := sB.below hb79
        have hb09 : Below W.heap.size W x9 := bl_then hb79 (bl_then hb7 hb03)
        replace hB1 := hB1.below hx9
        replace hB2 := hB2.below hx9
        replace hS7 := hS7.below hx9
        have fB1 := hB1.facts
        have fB2 := hB2.facts
        clear hb79 hZ9 hc9 sA sB hb7 hb8 hb9 hx9 oL8 oR8 oL9 oR9 hb03 cGp cGo cStk cWid
        have HG7 := Lib.hid (fun (n : Nat) (h : x9.heap.size ≤ n) => Nat.lt_of_lt_of_le hS7.lt h)
        have HG9 := Lib.hid (fun (n : Nat) (h : x9.heap.size ≤ n) => Nat.lt_of_lt_of_le hS9.lt h)
        refine wp_region_ords [0, 2] [(1, false)] [3, 4, 5, 6] (by kernel_rfl) (by kernel_rfl) (fun d _ _ _ _ h => by cases d <;> exact h) ?_
        simp only [List.map_cons, List.map_nil, List.getD_cons_zero, List.getD_cons_succ]
        repeat (go_big_quiet_step (fail))
        refine wpQuiet_nil ?_
        refine wpMid_run rfl (fun K hK => ?_)
        go_simp
        refine (cCp _ (by (repeat (first | exact bl_refl | assumption | (apply bl_then; assumption) | refine bl_alloc ?_ _ | refine bl_drew ?_ | refine bl_drewN ?_ _)))).mono ?_
        rintro e w10 ⟨rfl, hb10⟩
        refine hK _ _ (by (repeat (first | exact bl_refl | assumption | (apply bl_then; assumption) | refine bl_alloc ?_ _ | refine bl_drew ?_ | refine bl_drewN ?_ _))) ?_
        clear hK K
        have hB1_w10 := hB1.below (show Below _ _ w10 by (repeat (first | exact bl_refl | assumption | (apply bl_then; assumption) | refine bl_alloc ?_ _ | refine bl_drew ?_ | refine bl_drewN ?_ _)))
        have fhB1_w10 := hB1_w10.facts
        have hB2_w10 := hB2.below (show Below _ _ w10 by (repeat (first | exact bl_refl | assumption | (apply bl_then; assumption) | refine bl_alloc ?_ _ | refine bl_drew ?_ | refine bl_drewN ?_ _)))
        have fhB2_w10 := hB2_w10.facts
        refine wpMid_nil ?_
        go_wp2_with (go_at_call 11; refine (cCo _ (by (repeat (first | exact bl_refl | assumption | (apply bl_then; assumption) | refine bl_alloc ?_ _ | refine bl_drew ?_ | refine bl_drewN ?_ _)))).mono ?_; rintro e w11 ⟨rfl, hb11⟩)
        go_must (refine (cF1 _ _ _ (Rd.ints2 (by simp) (by go_simp) (by go_simp))).mono ?_)
        rintro e w12 ⟨rfl, hb12⟩
        have hx12 : Below x9.heap.size x9 w12 := by (repeat (first | exact bl_refl | assumption | (apply bl_then; assumption) | refine bl_alloc ?_ _ | refine bl_drew ?_ | refine bl_drewN ?_ _))
        have hB1b := hB1.below hx12
        have fB1b := hB1b.facts
        go_wp2_with fail
        refine (cCp _ (by (repeat (first | exact bl_refl | assumption | (apply bl_then; assumption) | refine bl_alloc ?_ _ | refine bl_drew ?_ | refine bl_drewN ?_ _)))).mono ?_
        rintro e w13 ⟨rfl, hb13⟩
        replace hB1b := hB1b.below (show Below _ _ w13 by (repeat (first | exact bl_refl | assumption | (apply bl_then; assumption) | refine bl_alloc ?_ _ | refine bl_drew ?_ | refine bl_drewN ?_ _)))
        replace fhB1b := hB1b.facts
        go_wp2_with (go_at_call 12; refine (rrange_any d (-128) 128 _).mono ?_; rintro e w14 ⟨rfl, hb14⟩)
        go_must (refine (cF2 _ _ _ (Rd.ints2 (by simp) (by go_simp) (by go_simp))).mono ?_)
        rintro e w15 ⟨rfl, hb15⟩
        have hx15 : Below x9.heap.size x9 w15 := by (repeat (first | exact bl_refl | assumption | (apply bl_then; assumption) | refine bl_alloc ?_ _ | refine bl_drew ?_ | refine bl_drewN ?_ _))
        replace hB1 := hB1.below hx15
        replace hB2 := hB2.below hx15
        have hgW : W.heap.size < w15.heap.size := hB1.lt
        have fB1 := hB1.facts
        have fB2 := hB2.facts
        have hT13 := (Blk.new w15 24 #[.string ⟨#[]⟩, .int .i64 0, .slice none 0 0, .slice none 0 0]).alloc (.cells #[.string ⟨p.1.toArray⟩, .int .i64 p.2.1, .slice AL p.2.2.1.length cL, .slice AR p.2.2.2.length cR] 24)
        have hT14 := Blk.new1 w15 (.cells #[.string ⟨#[]⟩, .int .i64 0, .slice none 0 0, .slice none 0 0] 24) 24 #[.string ⟨p.1.toArray⟩, .int .i64 p.2.1, .slice AL p.2.2.1.length cL, .slice AR p.2.2.2.length cR]
        clear hb10 hb11 hb12 hb13 hb14 hb15 hx12 cCp cCo cF1 cF2 hB1b fB1b
        go_upto_region 9 with fail
        obtain ⟨x16, hx16⟩ : ∃ X, (w15.alloc (.cells #[.string ⟨#[]⟩, .int .i64 0, .slice none 0 0, .slice none 0 0] 24)).alloc (.cells #[.string ⟨p.1.toArray⟩, .int .i64 p.2.1, .slice AL p.2.2.1.length cL, .slice AR p.2.2.2.length cR] 24) = X := ⟨_, rfl⟩
        have hb16 : Below w15.heap.size w15 x16 := by rw [← hx16]; exact bl_alloc (bl_alloc bl_refl _) _
        have hz16 : w15.heap.size + 1 + 1 ≤ x16.heap.size := by rw [← hx16]; simp
        rw [hx16] at hT13 hT14 ⊢
        clear hx16
        have hx9s := hx15.size
        have hxx : Below x9.heap.size x9 x16 := bl_then hb16 hx15
        replace hB1 := hB1.below hb16
        replace hB2 := hB2.below hb16
        replace hS7 := hS7.below hxx
        replace hS9 := hS9.below hxx
        clear fB1 fB2
        have hg7 : g7 < w15.heap.size := HG7.out _ hx9s
        have hg9 : w9.heap.size < w15.heap.size := HG9.out _ hx9s
        rcases hcase with ⟨hT0, hET⟩ | ⟨hT0, q, hq, hE⟩
        · rw [hET] at w1a
          have c1 := w1a hT0
          have tT : (T == 0) = false := beq_false_of_ne hT0
          clear hET hT0 w1a w1b cRS
          by_cases hz2 : E2 = 0
          · have c2 := w2a hz2
            obtain ⟨h30, hd1, hd2⟩ := hwz hz2
            obtain ⟨p1, p2⟩ := hpw h30
            subst hz2
            have fT := hT14.facts
            have fT13 := hT13.facts
            have fS7 := hS7.facts
            have fBx := hB1.facts
            go_upto_region 15 with fail
            obtain ⟨x17, hx17⟩ : ∃ Z, x16.setCell ⟨w15.heap.size + 1, 1, none⟩ (.int .i64 (p.2.1 + d)) = Z := ⟨_, rfl⟩
            have hY : Below x9.heap.size x9 x17 := by rw [← hx17]; exact bl_set hxx (show x9.heap.size ≤ w15.heap.size + 1 by omega) _
            have kS7 := hS7.setA (g' := w15.heap.size + 1) (i := 1) (u := .int .i64 (p.2.1 + d)) (by omega)
            have kS9 := hS9.setA (g' := w15.heap.size + 1) (i := 1) (u := .int .i64 (p.2.1 + d)) (by omega)
            have kT13 := hT13.setA (g' := w15.heap.size + 1) (i := 1) (u := .int .i64 (p.2.1 + d)) (by omega)
            have kT14 := hT14.set_ 1 (.int .i64 (p.2.1 + d))
            rw [hx17] at kS7 kS9 kT13 kT14 ⊢
            have kT14 : Blk x17 (w15.heap.size + 1) 24 #[.string ⟨p.1.toArray⟩, .int .i64 (p.2.1 + d), .slice AL p.2.2.1.length cL, .slice AR p.2.2.2.length cR] := kT14
            have gS7 := kS7.facts
            have gT13 := kT13.facts
            clear hx17 hS7 hT13 hT14 fT fT13 fS7 hS9
            go_wp2_with fail
            refine (c1 _ _ _ _ _ (sA9.below hY) (sB9.below hY) Sl.nil_ Sl.nil_).mono ?_
            rintro e w20 ⟨rfl, hb20⟩
            replace kS9 := kS9.below (show Below _ _ w20 by (repeat (first | exact bl_refl | assumption | (apply bl_then; assumption) | refine bl_alloc ?_ _ | refine bl_drew ?_ | refine bl_drewN ?_ _)))
            replace fkS9 := kS9.facts
            replace kT14 := kT14.below (show Below _ _ w20 by (repeat (first | exact bl_refl | assumption | (apply bl_then; assumption) | refine bl_alloc ?_ _ | refine bl_drew ?_ | refine bl_drewN ?_ _)))
            replace fkT14 := kT14.facts
            have hY2 : Below x9.heap.size x9 w20 := bl_then hb20 hY
            go_wp2_with fail
            refine (c2 _ _ _ _ _ (sC.below hY2) (sD.below hY2) (hL.below (bl_then hY2 hb09)) (hR.below (bl_then hY2 hb09))).mono ?_
            rintro e w21 ⟨rfl, hb21⟩
            go_wp2
            go_ret
            exact ⟨rfl, bl_then hb21 (bl_then hY2 hb09)⟩
          · have c2 := w2b hz2
            have tz2 : (E2 == 0) = false := beq_false_of_ne hz2
            have fT13 := hT13.facts
            have fS7 := hS7.facts
            go_upto_region 15 with fail
            go_wp2_with fail
            refine (c1 _ _ _ _ _ (sA9.below hxx) (sB9.below hxx) Sl.nil_ Sl.nil_).mono ?_
            rintro e w20 ⟨rfl, hb20⟩
            replace hS9 := hS9.below (show Below _ _ w20 by (repeat (first | exact bl_refl | assumption | (apply bl_then; assumption) | refine bl_alloc ?_ _ | refine bl_drew ?_ | refine bl_drewN ?_ _)))
            replace fhS9 := hS9.facts
            replace hT14 := hT14.below (show Below _ _ w20 by (repeat (first | exact bl_refl | assumption | (apply bl_then; assumption) | refine bl_alloc ?_ _ | refine bl_drew ?_ | refine bl_drewN ?_ _)))
            replace fhT14 := hT14.facts
            have hY2 : Below x9.heap.size x9 w20 := bl_then hb20 hxx
            go_wp2_with fail
            refine (c2 _ _ _ _ _ (sC.below hY2) (sD.below hY2) (hL.below (bl_then hY2 hb09)) (hR.below (bl_then hY2 hb09))).mono ?_
            rintro e w21 ⟨rfl, hb21⟩
            go_wp2
            go_ret
            exact ⟨rfl, bl_then hb21 (bl_then hY2 hb09)⟩
        · have cR := cRS hT0
          rw [hq] at cR
          subst hT0
          subst hQSv
          simp only at w1b
          have fB1 := hB1.facts
          have fB2 := hB2.facts
          go_wp2_with fail
          refine (cR _ (bl_then hxx hb09)).mono ?_
          rintro e w17 ⟨xL, xR, rfl, oX, oY, hb17⟩
          replace hB1 := hB1.below (show Below _ _ w17 by (repeat (first | exact bl_refl | assumption | (apply bl_then; assumption) | refine bl_alloc ?_ _ | refine bl_drew ?_ | refine bl_drewN ?_ _)))
          replace fhB1 := hB1.facts
          replace hB2 := hB2.below (show Below _ _ w17 by (repeat (first | exact bl_refl | assumption | (apply bl_then; assumption) | refine bl_alloc ?_ _ | refine bl_drew ?_ | refine bl_drewN ?_ _)))
          replace fhB2 := hB2.facts
          replace hS7 := hS7.below (show Below _ _ w17 by (repeat (first | exact bl_refl | assumption | (apply bl_then; assumption) | refine bl_alloc ?_ _ | refine bl_drew ?_ | refine bl_drewN ?_ _)))
          replace fhS7 := hS7.facts
          replace hS9 := hS9.below (show Below _ _ w17 by (repeat (first | exact bl_refl | assumption | (apply bl_then; assumption) | refine bl_alloc ?_ _ | refine bl_drew ?_ | refine bl_drewN ?_ _)))
          replace fhS9 := hS9.facts
          replace hT13 := hT13.below (show Below _ _ w17 by (repeat (first | exact bl_refl | assumption | (apply bl_then; assumption) | refine bl_alloc ?_ _ | refine bl_drew ?_ | refine bl_drewN ?_ _)))
          replace fhT13 := hT13.facts
          replace hT14 := hT14.below (show Below _ _ w17 by (repeat (first | exact bl_refl | assumption | (apply bl_then; assumption) | refine bl_alloc ?_ _ | refine bl_drew ?_ | refine bl_drewN ?_ _)))
          replace fhT14 := hT14.facts
          obtain ⟨AX, cX, rfl⟩ := oX.shape
          obtain ⟨AY, cY, rfl⟩ := oY.shape
          go_upto_region 12 with (refine wpList_store_blk hT13 rfl _ _ _ rfl rfl rfl (by rfl) (by kernel_rfl) (by kernel_rfl) ?_; intro x18 hT13b hc18)
          have hx18 : Below x9.heap.size x9 x18 := chg_bl (bl_then hb17 hxx) hc18 (by omega)
          have hz17 := hb17.size
          have oX8 := oX.chg hc18 (by simp <;> omega)
          have oY8 := oY.chg hc18 (by simp <;> omega)
          replace hS7 := hS7.chg hc18 (by simp; omega)
          replace hS9 := hS9.chg hc18 (by simp; omega)
          replace hT14 := hT14.chg hc18 (by simp)
          replace hB1 := hB1.chg hc18 (by simp; omega)
          go_wp2_with fail
          refine (lwhn_any (!q) 24 _).mono ?_
          rintro e w19 ⟨rfl, hb19⟩
          replace hS7 := hS7.below (show Below _ _ w19 by (repeat (first | exact bl_refl | assumption | (apply bl_then; assumption) | refine bl_alloc ?_ _ | refine bl_drew ?_ | refine bl_drewN ?_ _)))
          replace fhS7 := hS7.facts
          replace hS9 := hS9.below (show Below _ _ w19 by (repeat (first | exact bl_refl | assumption | (apply bl_then; assumption) | refine bl_alloc ?_ _ | refine bl_drew ?_ | refine bl_drewN ?_ _)))
          replace fhS9 := hS9.facts
          replace hT13b := hT13b.below (show Below _ _ w19 by (repeat (first | exact bl_refl | assumption | (apply bl_then; assumption) | refine bl_alloc ?_ _ | refine bl_drew ?_ | refine bl_drewN ?_ _)))
          replace fhT13b := hT13b.facts
          replace hT14 := hT14.below (show Below _ _ w19 by (repeat (first | exact bl_refl | assumption | (apply bl_then; assumption) | refine bl_alloc ?_ _ | refine bl_drew ?_ | refine bl_drewN ?_ _)))
          replace fhT14 := hT14.facts
          replace hB1 := hB1.below (show Below _ _ w19 by (repeat (first | exact bl_refl | assumption | (apply bl_then; assumption) | refine bl_alloc ?_ _ | refine bl_drew ?_ | refine bl_drewN ?_ _)))
          replace fhB1 := hB1.facts
          rw [← hE]
          clear hE hq
          have hx19 : Below x9.heap.size x9 w19 := bl_then hb19 hx18
          have sX := (oX8.below hb19)
          have sY := (oY8.below hb19)
          have zX : SlE w19 (.slice AX (p.2.2.1.length + o.2.2.1.length) cX) (p.2.2.1 ++ o.2.2.1) := rdlE sX List.length_append.symm
          have zY : SlE w19 (.slice AY (p.2.2.2.length + o.2.2.2.length) cY) (p.2.2.2 ++ o.2.2.2) := rdlE sY List.length_append.symm
          have c1 := w1b
          have hT13 := hT13b
          clear hb17 hc18 hx18 oX oY oX8 oY8 hb19 w1a w1b cRS cR hB2 fB2 hxx fhS7 fhS9 fhT13 fhT14 fhB1
          by_cases hz2 : E2 = 0
          · have c2 := w2a hz2
            obtain ⟨h30, hd1, hd2⟩ := hwz hz2
            obtain ⟨p1, p2⟩ := hpw h30
            subst hz2
            have fT := hT14.facts
            have fT13 := hT13.facts
            have fS7 := hS7.facts
            have fBx := hB1.facts
            go_upto_region 15 with fail
            obtain ⟨x17, hx17⟩ : ∃ Z, w19.setCell ⟨w15.heap.size + 1, 1, none⟩ (.int .i64 (p.2.1 + d)) = Z := ⟨_, rfl⟩
            have hY : Below x9.heap.size x9 x17 := by rw [← hx17]; exact bl_set hx19 (show x9.heap.size ≤ w15.heap.size + 1 by omega) _
            have kS7 := hS7.setA (g' := w15.heap.size + 1) (i := 1) (u := .int .i64 (p.2.1 + d)) (by omega)
            have kS9 := hS9.setA (g' := w15.heap.size + 1) (i := 1) (u := .int .i64 (p.2.1 + d)) (by omega)
            have kT13 := hT13.setA (g' := w15.heap.size + 1) (i := 1) (u := .int .i64 (p.2.1 + d)) (by omega)
            have kT14 := hT14.set_ 1 (.int .i64 (p.2.1 + d))
            have rX0 := (sX.set (p := ⟨w15.heap.size + 1, 1, none⟩) (fun e => by have := (sX.lt _ e).1; simp only at this; omega) (.int .i64 (p.2.1 + d)))
            have rY0 := (sY.set (p := ⟨w15.heap.size + 1, 1, none⟩) (fun e => by have := (sY.lt _ e).1; simp only at this; omega) (.int .i64 (p.2.1 + d)))
            rw [hx17] at kS7 kS9 kT13 kT14 rX0 rY0 ⊢
            have rX : SlE x17 (.slice AX (p.2.2.1.length + o.2.2.1.length) cX) (p.2.2.1 ++ o.2.2.1) := rdlE rX0 List.length_append.symm
            have rY : SlE x17 (.slice AY (p.2.2.2.length + o.2.2.2.length) cY) (p.2.2.2 ++ o.2.2.2) := rdlE rY0 List.length_append.symm
            clear rX0 rY0
            have kT14 : Blk x17 (w15.heap.size + 1) 24 #[.string ⟨p.1.toArray⟩, .int .i64 (p.2.1 + d), .slice AL p.2.2.1.length cL, .slice AR p.2.2.2.length cR] := kT14
            have gS7 := kS7.facts
            have gT13 := kT13.facts
            clear hx17 hS7 hT13 hT14 fT fT13 fS7 hS9
            go_wp2_with fail
            refine (c1 _ _ _ _ _ (sA9.below hY) (sB9.below hY) rX rY).mono ?_
            rintro e w20 ⟨rfl, hb20⟩
            replace kS9 := kS9.below (show Below _ _ w20 by (repeat (first | exact bl_refl | assumption | (apply bl_then; assumption) | refine bl_alloc ?_ _ | refine bl_drew ?_ | refine bl_drewN ?_ _)))
            replace fkS9 := kS9.facts
            replace kT14 := kT14.below (show Below _ _ w20 by (repeat (first | exact bl_refl | assumption | (apply bl_then; assumption) | refine bl_alloc ?_ _ | refine bl_drew ?_ | refine bl_drewN ?_ _)))
            replace fkT14 := kT14.facts
            have hY2 : Below x9.heap.size x9 w20 := bl_then hb20 hY
            go_wp2_with fail
            refine (c2 _ _ _ _ _ (sC.below hY2) (sD.below hY2) (hL.below (bl_then hY2 hb09)) (hR.below (bl_then hY2 hb09))).mono ?_
            rintro e w21 ⟨rfl, hb21⟩
            go_wp2
            go_ret
            exact ⟨rfl, bl_then hb21 (bl_then hY2 hb09)⟩
          · have c2 := w2b hz2
            have tz2 : (E2 == 0) = false := beq_false_of_ne hz2
            have fT13 := hT13.facts
            have fS7 := hS7.facts
            go_upto_region 15 with fail
            go_wp2_with fail
            refine (c1 _ _ _ _ _ (sA9.below hx19) (sB9.below hx19) zX zY).mono ?_
            rintro e w20 ⟨rfl, hb20⟩
            replace hS9 := hS9.below (show Below _ _ w20 by (repeat (first | exact bl_refl | assumption | (apply bl_then; assumption) | refine bl_alloc ?_ _ | refine bl_drew ?_ | refine bl_drewN ?_ _)))
            replace fhS9 := hS9.facts
            replace hT14 := hT14.below (show Below _ _ w20 by (repeat (first | exact bl_refl | assumption | (apply bl_then; assumption) | refine bl_alloc ?_ _ | refine bl_drew ?_ | refine bl_drewN ?_ _)))
            replace fhT14 := hT14.facts
            have hY2 : Below x9.heap.size x9 w20 := bl_then hb20 hx19
            go_wp2_with fail
            refine (c2 _ _ _ _ _ (sC.below hY2) (sD.below hY2) (hL.below (bl_then hY2 hb09)) (hR.below (bl_then hY2 hb09))).mono ?_
            rintro e w21 ⟨rfl, hb21⟩
            go_wp2
            go_ret
            exact ⟨rfl, bl_then hb21 (bl_then hY2 hb09)⟩
end Go.Proofs.YtmjfkgbbhplhcaaGreatDoor

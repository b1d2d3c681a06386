/- PanelForms, walked. Conditions: the variables are laid. -/
import Derived.Test.YthkjgcldolnjaaaGreatDoorI37
import Derived.Test.YthkjgcldolnjaaaGreatDoorI45
import Derived.Test.YthkjgcldolnjaaaGreatDoorI40
import Derived.Test.YthkjgcldolnjaaaGreatDoorI46
import Derived.Test.YthkjgcldolnjaaaGreatDoorI47
namespace Go.Proofs.YthkjgcldolnjaaaGreatDoor
open Go.RowKit Go.ChangeMaps
set_option maxHeartbeats 4000000
set_option maxRecDepth 100000

attribute [local go_sem] Oper.semAt_some
/-! # PanelForms -/
theorem pln_words (l : List Stp) : ∀ e ∈ plnL l, e.1.length ≤ 64 := by
  have h : ∀ (l : List Stp) (s : PlS), PlOk s → (∀ e ∈ s.1, e.1.length ≤ 64) → PlOk (l.foldl plS s) ∧ ∀ e ∈ (l.foldl plS s).1, e.1.length ≤ 64 := by
    intro l
    induction l with
    | nil => intro s h1 h2; exact ⟨h1, h2⟩
    | cons x r ih =>
      intro s h1 h2
      refine ih (plS s x) (plS_ok h1 x).1 ?_
      by_cases hc : cutS s x = true
      · rw [plR_cut h1 hc]
        intro e he
        simp only at he
        unfold refO at he
        split at he
        · exact h2 e he
        · rcases List.mem_append.1 he with he | he
          · exact h2 e he
          · simp only [List.mem_singleton] at he
            rw [he]
            exact h1.len
      · rw [plR_on h1 (by simpa using hc)]
        exact h2
  obtain ⟨h1, h2⟩ := h l ([], [], 0) ⟨.inl rfl, by simp⟩ (fun e he => by cases he)
  rw [← refO_end]
  intro e he
  unfold refO at he
  split at he
  · exact h2 e he
  · rcases List.mem_append.1 he with he | he
    · exact h2 e he
    · simp only [List.mem_singleton] at he
      rw [he]
      exact h1.len
theorem pln_len (l : List Stp) : (plnL l).length ≤ l.length := by rw [← refO_end]; exact refO_len l
theorem opp_words {l : List Edg} {n : Nat} (h : ∀ e ∈ l, e.1.length ≤ n) : ∀ e ∈ oppL l, e.1.length ≤ n := by
  intro e he
  unfold oppL at he
  obtain ⟨d, hd, rfl⟩ := List.mem_map.1 he
  show d.1.reverse.length ≤ n
  rw [List.length_reverse]
  exact h d (by simpa using hd)
theorem opp_len (l : List Edg) : (oppL l).length = l.length := by unfold oppL; simp
theorem pcR_len (E : Int) (q : Pan) : (pcR E q).2.2.1.length ≤ q.2.2.1.length ∧ (pcR E q).2.2.2.length ≤ q.2.2.2.length := by
  unfold pcR panZ
  split <;> simp
theorem firstI_two (b : Int) : firstI [0, b] = b := by
  show (if (0 : Int) = 0 then firstI [b] else 0) = b
  rw [if_pos rfl]
  show (if b = 0 then firstI [] else b) = b
  by_cases h : b = 0
  · rw [if_pos h, h]; rfl
  · rw [if_neg h]
theorem pcR_bad {E : Int} (h : E ≠ 0) (q : Pan) : pcR E q = panZ := by
  unfold pcR
  rw [show pcE E q = E from if_pos h, if_neg h]
theorem panelForms_any {vL vR uL uR : Value} (p o : Pan) (W : World) (hnp : p.1.length ≤ maxLen) (hL : SlE W vL p.2.2.1) (hR : SlE W vR p.2.2.2) (hno : o.1.length ≤ maxLen) (kL : SlE W uL o.2.2.1) (kR : SlE W uR o.2.2.2) (hLay : Lay W) :
    Calls Tryz.prog 3 #[.agg #[sV p.1, .int .i64 p.2.1, vL, vR], .agg #[sV o.1, .int .i64 o.2.1, uL, uR]] W (RV W (.bool true)) := by
  have cAw := fun W' (hb : Below W.heap.size W W') => awakeP_any W' (hLay.below hb)
  have cSp := fun W' (hb : Below W.heap.size W W') => shortP_any p 40 W' hnp (hL.below hb) (hR.below hb)
  have cSo := fun W' (hb : Below W.heap.size W W') => shortP_any o 40 W' hno (kL.below hb) (kR.below hb)
  obtain ⟨q1, hq1⟩ : ∃ q, shortP p 40 = q := ⟨_, rfl⟩
  obtain ⟨q2, hq2⟩ : ∃ q, shortP o 40 = q := ⟨_, rfl⟩
  rw [hq1] at cSp
  rw [hq2] at cSo
  obtain ⟨AL, cL, hvL, _, _, _⟩ := id hL
  obtain ⟨AR, cR, hvR, _, _, _⟩ := id hR
  obtain ⟨BL, dL, huL, _, _, _⟩ := id kL
  obtain ⟨BR, dR, huR, _, _, _⟩ := id kR
  subst hvL hvR huL huR
  have hB1 := (Blk.new W 24 #[.string ⟨p.1.toArray⟩, .int .i64 p.2.1, .slice AL p.2.2.1.length cL, .slice AR p.2.2.2.length cR]).alloc (.cells #[.string ⟨o.1.toArray⟩, .int .i64 o.2.1, .slice BL o.2.2.1.length dL, .slice BR o.2.2.2.length dR] 24)
  have hB2 := Blk.new1 W (.cells #[.string ⟨p.1.toArray⟩, .int .i64 p.2.1, .slice AL p.2.2.1.length cL, .slice AR p.2.2.2.length cR] 24) 24 #[.string ⟨o.1.toArray⟩, .int .i64 o.2.1, .slice BL o.2.2.1.length dL, .slice BR o.2.2.2.length dR]
  have fB1 := hB1.facts
  have fB2 := hB2.facts
  cases q1
  · simp only [sV] at cSp ⊢
    clear hq1 hq2 hL hR kL kR
    go_enter Tryz.func3, Tryz.ntmps3
    go_wp2_with fail
    refine (cAw _ (by (repeat (first | exact bl_refl | assumption | (apply bl_then; assumption) | refine bl_alloc ?_ _ | refine bl_drew ?_ | refine bl_drewN ?_ _)))).mono ?_
    rintro e w1 ⟨rfl, hb1⟩
    replace hB1 := hB1.below (show Below _ _ w1 by (repeat (first | exact bl_refl | assumption | (apply bl_then; assumption) | refine bl_alloc ?_ _ | refine bl_drew ?_ | refine bl_drewN ?_ _)))
    replace fhB1 := hB1.facts
    replace hB2 := hB2.below (show Below _ _ w1 by (repeat (first | exact bl_refl | assumption | (apply bl_then; assumption) | refine bl_alloc ?_ _ | refine bl_drew ?_ | refine bl_drewN ?_ _)))
    replace fhB2 := hB2.facts
    go_wp2_with fail
    refine (cSp _ (by (repeat (first | exact bl_refl | assumption | (apply bl_then; assumption) | refine bl_alloc ?_ _ | refine bl_drew ?_ | refine bl_drewN ?_ _)))).mono ?_
    rintro e w2 ⟨rfl, hb2⟩
    go_wp2_with fail
    refine (cAw _ (by (repeat (first | exact bl_refl | assumption | (apply bl_then; assumption) | refine bl_alloc ?_ _ | refine bl_drew ?_ | refine bl_drewN ?_ _)))).mono ?_
    rintro e w3 ⟨rfl, hb3⟩
    go_wp2
    go_ret
    exact ⟨rfl, by (repeat (first | exact bl_refl | assumption | (apply bl_then; assumption) | refine bl_alloc ?_ _ | refine bl_drew ?_ | refine bl_drewN ?_ _))⟩
  · cases q2
    · simp only [sV] at cSp cSo ⊢
      clear hq1 hq2 hL hR kL kR
      go_enter Tryz.func3, Tryz.ntmps3
      go_wp2_with fail
      refine (cAw _ (by (repeat (first | exact bl_refl | assumption | (apply bl_then; assumption) | refine bl_alloc ?_ _ | refine bl_drew ?_ | refine bl_drewN ?_ _)))).mono ?_
      rintro e w1 ⟨rfl, hb1⟩
      replace hB1 := hB1.below (show Below _ _ w1 by (repeat (first | exact bl_refl | assumption | (apply bl_then; assumption) | refine bl_alloc ?_ _ | refine bl_drew ?_ | refine bl_drewN ?_ _)))
      replace fhB1 := hB1.facts
      replace hB2 := hB2.below (show Below _ _ w1 by (repeat (first | exact bl_refl | assumption | (apply bl_then; assumption) | refine bl_alloc ?_ _ | refine bl_drew ?_ | refine bl_drewN ?_ _)))
      replace fhB2 := hB2.facts
      go_wp2_with fail
      refine (cSp _ (by (repeat (first | exact bl_refl | assumption | (apply bl_then; assumption) | refine bl_alloc ?_ _ | refine bl_drew ?_ | refine bl_drewN ?_ _)))).mono ?_
      rintro e w2 ⟨rfl, hb2⟩
      replace hB1 := hB1.below (show Below _ _ w2 by (repeat (first | exact bl_refl | assumption | (apply bl_then; assumption) | refine bl_alloc ?_ _ | refine bl_drew ?_ | refine bl_drewN ?_ _)))
      replace fhB1 := hB1.facts
      replace hB2 := hB2.below (show Below _ _ w2 by (repeat (first | exact bl_refl | assumption | (apply bl_then; assumption) | refine bl_alloc ?_ _ | refine bl_drew ?_ | refine bl_drewN ?_ _)))
      replace fhB2 := hB2.facts
      go_wp2_with fail
      refine (cSo _ (by (repeat (first | exact bl_refl | assumption | (apply bl_then; assumption) | refine bl_alloc ?_ _ | refine bl_drew ?_ | refine bl_drewN ?_ _)))).mono ?_
      rintro e w3 ⟨rfl, hb3⟩
      replace hB1 := hB1.below (show Below _ _ w3 by (repeat (first | exact bl_refl | assumption | (apply bl_then; assumption) | refine bl_alloc ?_ _ | refine bl_drew ?_ | refine bl_drewN ?_ _)))
      replace fhB1 := hB1.facts
      replace hB2 := hB2.below (show Below _ _ w3 by (repeat (first | exact bl_refl | assumption | (apply bl_then; assumption) | refine bl_alloc ?_ _ | refine bl_drew ?_ | refine bl_drewN ?_ _)))
      replace fhB2 := hB2.facts
      go_wp2_with fail
      refine (cAw _ (by (repeat (first | exact bl_refl | assumption | (apply bl_then; assumption) | refine bl_alloc ?_ _ | refine bl_drew ?_ | refine bl_drewN ?_ _)))).mono ?_
      rintro e w4 ⟨rfl, hb4⟩
      go_wp2
      go_ret
      exact ⟨rfl, by (repeat (first | exact bl_refl | assumption | (apply bl_then; assumption) | refine bl_alloc ?_ _ | refine bl_drew ?_ | refine bl_drewN ?_ _))⟩
    · obtain ⟨hp60, ⟨plL, pwL⟩, plR, pwR⟩ := shortP_words hq1
      obtain ⟨ho60, ⟨olL, owL⟩, olR, owR⟩ := shortP_words hq2
      have cGp := fun W' (hb : Below W.heap.size W W') => given_any p W' (hL.below hb) (hR.below hb) (by omega) (by omega)
      have cGo := fun W' (hb : Below W.heap.size W W') => given_any o W' (kL.below hb) (kR.below hb) (by omega) (by omega)
      have pwL' : ∀ e ∈ p.2.2.1, e.1.length ≤ 1000000 := fun e he => by have := pwL e he; omega
      have pwR' : ∀ e ∈ p.2.2.2, e.1.length ≤ 1000000 := fun e he => by have := pwR e he; omega
      have owL' : ∀ e ∈ o.2.2.1, e.1.length ≤ 1000000 := fun e he => by have := owL e he; omega
      have owR' : ∀ e ∈ o.2.2.2, e.1.length ≤ 1000000 := fun e he => by have := owR e he; omega
      have cCp := fun W' (hb : Below W.heap.size W W') => rcheckPanel_any p W' (by omega) (hL.below hb) (hR.below hb) pwL' pwR'
      have cCo := fun W' (hb : Below W.heap.size W W') => rcheckPanel_any o W' (by omega) (kL.below hb) (kR.below hb) owL' owR'
      have cPl := fun (a b : Value) W' h1 h2 => apiPlain_any (vL := a) (vR := b) p W' (by omega) h1 h2
      have cMi := fun (a b : Value) W' h1 h2 => apiMirror_any (vL := a) (vR := b) p W' (by omega) h1 h2
      have cTu := fun (a b : Value) W' h1 h2 => apiTurn_any (vL := a) (vR := b) p W' (by omega) h1 h2
      have cSm := fun (a b c d : Value) W' h1 h2 h3 h4 => apiSame_any (vL := a) (vR := b) (uL := c) (uR := d) p o W' (by omega) (by omega) h1 h2 h3 h4
      have cPc := fun (h want : Pan) (e bad : Int) (a b c f : Value) W' h1 h2 h3 h4 => piece_any (hl := a) (hr := b) (wl := c) (wr := f) h want e bad W' h1 h2 h3 h4
      unfold GIW at cGp cGo
      unfold RPN at cPl cMi cTu
      have lPl : (pcR (panE p) (plaQ p)).2.2.1.length ≤ (plnL (stpL p.2.2.1)).length ∧ (pcR (panE p) (plaQ p)).2.2.2.length ≤ (plnL (stpL p.2.2.2)).length := pcR_len (panE p) (plaQ p)
      have lMi : (pcR (panE p) (mirQ p)).2.2.1.length ≤ p.2.2.2.length ∧ (pcR (panE p) (mirQ p)).2.2.2.length ≤ p.2.2.1.length := pcR_len (panE p) (mirQ p)
      have lTu : (pcR (panE p) (turQ p)).2.2.1.length ≤ p.2.2.2.length ∧ (pcR (panE p) (turQ p)).2.2.2.length ≤ p.2.2.1.length := ⟨Nat.le_trans (pcR_len (panE p) (turQ p)).1 (Nat.le_of_eq (opp_len p.2.2.2)), Nat.le_trans (pcR_len (panE p) (turQ p)).2 (Nat.le_of_eq (opp_len p.2.2.1))⟩
      by_cases hz : panE p = 0
      · have hok := panE_zero hz
        have ll := hok.left.len
        have lr := hok.right.len
        have n1 := pln_len (stpL p.2.2.1)
        have n2 := pln_len (stpL p.2.2.2)
        have cRPl := fun W' (hb : Below W.heap.size W W') => rPlain_any p W' (hL.below hb) (hR.below hb) hok
        have cRMi := fun W' (hb : Below W.heap.size W W') => rMirror_any p W' (hL.below hb) (hR.below hb)
        have cRTu := fun W' (hb : Below W.heap.size W W') => rTurn_any p W' (hL.below hb) (hR.below hb) hok
        have cRSm := fun (h : panE o = 0) W' (hb : Below W.heap.size W W') => rsame_any p o W' (hL.below hb) (hR.below hb) (kL.below hb) (kR.below hb) hok (panE_zero h)
        have cw1 := fun (a b c f : Value) W' q1 q2 q3 q4 => cPc (pcR (panE p) (plaQ p)) (p.1, p.2.1, plnL (stpL p.2.2.1), plnL (stpL p.2.2.2)) (pcE (panE p) (plaQ p)) 0 a b c f W' q1 q2 q3 q4 (by omega) (by omega) (by simp only; omega) (fun x hx => by have := pln_words _ x hx; omega) (fun x hx => by have := pln_words _ x hx; omega)
        have cw2 := fun (a b c f : Value) W' q1 q2 q3 q4 => cPc (pcR (panE p) (mirQ p)) (p.1, p.2.1, p.2.2.2, p.2.2.1) (pcE (panE p) (mirQ p)) 0 a b c f W' q1 q2 q3 q4 (by omega) (by omega) (by simp only; omega) pwR' pwL'
        have cw3 := fun (a b c f : Value) W' q1 q2 q3 q4 => cPc (pcR (panE p) (turQ p)) (p.1, (topX p true - topX p false).tdiv 2, oppL p.2.2.2, oppL p.2.2.1) (pcE (panE p) (turQ p)) 0 a b c f W' q1 q2 q3 q4 (by omega) (by omega) (by simp only; omega) (opp_words pwR') (opp_words pwL')
        rw [hz] at cw1 cw2 cw3 cPl cMi cTu cCp
        rw [show pieceB (pcR 0 (plaQ p)) (pcE 0 (plaQ p)) 0 (p.1, p.2.1, plnL (stpL p.2.2.1), plnL (stpL p.2.2.2)) = true from piece_self 0 (plaQ p)] at cw1
        rw [show pieceB (pcR 0 (mirQ p)) (pcE 0 (mirQ p)) 0 (p.1, p.2.1, p.2.2.2, p.2.2.1) = true from piece_self 0 (mirQ p)] at cw2
        rw [show pieceB (pcR 0 (turQ p)) (pcE 0 (turQ p)) 0 (p.1, (topX p true - topX p false).tdiv 2, oppL p.2.2.2, oppL p.2.2.1) = true from piece_self 0 (turQ p)] at cw3
        have htw : twoP p o = panE o := by unfold twoP; rw [hz]; exact firstI_two _
        rw [htw] at cSm
        obtain ⟨QP, hQP⟩ : ∃ z, pcR 0 (plaQ p) = z := ⟨_, rfl⟩
        obtain ⟨EP, hEP⟩ : ∃ z, pcE 0 (plaQ p) = z := ⟨_, rfl⟩
        obtain ⟨QM, hQM⟩ : ∃ z, pcR 0 (mirQ p) = z := ⟨_, rfl⟩
        obtain ⟨EM, hEM⟩ : ∃ z, pcE 0 (mirQ p) = z := ⟨_, rfl⟩
        obtain ⟨QT, hQT⟩ : ∃ z, pcR 0 (turQ p) = z := ⟨_, rfl⟩
        obtain ⟨ET, hET⟩ : ∃ z, pcE 0 (turQ p) = z := ⟨_, rfl⟩
        rw [hQP, hEP] at cw1 cPl
        rw [hQM, hEM] at cw2 cMi
        rw [hQT, hET] at cw3 cTu
        obtain ⟨SQ, hSQ⟩ : ∃ z, samQ p o = z := ⟨_, rfl⟩
        rw [hSQ] at cSm cRSm
        obtain ⟨EO, hEO⟩ : ∃ z, panE o = z := ⟨_, rfl⟩
        rw [hEO] at cCo cSm cRSm
        obtain ⟨TX, hTX⟩ : ∃ z, (topX p true - topX p false).tdiv 2 = z := ⟨_, rfl⟩
        rw [hTX] at cRTu cw3
        obtain ⟨l1, hl1⟩ : ∃ z, plnL (stpL p.2.2.1) = z := ⟨_, rfl⟩
        obtain ⟨l2, hl2⟩ : ∃ z, plnL (stpL p.2.2.2) = z := ⟨_, rfl⟩
        obtain ⟨l3, hl3⟩ : ∃ z, oppL p.2.2.2 = z := ⟨_, rfl⟩
        obtain ⟨l4, hl4⟩ : ∃ z, oppL p.2.2.1 = z := ⟨_, rfl⟩
        rw [hl1, hl2] at cRPl cw1
        rw [hl3, hl4] at cRTu cw3
        have hq0 : EO = 0 ∨ EO ≠ 0 := by omega
        simp only [sV] at cSp cSo cGp cGo cCp cCo cPl cMi cTu cSm cRPl cRMi cRTu cRSm cw1 cw2 cw3 ⊢
        clear hz hok ll lr n1 n2 cPc lPl lMi lTu htw hQP hEP hQM hEM hQT hET hSQ hEO hTX hl1 hl2 hl3 hl4 hq1 hq2 pwL pwR owL owR pwL' pwR' owL' owR'
        go_enter Tryz.func3, Tryz.ntmps3
        go_wp2_with fail
        refine (cAw _ (by (repeat (first | exact bl_refl | assumption | (apply bl_then; assumption) | refine bl_alloc ?_ _ | refine bl_drew ?_ | refine bl_drewN ?_ _)))).mono ?_
        rintro e w1 ⟨rfl, hb1⟩
        replace hB1 := hB1.below (show Below _ _ w1 by (repeat (first | exact bl_refl | assumption | (apply bl_then; assumption) | refine bl_alloc ?_ _ | refine bl_drew ?_ | refine bl_drewN ?_ _)))
        replace fhB1 := hB1.facts
        replace hB2 := hB2.below (show Below _ _ w1 by (repeat (first | exact bl_refl | assumption | (apply bl_then; assumption) | refine bl_alloc ?_ _ | refine bl_drew ?_ | refine bl_drewN ?_ _)))
        replace fhB2 := hB2.facts
        go_wp2_with fail
        refine (cSp _ (by (repeat (first | exact bl_refl | assumption | (apply bl_then; assumption) | refine bl_alloc ?_ _ | refine bl_drew ?_ | refine bl_drewN ?_ _)))).mono ?_
        rintro e w2 ⟨rfl, hb2⟩
        replace hB1 := hB1.below (show Below _ _ w2 by (repeat (first | exact bl_refl | assumption | (apply bl_then; assumption) | refine bl_alloc ?_ _ | refine bl_drew ?_ | refine bl_drewN ?_ _)))
        replace fhB1 := hB1.facts
        replace hB2 := hB2.below (show Below _ _ w2 by (repeat (first | exact bl_refl | assumption | (apply bl_then; assumption) | refine bl_alloc ?_ _ | refine bl_drew ?_ | refine bl_drewN ?_ _)))
        replace fhB2 := hB2.facts
        go_wp2_with fail
        refine (cSo _ (by (repeat (first | exact bl_refl | assumption | (apply bl_then; assumption) | refine bl_alloc ?_ _ | refine bl_drew ?_ | refine bl_drewN ?_ _)))).mono ?_
        rintro e w3 ⟨rfl, hb3⟩
        replace hB1 := hB1.below (show Below _ _ w3 by (repeat (first | exact bl_refl | assumption | (apply bl_then; assumption) | refine bl_alloc ?_ _ | refine bl_drew ?_ | refine bl_drewN ?_ _)))
        replace fhB1 := hB1.facts
        replace hB2 := hB2.below (show Below _ _ w3 by (repeat (first | exact bl_refl | assumption | (apply bl_then; assumption) | refine bl_alloc ?_ _ | refine bl_drew ?_ | refine bl_drewN ?_ _)))
        replace fhB2 := hB2.facts
        go_wp2_with fail
        refine (cGp _ (by (repeat (first | exact bl_refl | assumption | (apply bl_then; assumption) | refine bl_alloc ?_ _ | refine bl_drew ?_ | refine bl_drewN ?_ _)))).mono ?_
        rintro e w4 ⟨uL4, uR4, rfl, oL4, oR4, hb4⟩
        replace hB1 := hB1.below (show Below _ _ w4 by (repeat (first | exact bl_refl | assumption | (apply bl_then; assumption) | refine bl_alloc ?_ _ | refine bl_drew ?_ | refine bl_drewN ?_ _)))
        replace fhB1 := hB1.facts
        replace hB2 := hB2.below (show Below _ _ w4 by (repeat (first | exact bl_refl | assumption | (apply bl_then; assumption) | refine bl_alloc ?_ _ | refine bl_drew ?_ | refine bl_drewN ?_ _)))
        replace fhB2 := hB2.facts
        go_wp2_with fail
        refine (cPl _ _ _ (oL4.rd ec_len) (oR4.rd ec_len)).mono ?_
        rintro e w5 ⟨vL5, vR5, rfl, pL5, pR5, hb5⟩
        replace hB1 := hB1.below (show Below _ _ w5 by (repeat (first | exact bl_refl | assumption | (apply bl_then; assumption) | refine bl_alloc ?_ _ | refine bl_drew ?_ | refine bl_drewN ?_ _)))
        replace fhB1 := hB1.facts
        replace hB2 := hB2.below (show Below _ _ w5 by (repeat (first | exact bl_refl | assumption | (apply bl_then; assumption) | refine bl_alloc ?_ _ | refine bl_drew ?_ | refine bl_drewN ?_ _)))
        replace fhB2 := hB2.facts
        obtain ⟨A5, c5, rfl⟩ := pL5.shape
        obtain ⟨A6, c6, rfl⟩ := pR5.shape
        have hB5 := Blk.new w5 29 #[.string ⟨QP.1.toArray⟩, .int .i64 QP.2.1, .slice A5 QP.2.2.1.length c5, .slice A6 QP.2.2.2.length c6]
        have fB5 := hB5.facts
        go_wp2_with fail
        refine (cGp _ (by (repeat (first | exact bl_refl | assumption | (apply bl_then; assumption) | refine bl_alloc ?_ _ | refine bl_drew ?_ | refine bl_drewN ?_ _)))).mono ?_
        rintro e w6 ⟨uL6, uR6, rfl, oL6, oR6, hb6⟩
        replace hB1 := hB1.below (show Below _ _ w6 by (repeat (first | exact bl_refl | assumption | (apply bl_then; assumption) | refine bl_alloc ?_ _ | refine bl_drew ?_ | refine bl_drewN ?_ _)))
        replace fhB1 := hB1.facts
        replace hB2 := hB2.below (show Below _ _ w6 by (repeat (first | exact bl_refl | assumption | (apply bl_then; assumption) | refine bl_alloc ?_ _ | refine bl_drew ?_ | refine bl_drewN ?_ _)))
        replace fhB2 := hB2.facts
        replace hB5 := hB5.below (show Below _ _ w6 by (repeat (first | exact bl_refl | assumption | (apply bl_then; assumption) | refine bl_alloc ?_ _ | refine bl_drew ?_ | refine bl_drewN ?_ _)))
        replace fhB5 := hB5.facts
        go_wp2_with fail
        refine (cMi _ _ _ (oL6.rd ec_len) (oR6.rd ec_len)).mono ?_
        rintro e w7 ⟨vL7, vR7, rfl, pL7, pR7, hb7⟩
        replace hB1 := hB1.below (show Below _ _ w7 by (repeat (first | exact bl_refl | assumption | (apply bl_then; assumption) | refine bl_alloc ?_ _ | refine bl_drew ?_ | refine bl_drewN ?_ _)))
        replace fhB1 := hB1.facts
        replace hB2 := hB2.below (show Below _ _ w7 by (repeat (first | exact bl_refl | assumption | (apply bl_then; assumption) | refine bl_alloc ?_ _ | refine bl_drew ?_ | refine bl_drewN ?_ _)))
        replace fhB2 := hB2.facts
        replace hB5 := hB5.below (show Below _ _ w7 by (repeat (first | exact bl_refl | assumption | (apply bl_then; assumption) | refine bl_alloc ?_ _ | refine bl_drew ?_ | refine bl_drewN ?_ _)))
        replace fhB5 := hB5.facts
        obtain ⟨A7, c7, rfl⟩ := pL7.shape
        obtain ⟨A8, c8, rfl⟩ := pR7.shape
        have hB7 := Blk.new w7 29 #[.string ⟨QM.1.toArray⟩, .int .i64 QM.2.1, .slice A7 QM.2.2.1.length c7, .slice A8 QM.2.2.2.length c8]
        have fB7 := hB7.facts
        go_wp2_with fail
        refine (cGp _ (by (repeat (first | exact bl_refl | assumption | (apply bl_then; assumption) | refine bl_alloc ?_ _ | refine bl_drew ?_ | refine bl_drewN ?_ _)))).mono ?_
        rintro e w8 ⟨uL8, uR8, rfl, oL8, oR8, hb8⟩
        replace hB1 := hB1.below (show Below _ _ w8 by (repeat (first | exact bl_refl | assumption | (apply bl_then; assumption) | refine bl_alloc ?_ _ | refine bl_drew ?_ | refine bl_drewN ?_ _)))
        replace fhB1 := hB1.facts
        replace hB2 := hB2.below (show Below _ _ w8 by (repeat (first | exact bl_refl | assumption | (apply bl_then; assumption) | refine bl_alloc ?_ _ | refine bl_drew ?_ | refine bl_drewN ?_ _)))
        replace fhB2 := hB2.facts
        replace hB5 := hB5.below (show Below _ _ w8 by (repeat (first | exact bl_refl | assumption | (apply bl_then; assumption) | refine bl_alloc ?_ _ | refine bl_drew ?_ | refine bl_drewN ?_ _)))
        replace fhB5 := hB5.facts
        replace hB7 := hB7.below (show Below _ _ w8 by (repeat (first | exact bl_refl | assumption | (apply bl_then; assumption) | refine bl_alloc ?_ _ | refine bl_drew ?_ | refine bl_drewN ?_ _)))
        replace fhB7 := hB7.facts
        go_wp2_with fail
        refine (cTu _ _ _ (oL8.rd ec_len) (oR8.rd ec_len)).mono ?_
        rintro e w9 ⟨vL9, vR9, rfl, pL9, pR9, hb9⟩
        replace hB1 := hB1.below (show Below _ _ w9 by (repeat (first | exact bl_refl | assumption | (apply bl_then; assumption) | refine bl_alloc ?_ _ | refine bl_drew ?_ | refine bl_drewN ?_ _)))
        replace fhB1 := hB1.facts
        replace hB2 := hB2.below (show Below _ _ w9 by (repeat (first | exact bl_refl | assumption | (apply bl_then; assumption) | refine bl_alloc ?_ _ | refine bl_drew ?_ | refine bl_drewN ?_ _)))
        replace fhB2 := hB2.facts
        replace hB5 := hB5.below (show Below _ _ w9 by (repeat (first | exact bl_refl | assumption | (apply bl_then; assumption) | refine bl_alloc ?_ _ | refine bl_drew ?_ | refine bl_drewN ?_ _)))
        replace fhB5 := hB5.facts
        replace hB7 := hB7.below (show Below _ _ w9 by (repeat (first | exact bl_refl | assumption | (apply bl_then; assumption) | refine bl_alloc ?_ _ | refine bl_drew ?_ | refine bl_drewN ?_ _)))
        replace fhB7 := hB7.facts
        obtain ⟨A9, c9, rfl⟩ := pL9.shape
        obtain ⟨A10, c10, rfl⟩ := pR9.shape
        have hB9 := Blk.new w9 29 #[.string ⟨QT.1.toArray⟩, .int .i64 QT.2.1, .slice A9 QT.2.2.1.length c9, .slice A10 QT.2.2.2.length c10]
        go_upto_region 6 with fail
        obtain ⟨x9, hx9⟩ : ∃ X, w9.alloc (.cells #[.string ⟨QT.1.toArray⟩, .int .i64 QT.2.1, .slice A9 QT.2.2.1.length c9, .slice A10 QT.2.2.2.length c10] 29) = X := ⟨_, rfl⟩
        have hb9x : Below w9.heap.size w9 x9 := by rw [← hx9]; exact bl_alloc bl_refl _
        rw [hx9] at hB9 ⊢
        clear hx9
        replace hB1 := hB1.below hb9x
        replace hB2 := hB2.below hb9x
        replace hB5 := hB5.below hb9x
        replace hB7 := hB7.below hb9x
        have fB1 := hB1.facts
        have fB2 := hB2.facts
        have fB5 := hB5.facts
        have fB7 := hB7.facts
        have fB9 := hB9.facts
        have s1 := (pL5.rd ec_len).below (show Below w5.heap.size w5 x9 by (repeat (first | exact bl_refl | assumption | (apply bl_then; assumption) | refine bl_alloc ?_ _ | refine bl_drew ?_ | refine bl_drewN ?_ _)))
        have s2 := (pR5.rd ec_len).below (show Below w5.heap.size w5 x9 by (repeat (first | exact bl_refl | assumption | (apply bl_then; assumption) | refine bl_alloc ?_ _ | refine bl_drew ?_ | refine bl_drewN ?_ _)))
        have s3 := (pL7.rd ec_len).below (show Below w7.heap.size w7 x9 by (repeat (first | exact bl_refl | assumption | (apply bl_then; assumption) | refine bl_alloc ?_ _ | refine bl_drew ?_ | refine bl_drewN ?_ _)))
        have s4 := (pR7.rd ec_len).below (show Below w7.heap.size w7 x9 by (repeat (first | exact bl_refl | assumption | (apply bl_then; assumption) | refine bl_alloc ?_ _ | refine bl_drew ?_ | refine bl_drewN ?_ _)))
        have s5 := (pL9.rd ec_len).below (show Below w9.heap.size w9 x9 by (repeat (first | exact bl_refl | assumption | (apply bl_then; assumption) | refine bl_alloc ?_ _ | refine bl_drew ?_ | refine bl_drewN ?_ _)))
        have s6 := (pR9.rd ec_len).below (show Below w9.heap.size w9 x9 by (repeat (first | exact bl_refl | assumption | (apply bl_then; assumption) | refine bl_alloc ?_ _ | refine bl_drew ?_ | refine bl_drewN ?_ _)))
        have hW9 : Below W.heap.size W x9 := by (repeat (first | exact bl_refl | assumption | (apply bl_then; assumption) | refine bl_alloc ?_ _ | refine bl_drew ?_ | refine bl_drewN ?_ _))
        clear hb1 hb2 hb3 hb4 hb5 hb6 hb7 hb8 hb9 hb9x oL4 oR4 oL6 oR6 oL8 oR8 pL5 pR5 pL7 pR7 pL9 pR9
        have HW9 := Lib.hid hW9
        clear hW9
        refine wp_region_ords [0, 2] [(1, false), (3, false), (4, false), (5, false), (6, true), (7, true), (8, false)] [9] (by kernel_rfl) (by kernel_rfl) (fun d _ _ _ _ h => by cases d <;> exact h) ?_
        simp only [List.map_cons, List.map_nil, List.getD_cons_zero, List.getD_cons_succ]
        repeat (go_big_quiet_step (fail))
        refine wpQuiet_nil ?_
        refine wpMid_run rfl (fun K hK => ?_)
        go_simp
        refine (cGp _ (bl_then (by (repeat (first | exact bl_refl | assumption | (apply bl_then; assumption) | refine bl_alloc ?_ _ | refine bl_drew ?_ | refine bl_drewN ?_ _))) HW9.out)).mono ?_
        rintro e w10 ⟨uL10, uR10, rfl, oL10, oR10, hb10⟩
        refine hK _ _ (by (repeat (first | exact bl_refl | assumption | (apply bl_then; assumption) | refine bl_alloc ?_ _ | refine bl_drew ?_ | refine bl_drewN ?_ _))) ?_
        clear hK K
        have hB1_w10 := hB1.below (show Below _ _ w10 by (repeat (first | exact bl_refl | assumption | (apply bl_then; assumption) | refine bl_alloc ?_ _ | refine bl_drew ?_ | refine bl_drewN ?_ _)))
        have fhB1_w10 := hB1_w10.facts
        have hB2_w10 := hB2.below (show Below _ _ w10 by (repeat (first | exact bl_refl | assumption | (apply bl_then; assumption) | refine bl_alloc ?_ _ | refine bl_drew ?_ | refine bl_drewN ?_ _)))
        have fhB2_w10 := hB2_w10.facts
        have hB5_w10 := hB5.below (show Below _ _ w10 by (repeat (first | exact bl_refl | assumption | (apply bl_then; assumption) | refine bl_alloc ?_ _ | refine bl_drew ?_ | refine bl_drewN ?_ _)))
        have fhB5_w10 := hB5_w10.facts
        have hB7_w10 := hB7.below (show Below _ _ w10 by (repeat (first | exact bl_refl | assumption | (apply bl_then; assumption) | refine bl_alloc ?_ _ | refine bl_drew ?_ | refine bl_drewN ?_ _)))
        have fhB7_w10 := hB7_w10.facts
        have hB9_w10 := hB9.below (show Below _ _ w10 by (repeat (first | exact bl_refl | assumption | (apply bl_then; assumption) | refine bl_alloc ?_ _ | refine bl_drew ?_ | refine bl_drewN ?_ _)))
        have fhB9_w10 := hB9_w10.facts
        refine wpMid_run rfl (fun K hK => ?_)
        go_simp
        refine (cGo _ (bl_then (by (repeat (first | exact bl_refl | assumption | (apply bl_then; assumption) | refine bl_alloc ?_ _ | refine bl_drew ?_ | refine bl_drewN ?_ _))) HW9.out)).mono ?_
        rintro e w11 ⟨uL11, uR11, rfl, oL11, oR11, hb11⟩
        refine hK _ _ (by (repeat (first | exact bl_refl | assumption | (apply bl_then; assumption) | refine bl_alloc ?_ _ | refine bl_drew ?_ | refine bl_drewN ?_ _))) ?_
        clear hK K
        have hB1_w11 := hB1.below (show Below _ _ w11 by (repeat (first | exact bl_refl | assumption | (apply bl_then; assumption) | refine bl_alloc ?_ _ | refine bl_drew ?_ | refine bl_drewN ?_ _)))
        have fhB1_w11 := hB1_w11.facts
        have hB2_w11 := hB2.below (show Below _ _ w11 by (repeat (first | exact bl_refl | assumption | (apply bl_then; assumption) | refine bl_alloc ?_ _ | refine bl_drew ?_ | refine bl_drewN ?_ _)))
        have fhB2_w11 := hB2_w11.facts
        have hB5_w11 := hB5.below (show Below _ _ w11 by (repeat (first | exact bl_refl | assumption | (apply bl_then; assumption) | refine bl_alloc ?_ _ | refine bl_drew ?_ | refine bl_drewN ?_ _)))
        have fhB5_w11 := hB5_w11.facts
        have hB7_w11 := hB7.below (show Below _ _ w11 by (repeat (first | exact bl_refl | assumption | (apply bl_then; assumption) | refine bl_alloc ?_ _ | refine bl_drew ?_ | refine bl_drewN ?_ _)))
        have fhB7_w11 := hB7_w11.facts
        have hB9_w11 := hB9.below (show Below _ _ w11 by (repeat (first | exact bl_refl | assumption | (apply bl_then; assumption) | refine bl_alloc ?_ _ | refine bl_drew ?_ | refine bl_drewN ?_ _)))
        have fhB9_w11 := hB9_w11.facts
        refine wpMid_run rfl (fun K hK => ?_)
        go_simp
        refine (cSm _ _ _ _ _ ((oL10.rd ec_len).below (by (repeat (first | exact bl_refl | assumption | (apply bl_then; assumption) | refine bl_alloc ?_ _ | refine bl_drew ?_ | refine bl_drewN ?_ _)))) ((oR10.rd ec_len).below (by (repeat (first | exact bl_refl | assumption | (apply bl_then; assumption) | refine bl_alloc ?_ _ | refine bl_drew ?_ | refine bl_drewN ?_ _)))) (oL11.rd ec_len) (oR11.rd ec_len)).mono ?_
        rintro e w12 ⟨rfl, hb12⟩
        refine hK _ _ (by (repeat (first | exact bl_refl | assumption | (apply bl_then; assumption) | refine bl_alloc ?_ _ | refine bl_drew ?_ | refine bl_drewN ?_ _))) ?_
        clear hK K
        have hB1_w12 := hB1.below (show Below _ _ w12 by (repeat (first | exact bl_refl | assumption | (apply bl_then; assumption) | refine bl_alloc ?_ _ | refine bl_drew ?_ | refine bl_drewN ?_ _)))
        have fhB1_w12 := hB1_w12.facts
        have hB2_w12 := hB2.below (show Below _ _ w12 by (repeat (first | exact bl_refl | assumption | (apply bl_then; assumption) | refine bl_alloc ?_ _ | refine bl_drew ?_ | refine bl_drewN ?_ _)))
        have fhB2_w12 := hB2_w12.facts
        have hB5_w12 := hB5.below (show Below _ _ w12 by (repeat (first | exact bl_refl | assumption | (apply bl_then; assumption) | refine bl_alloc ?_ _ | refine bl_drew ?_ | refine bl_drewN ?_ _)))
        have fhB5_w12 := hB5_w12.facts
        have hB7_w12 := hB7.below (show Below _ _ w12 by (repeat (first | exact bl_refl | assumption | (apply bl_then; assumption) | refine bl_alloc ?_ _ | refine bl_drew ?_ | refine bl_drewN ?_ _)))
        have fhB7_w12 := hB7_w12.facts
        have hB9_w12 := hB9.below (show Below _ _ w12 by (repeat (first | exact bl_refl | assumption | (apply bl_then; assumption) | refine bl_alloc ?_ _ | refine bl_drew ?_ | refine bl_drewN ?_ _)))
        have fhB9_w12 := hB9_w12.facts
        refine wpMid_run rfl (fun K hK => ?_)
        go_simp
        refine hK _ _ (by (repeat (first | exact bl_refl | assumption | (apply bl_then; assumption) | refine bl_alloc ?_ _ | refine bl_drew ?_ | refine bl_drewN ?_ _))) ?_
        clear hK K
        refine wpMid_take rfl ?_
        intro K hK
        go_big_quiet_op
        go_big_quiet_on
        refine wpMid_take rfl ?_
        intro K hK
        go_big_quiet_op
        go_big_quiet_on
        refine wpMid_run rfl (fun K hK => ?_)
        go_simp
        refine hK _ _ (by (repeat (first | exact bl_refl | assumption | (apply bl_then; assumption) | refine bl_alloc ?_ _ | refine bl_drew ?_ | refine bl_drewN ?_ _))) ?_
        clear hK K
        refine wpMid_nil ?_
        have hx12 : Below x9.heap.size x9 w12 := by (repeat (first | exact bl_refl | assumption | (apply bl_then; assumption) | refine bl_alloc ?_ _ | refine bl_drew ?_ | refine bl_drewN ?_ _))
        replace hB1 := hB1.below hx12
        replace hB2 := hB2.below hx12
        replace hB5 := hB5.below hx12
        replace hB7 := hB7.below hx12
        replace hB9 := hB9.below hx12
        have fB1 := hB1.facts
        have fB2 := hB2.facts
        have fB5 := hB5.facts
        have fB7 := hB7.facts
        have fB9 := hB9.facts
        replace s1 := s1.below hx12
        replace s2 := s2.below hx12
        replace s3 := s3.below hx12
        replace s4 := s4.below hx12
        replace s5 := s5.below hx12
        replace s6 := s6.below hx12
        have HW12 := Lib.hid (bl_then hx12 HW9.out)
        clear hb10 hb11 hb12 hx12 oL10 oR10 oL11 oR11 HW9
        go_wp2_with fail
        refine (cCp _ (bl_then (by (repeat (first | exact bl_refl | assumption | (apply bl_then; assumption) | refine bl_alloc ?_ _ | refine bl_drew ?_ | refine bl_drewN ?_ _))) HW12.out)).mono ?_
        rintro e w13 ⟨rfl, hb13⟩
        replace hB1 := hB1.below (show Below _ _ w13 by (repeat (first | exact bl_refl | assumption | (apply bl_then; assumption) | refine bl_alloc ?_ _ | refine bl_drew ?_ | refine bl_drewN ?_ _)))
        replace fhB1 := hB1.facts
        replace hB2 := hB2.below (show Below _ _ w13 by (repeat (first | exact bl_refl | assumption | (apply bl_then; assumption) | refine bl_alloc ?_ _ | refine bl_drew ?_ | refine bl_drewN ?_ _)))
        replace fhB2 := hB2.facts
        replace hB5 := hB5.below (show Below _ _ w13 by (repeat (first | exact bl_refl | assumption | (apply bl_then; assumption) | refine bl_alloc ?_ _ | refine bl_drew ?_ | refine bl_drewN ?_ _)))
        replace fhB5 := hB5.facts
        replace hB7 := hB7.below (show Below _ _ w13 by (repeat (first | exact bl_refl | assumption | (apply bl_then; assumption) | refine bl_alloc ?_ _ | refine bl_drew ?_ | refine bl_drewN ?_ _)))
        replace fhB7 := hB7.facts
        replace hB9 := hB9.below (show Below _ _ w13 by (repeat (first | exact bl_refl | assumption | (apply bl_then; assumption) | refine bl_alloc ?_ _ | refine bl_drew ?_ | refine bl_drewN ?_ _)))
        replace fhB9 := hB9.facts
        go_wp2_with fail
        refine (cCo _ (bl_then (by (repeat (first | exact bl_refl | assumption | (apply bl_then; assumption) | refine bl_alloc ?_ _ | refine bl_drew ?_ | refine bl_drewN ?_ _))) HW12.out)).mono ?_
        rintro e w14 ⟨rfl, hb14⟩
        replace hB1 := hB1.below (show Below _ _ w14 by (repeat (first | exact bl_refl | assumption | (apply bl_then; assumption) | refine bl_alloc ?_ _ | refine bl_drew ?_ | refine bl_drewN ?_ _)))
        replace fhB1 := hB1.facts
        replace hB2 := hB2.below (show Below _ _ w14 by (repeat (first | exact bl_refl | assumption | (apply bl_then; assumption) | refine bl_alloc ?_ _ | refine bl_drew ?_ | refine bl_drewN ?_ _)))
        replace fhB2 := hB2.facts
        replace hB5 := hB5.below (show Below _ _ w14 by (repeat (first | exact bl_refl | assumption | (apply bl_then; assumption) | refine bl_alloc ?_ _ | refine bl_drew ?_ | refine bl_drewN ?_ _)))
        replace fhB5 := hB5.facts
        replace hB7 := hB7.below (show Below _ _ w14 by (repeat (first | exact bl_refl | assumption | (apply bl_then; assumption) | refine bl_alloc ?_ _ | refine bl_drew ?_ | refine bl_drewN ?_ _)))
        replace fhB7 := hB7.facts
        replace hB9 := hB9.below (show Below _ _ w14 by (repeat (first | exact bl_refl | assumption | (apply bl_then; assumption) | refine bl_alloc ?_ _ | refine bl_drew ?_ | refine bl_drewN ?_ _)))
        replace fhB9 := hB9.facts
        have hx14 : Below w12.heap.size w12 w14 := by (repeat (first | exact bl_refl | assumption | (apply bl_then; assumption) | refine bl_alloc ?_ _ | refine bl_drew ?_ | refine bl_drewN ?_ _))
        replace s1 := s1.below hx14
        replace s2 := s2.below hx14
        replace s3 := s3.below hx14
        replace s4 := s4.below hx14
        replace s5 := s5.below hx14
        replace s6 := s6.below hx14
        have HW := Lib.hid (bl_then hx14 HW12.out)
        clear hb13 hb14 hx14 HW12
        go_upto_region 11 with fail
        rcases hq0 with rfl | hq0
        · have cRS := cRSm rfl
          clear cRSm
          refine wp_region_ords [0, 1, 2] [(3, false), (4, false), (5, false), (6, true), (7, true), (8, false), (9, false), (10, false), (11, false), (12, false), (13, true), (14, true), (15, false), (16, false), (17, false), (18, false), (19, false), (20, true), (21, false), (22, false), (23, false), (24, false), (25, true), (26, false), (27, false), (28, false), (29, true), (30, false), (31, false), (32, false)] [33, 34, 35] (by kernel_rfl) ord_form (fun d _ _ _ _ h => by cases d <;> exact h) ?_
          simp only [List.map_cons, List.map_nil, List.getD_cons_zero, List.getD_cons_succ]
          repeat (go_big_quiet_step (fail))
          refine wpQuiet_nil ?_
          refine wpMid_run rfl (fun K hK => ?_)
          go_simp
          refine (cRPl _ (bl_then (by (repeat (first | exact bl_refl | assumption | (apply bl_then; assumption) | refine bl_alloc ?_ _ | refine bl_drew ?_ | refine bl_drewN ?_ _))) HW.out)).mono ?_
          rintro e w15 ⟨xL, xR, rfl, oX, oY, hb15⟩
          refine hK _ _ (by (repeat (first | exact bl_refl | assumption | (apply bl_then; assumption) | refine bl_alloc ?_ _ | refine bl_drew ?_ | refine bl_drewN ?_ _))) ?_
          clear hK K
          have hB1_w15 := hB1.below (show Below _ _ w15 by (repeat (first | exact bl_refl | assumption | (apply bl_then; assumption) | refine bl_alloc ?_ _ | refine bl_drew ?_ | refine bl_drewN ?_ _)))
          have fhB1_w15 := hB1_w15.facts
          have hB2_w15 := hB2.below (show Below _ _ w15 by (repeat (first | exact bl_refl | assumption | (apply bl_then; assumption) | refine bl_alloc ?_ _ | refine bl_drew ?_ | refine bl_drewN ?_ _)))
          have fhB2_w15 := hB2_w15.facts
          have hB5_w15 := hB5.below (show Below _ _ w15 by (repeat (first | exact bl_refl | assumption | (apply bl_then; assumption) | refine bl_alloc ?_ _ | refine bl_drew ?_ | refine bl_drewN ?_ _)))
          have fhB5_w15 := hB5_w15.facts
          have hB7_w15 := hB7.below (show Below _ _ w15 by (repeat (first | exact bl_refl | assumption | (apply bl_then; assumption) | refine bl_alloc ?_ _ | refine bl_drew ?_ | refine bl_drewN ?_ _)))
          have fhB7_w15 := hB7_w15.facts
          have hB9_w15 := hB9.below (show Below _ _ w15 by (repeat (first | exact bl_refl | assumption | (apply bl_then; assumption) | refine bl_alloc ?_ _ | refine bl_drew ?_ | refine bl_drewN ?_ _)))
          have fhB9_w15 := hB9_w15.facts
          refine wpMid_run rfl (fun K hK => ?_)
          go_simp
          refine (cw1 _ _ _ _ _ (s1.below (by (repeat (first | exact bl_refl | assumption | (apply bl_then; assumption) | refine bl_alloc ?_ _ | refine bl_drew ?_ | refine bl_drewN ?_ _)))) (s2.below (by (repeat (first | exact bl_refl | assumption | (apply bl_then; assumption) | refine bl_alloc ?_ _ | refine bl_drew ?_ | refine bl_drewN ?_ _)))) (oX.rd ec_len) (oY.rd ec_len)).mono ?_
          rintro e w16 ⟨rfl, hb16⟩
          refine hK _ _ (by (repeat (first | exact bl_refl | assumption | (apply bl_then; assumption) | refine bl_alloc ?_ _ | refine bl_drew ?_ | refine bl_drewN ?_ _))) ?_
          clear hK K
          have hB1_w16 := hB1.below (show Below _ _ w16 by (repeat (first | exact bl_refl | assumption | (apply bl_then; assumption) | refine bl_alloc ?_ _ | refine bl_drew ?_ | refine bl_drewN ?_ _)))
          have fhB1_w16 := hB1_w16.facts
          have hB2_w16 := hB2.below (show Below _ _ w16 by (repeat (first | exact bl_refl | assumption | (apply bl_then; assumption) | refine bl_alloc ?_ _ | refine bl_drew ?_ | refine bl_drewN ?_ _)))
          have fhB2_w16 := hB2_w16.facts
          have hB5_w16 := hB5.below (show Below _ _ w16 by (repeat (first | exact bl_refl | assumption | (apply bl_then; assumption) | refine bl_alloc ?_ _ | refine bl_drew ?_ | refine bl_drewN ?_ _)))
          have fhB5_w16 := hB5_w16.facts
          have hB7_w16 := hB7.below (show Below _ _ w16 by (repeat (first | exact bl_refl | assumption | (apply bl_then; assumption) | refine bl_alloc ?_ _ | refine bl_drew ?_ | refine bl_drewN ?_ _)))
          have fhB7_w16 := hB7_w16.facts
          have hB9_w16 := hB9.below (show Below _ _ w16 by (repeat (first | exact bl_refl | assumption | (apply bl_then; assumption) | refine bl_alloc ?_ _ | refine bl_drew ?_ | refine bl_drewN ?_ _)))
          have fhB9_w16 := hB9_w16.facts
          refine wpMid_run rfl (fun K hK => ?_)
          go_simp
          refine hK _ _ (by (repeat (first | exact bl_refl | assumption | (apply bl_then; assumption) | refine bl_alloc ?_ _ | refine bl_drew ?_ | refine bl_drewN ?_ _))) ?_
          clear hK K
          refine wpMid_take rfl ?_
          intro K hK
          go_big_quiet_op
          go_big_quiet_on
          refine wpMid_take rfl ?_
          intro K hK
          go_big_quiet_op
          go_big_quiet_on
          refine wpMid_run rfl (fun K hK => ?_)
          go_simp
          refine hK _ _ (by (repeat (first | exact bl_refl | assumption | (apply bl_then; assumption) | refine bl_alloc ?_ _ | refine bl_drew ?_ | refine bl_drewN ?_ _))) ?_
          clear hK K
          refine wpMid_run rfl (fun K hK => ?_)
          go_simp
          refine (cRMi _ (bl_then (by (repeat (first | exact bl_refl | assumption | (apply bl_then; assumption) | refine bl_alloc ?_ _ | refine bl_drew ?_ | refine bl_drewN ?_ _))) HW.out)).mono ?_
          rintro e w17 ⟨rfl, hb17⟩
          refine hK _ _ (by (repeat (first | exact bl_refl | assumption | (apply bl_then; assumption) | refine bl_alloc ?_ _ | refine bl_drew ?_ | refine bl_drewN ?_ _))) ?_
          clear hK K
          have hB1_w17 := hB1.below (show Below _ _ w17 by (repeat (first | exact bl_refl | assumption | (apply bl_then; assumption) | refine bl_alloc ?_ _ | refine bl_drew ?_ | refine bl_drewN ?_ _)))
          have fhB1_w17 := hB1_w17.facts
          have hB2_w17 := hB2.below (show Below _ _ w17 by (repeat (first | exact bl_refl | assumption | (apply bl_then; assumption) | refine bl_alloc ?_ _ | refine bl_drew ?_ | refine bl_drewN ?_ _)))
          have fhB2_w17 := hB2_w17.facts
          have hB5_w17 := hB5.below (show Below _ _ w17 by (repeat (first | exact bl_refl | assumption | (apply bl_then; assumption) | refine bl_alloc ?_ _ | refine bl_drew ?_ | refine bl_drewN ?_ _)))
          have fhB5_w17 := hB5_w17.facts
          have hB7_w17 := hB7.below (show Below _ _ w17 by (repeat (first | exact bl_refl | assumption | (apply bl_then; assumption) | refine bl_alloc ?_ _ | refine bl_drew ?_ | refine bl_drewN ?_ _)))
          have fhB7_w17 := hB7_w17.facts
          have hB9_w17 := hB9.below (show Below _ _ w17 by (repeat (first | exact bl_refl | assumption | (apply bl_then; assumption) | refine bl_alloc ?_ _ | refine bl_drew ?_ | refine bl_drewN ?_ _)))
          have fhB9_w17 := hB9_w17.facts
          refine wpMid_run rfl (fun K hK => ?_)
          go_simp
          refine (cw2 _ _ _ _ _ (s3.below (by (repeat (first | exact bl_refl | assumption | (apply bl_then; assumption) | refine bl_alloc ?_ _ | refine bl_drew ?_ | refine bl_drewN ?_ _)))) (s4.below (by (repeat (first | exact bl_refl | assumption | (apply bl_then; assumption) | refine bl_alloc ?_ _ | refine bl_drew ?_ | refine bl_drewN ?_ _)))) (hR.below (bl_then (by (repeat (first | exact bl_refl | assumption | (apply bl_then; assumption) | refine bl_alloc ?_ _ | refine bl_drew ?_ | refine bl_drewN ?_ _))) HW.out)) (hL.below (bl_then (by (repeat (first | exact bl_refl | assumption | (apply bl_then; assumption) | refine bl_alloc ?_ _ | refine bl_drew ?_ | refine bl_drewN ?_ _))) HW.out))).mono ?_
          rintro e w18 ⟨rfl, hb18⟩
          refine hK _ _ (by (repeat (first | exact bl_refl | assumption | (apply bl_then; assumption) | refine bl_alloc ?_ _ | refine bl_drew ?_ | refine bl_drewN ?_ _))) ?_
          clear hK K
          have hB1_w18 := hB1.below (show Below _ _ w18 by (repeat (first | exact bl_refl | assumption | (apply bl_then; assumption) | refine bl_alloc ?_ _ | refine bl_drew ?_ | refine bl_drewN ?_ _)))
          have fhB1_w18 := hB1_w18.facts
          have hB2_w18 := hB2.below (show Below _ _ w18 by (repeat (first | exact bl_refl | assumption | (apply bl_then; assumption) | refine bl_alloc ?_ _ | refine bl_drew ?_ | refine bl_drewN ?_ _)))
          have fhB2_w18 := hB2_w18.facts
          have hB5_w18 := hB5.below (show Below _ _ w18 by (repeat (first | exact bl_refl | assumption | (apply bl_then; assumption) | refine bl_alloc ?_ _ | refine bl_drew ?_ | refine bl_drewN ?_ _)))
          have fhB5_w18 := hB5_w18.facts
          have hB7_w18 := hB7.below (show Below _ _ w18 by (repeat (first | exact bl_refl | assumption | (apply bl_then; assumption) | refine bl_alloc ?_ _ | refine bl_drew ?_ | refine bl_drewN ?_ _)))
          have fhB7_w18 := hB7_w18.facts
          have hB9_w18 := hB9.below (show Below _ _ w18 by (repeat (first | exact bl_refl | assumption | (apply bl_then; assumption) | refine bl_alloc ?_ _ | refine bl_drew ?_ | refine bl_drewN ?_ _)))
          have fhB9_w18 := hB9_w18.facts
          refine wpMid_run rfl (fun K hK => ?_)
          go_simp
          refine hK _ _ (by (repeat (first | exact bl_refl | assumption | (apply bl_then; assumption) | refine bl_alloc ?_ _ | refine bl_drew ?_ | refine bl_drewN ?_ _))) ?_
          clear hK K
          refine wpMid_run rfl (fun K hK => ?_)
          go_simp
          refine hK _ _ (by (repeat (first | exact bl_refl | assumption | (apply bl_then; assumption) | refine bl_alloc ?_ _ | refine bl_drew ?_ | refine bl_drewN ?_ _))) ?_
          clear hK K
          refine wpMid_take rfl ?_
          intro K hK
          go_big_quiet_op
          go_big_quiet_on
          refine wpMid_take rfl ?_
          intro K hK
          go_big_quiet_op
          go_big_quiet_on
          refine wpMid_run rfl (fun K hK => ?_)
          go_simp
          refine hK _ _ (by (repeat (first | exact bl_refl | assumption | (apply bl_then; assumption) | refine bl_alloc ?_ _ | refine bl_drew ?_ | refine bl_drewN ?_ _))) ?_
          clear hK K
          refine wpMid_run rfl (fun K hK => ?_)
          go_simp
          refine (cRTu _ (bl_then (by (repeat (first | exact bl_refl | assumption | (apply bl_then; assumption) | refine bl_alloc ?_ _ | refine bl_drew ?_ | refine bl_drewN ?_ _))) HW.out)).mono ?_
          rintro e w19 ⟨zL, zR, rfl, oZ, oU, hb19⟩
          refine hK _ _ (by (repeat (first | exact bl_refl | assumption | (apply bl_then; assumption) | refine bl_alloc ?_ _ | refine bl_drew ?_ | refine bl_drewN ?_ _))) ?_
          clear hK K
          have hB1_w19 := hB1.below (show Below _ _ w19 by (repeat (first | exact bl_refl | assumption | (apply bl_then; assumption) | refine bl_alloc ?_ _ | refine bl_drew ?_ | refine bl_drewN ?_ _)))
          have fhB1_w19 := hB1_w19.facts
          have hB2_w19 := hB2.below (show Below _ _ w19 by (repeat (first | exact bl_refl | assumption | (apply bl_then; assumption) | refine bl_alloc ?_ _ | refine bl_drew ?_ | refine bl_drewN ?_ _)))
          have fhB2_w19 := hB2_w19.facts
          have hB5_w19 := hB5.below (show Below _ _ w19 by (repeat (first | exact bl_refl | assumption | (apply bl_then; assumption) | refine bl_alloc ?_ _ | refine bl_drew ?_ | refine bl_drewN ?_ _)))
          have fhB5_w19 := hB5_w19.facts
          have hB7_w19 := hB7.below (show Below _ _ w19 by (repeat (first | exact bl_refl | assumption | (apply bl_then; assumption) | refine bl_alloc ?_ _ | refine bl_drew ?_ | refine bl_drewN ?_ _)))
          have fhB7_w19 := hB7_w19.facts
          have hB9_w19 := hB9.below (show Below _ _ w19 by (repeat (first | exact bl_refl | assumption | (apply bl_then; assumption) | refine bl_alloc ?_ _ | refine bl_drew ?_ | refine bl_drewN ?_ _)))
          have fhB9_w19 := hB9_w19.facts
          refine wpMid_run rfl (fun K hK => ?_)
          go_simp
          refine (cw3 _ _ _ _ _ (s5.below (by (repeat (first | exact bl_refl | assumption | (apply bl_then; assumption) | refine bl_alloc ?_ _ | refine bl_drew ?_ | refine bl_drewN ?_ _)))) (s6.below (by (repeat (first | exact bl_refl | assumption | (apply bl_then; assumption) | refine bl_alloc ?_ _ | refine bl_drew ?_ | refine bl_drewN ?_ _)))) (oZ.rd ec_len) (oU.rd ec_len)).mono ?_
          rintro e w20 ⟨rfl, hb20⟩
          refine hK _ _ (by (repeat (first | exact bl_refl | assumption | (apply bl_then; assumption) | refine bl_alloc ?_ _ | refine bl_drew ?_ | refine bl_drewN ?_ _))) ?_
          clear hK K
          have hB1_w20 := hB1.below (show Below _ _ w20 by (repeat (first | exact bl_refl | assumption | (apply bl_then; assumption) | refine bl_alloc ?_ _ | refine bl_drew ?_ | refine bl_drewN ?_ _)))
          have fhB1_w20 := hB1_w20.facts
          have hB2_w20 := hB2.below (show Below _ _ w20 by (repeat (first | exact bl_refl | assumption | (apply bl_then; assumption) | refine bl_alloc ?_ _ | refine bl_drew ?_ | refine bl_drewN ?_ _)))
          have fhB2_w20 := hB2_w20.facts
          have hB5_w20 := hB5.below (show Below _ _ w20 by (repeat (first | exact bl_refl | assumption | (apply bl_then; assumption) | refine bl_alloc ?_ _ | refine bl_drew ?_ | refine bl_drewN ?_ _)))
          have fhB5_w20 := hB5_w20.facts
          have hB7_w20 := hB7.below (show Below _ _ w20 by (repeat (first | exact bl_refl | assumption | (apply bl_then; assumption) | refine bl_alloc ?_ _ | refine bl_drew ?_ | refine bl_drewN ?_ _)))
          have fhB7_w20 := hB7_w20.facts
          have hB9_w20 := hB9.below (show Below _ _ w20 by (repeat (first | exact bl_refl | assumption | (apply bl_then; assumption) | refine bl_alloc ?_ _ | refine bl_drew ?_ | refine bl_drewN ?_ _)))
          have fhB9_w20 := hB9_w20.facts
          refine wpMid_run rfl (fun K hK => ?_)
          go_simp
          refine hK _ _ (by (repeat (first | exact bl_refl | assumption | (apply bl_then; assumption) | refine bl_alloc ?_ _ | refine bl_drew ?_ | refine bl_drewN ?_ _))) ?_
          clear hK K
          refine wpMid_run rfl (fun K hK => ?_)
          go_simp
          refine hK _ _ (by (repeat (first | exact bl_refl | assumption | (apply bl_then; assumption) | refine bl_alloc ?_ _ | refine bl_drew ?_ | refine bl_drewN ?_ _))) ?_
          clear hK K
          refine wpMid_take rfl ?_
          intro K hK
          go_big_quiet_op
          go_big_quiet_on
          refine wpMid_run rfl (fun K hK => ?_)
          go_simp
          refine hK _ _ (by (repeat (first | exact bl_refl | assumption | (apply bl_then; assumption) | refine bl_alloc ?_ _ | refine bl_drew ?_ | refine bl_drewN ?_ _))) ?_
          clear hK K
          refine wpMid_run rfl (fun K hK => ?_)
          go_simp
          refine hK _ _ (by (repeat (first | exact bl_refl | assumption | (apply bl_then; assumption) | refine bl_alloc ?_ _ | refine bl_drew ?_ | refine bl_drewN ?_ _))) ?_
          clear hK K
          refine wpMid_run rfl (fun K hK => ?_)
          go_simp
          refine hK _ _ (by (repeat (first | exact bl_refl | assumption | (apply bl_then; assumption) | refine bl_alloc ?_ _ | refine bl_drew ?_ | refine bl_drewN ?_ _))) ?_
          clear hK K
          refine wpMid_run rfl (fun K hK => ?_)
          go_simp
          refine hK _ _ (by (repeat (first | exact bl_refl | assumption | (apply bl_then; assumption) | refine bl_alloc ?_ _ | refine bl_drew ?_ | refine bl_drewN ?_ _))) ?_
          clear hK K
          refine wpMid_take rfl ?_
          intro K hK
          go_big_quiet_op
          go_big_quiet_on
          refine wpMid_run rfl (fun K hK => ?_)
          go_simp
          refine hK _ _ (by (repeat (first | exact bl_refl | assumption | (apply bl_then; assumption) | refine bl_alloc ?_ _ | refine bl_drew ?_ | refine bl_drewN ?_ _))) ?_
          clear hK K
          refine wpMid_run rfl (fun K hK => ?_)
          go_simp
          refine hK _ _ (by (repeat (first | exact bl_refl | assumption | (apply bl_then; assumption) | refine bl_alloc ?_ _ | refine bl_drew ?_ | refine bl_drewN ?_ _))) ?_
          clear hK K
          refine wpMid_run rfl (fun K hK => ?_)
          go_simp
          refine hK _ _ (by (repeat (first | exact bl_refl | assumption | (apply bl_then; assumption) | refine bl_alloc ?_ _ | refine bl_drew ?_ | refine bl_drewN ?_ _))) ?_
          clear hK K
          refine wpMid_take rfl ?_
          intro K hK
          go_big_quiet_op
          go_big_quiet_on
          refine wpMid_run rfl (fun K hK => ?_)
          go_simp
          refine hK _ _ (by (repeat (first | exact bl_refl | assumption | (apply bl_then; assumption) | refine bl_alloc ?_ _ | refine bl_drew ?_ | refine bl_drewN ?_ _))) ?_
          clear hK K
          refine wpMid_run rfl (fun K hK => ?_)
          go_simp
          refine (cRS _ (bl_then (by (repeat (first | exact bl_refl | assumption | (apply bl_then; assumption) | refine bl_alloc ?_ _ | refine bl_drew ?_ | refine bl_drewN ?_ _))) HW.out)).mono ?_
          rintro e w21 ⟨rfl, hb21⟩
          refine hK _ _ (by (repeat (first | exact bl_refl | assumption | (apply bl_then; assumption) | refine bl_alloc ?_ _ | refine bl_drew ?_ | refine bl_drewN ?_ _))) ?_
          clear hK K
          have hB1_w21 := hB1.below (show Below _ _ w21 by (repeat (first | exact bl_refl | assumption | (apply bl_then; assumption) | refine bl_alloc ?_ _ | refine bl_drew ?_ | refine bl_drewN ?_ _)))
          have fhB1_w21 := hB1_w21.facts
          have hB2_w21 := hB2.below (show Below _ _ w21 by (repeat (first | exact bl_refl | assumption | (apply bl_then; assumption) | refine bl_alloc ?_ _ | refine bl_drew ?_ | refine bl_drewN ?_ _)))
          have fhB2_w21 := hB2_w21.facts
          refine wpMid_run rfl (fun K hK => ?_)
          go_simp
          refine hK _ _ (by (repeat (first | exact bl_refl | assumption | (apply bl_then; assumption) | refine bl_alloc ?_ _ | refine bl_drew ?_ | refine bl_drewN ?_ _))) ?_
          clear hK K
          refine wpMid_nil ?_
          go_wp2
          go_ret
          exact ⟨by cases SQ <;> rfl, bl_then (by (repeat (first | exact bl_refl | assumption | (apply bl_then; assumption) | refine bl_alloc ?_ _ | refine bl_drew ?_ | refine bl_drewN ?_ _))) HW.out⟩
        · have tq : (EO == 0) = false := beq_false_of_ne hq0
          have tq2 : decide (EO = 0) = false := decide_eq_false hq0
          clear cRSm hq0
          refine wp_region_ords [0, 1, 2] [(3, false), (4, false), (5, false), (6, true), (7, true), (8, false), (9, false), (10, false), (11, false), (12, false), (13, true), (14, true), (15, false), (16, false), (17, false), (18, false), (19, false), (20, true), (21, false), (22, false), (23, false), (24, false), (25, true), (26, false), (27, false), (28, false), (29, true), (30, false), (31, false), (32, false)] [33, 34, 35] (by kernel_rfl) ord_form (fun d _ _ _ _ h => by cases d <;> exact h) ?_
          simp only [List.map_cons, List.map_nil, List.getD_cons_zero, List.getD_cons_succ]
          repeat (go_big_quiet_step (fail))
          refine wpQuiet_nil ?_
          refine wpMid_run rfl (fun K hK => ?_)
          go_simp
          refine (cRPl _ (bl_then (by (repeat (first | exact bl_refl | assumption | (apply bl_then; assumption) | refine bl_alloc ?_ _ | refine bl_drew ?_ | refine bl_drewN ?_ _))) HW.out)).mono ?_
          rintro e w15 ⟨xL, xR, rfl, oX, oY, hb15⟩
          refine hK _ _ (by (repeat (first | exact bl_refl | assumption | (apply bl_then; assumption) | refine bl_alloc ?_ _ | refine bl_drew ?_ | refine bl_drewN ?_ _))) ?_
          clear hK K
          have hB1_w15 := hB1.below (show Below _ _ w15 by (repeat (first | exact bl_refl | assumption | (apply bl_then; assumption) | refine bl_alloc ?_ _ | refine bl_drew ?_ | refine bl_drewN ?_ _)))
          have fhB1_w15 := hB1_w15.facts
          have hB2_w15 := hB2.below (show Below _ _ w15 by (repeat (first | exact bl_refl | assumption | (apply bl_then; assumption) | refine bl_alloc ?_ _ | refine bl_drew ?_ | refine bl_drewN ?_ _)))
          have fhB2_w15 := hB2_w15.facts
          have hB5_w15 := hB5.below (show Below _ _ w15 by (repeat (first | exact bl_refl | assumption | (apply bl_then; assumption) | refine bl_alloc ?_ _ | refine bl_drew ?_ | refine bl_drewN ?_ _)))
          have fhB5_w15 := hB5_w15.facts
          have hB7_w15 := hB7.below (show Below _ _ w15 by (repeat (first | exact bl_refl | assumption | (apply bl_then; assumption) | refine bl_alloc ?_ _ | refine bl_drew ?_ | refine bl_drewN ?_ _)))
          have fhB7_w15 := hB7_w15.facts
          have hB9_w15 := hB9.below (show Below _ _ w15 by (repeat (first | exact bl_refl | assumption | (apply bl_then; assumption) | refine bl_alloc ?_ _ | refine bl_drew ?_ | refine bl_drewN ?_ _)))
          have fhB9_w15 := hB9_w15.facts
          refine wpMid_run rfl (fun K hK => ?_)
          go_simp
          refine (cw1 _ _ _ _ _ (s1.below (by (repeat (first | exact bl_refl | assumption | (apply bl_then; assumption) | refine bl_alloc ?_ _ | refine bl_drew ?_ | refine bl_drewN ?_ _)))) (s2.below (by (repeat (first | exact bl_refl | assumption | (apply bl_then; assumption) | refine bl_alloc ?_ _ | refine bl_drew ?_ | refine bl_drewN ?_ _)))) (oX.rd ec_len) (oY.rd ec_len)).mono ?_
          rintro e w16 ⟨rfl, hb16⟩
          refine hK _ _ (by (repeat (first | exact bl_refl | assumption | (apply bl_then; assumption) | refine bl_alloc ?_ _ | refine bl_drew ?_ | refine bl_drewN ?_ _))) ?_
          clear hK K
          have hB1_w16 := hB1.below (show Below _ _ w16 by (repeat (first | exact bl_refl | assumption | (apply bl_then; assumption) | refine bl_alloc ?_ _ | refine bl_drew ?_ | refine bl_drewN ?_ _)))
          have fhB1_w16 := hB1_w16.facts
          have hB2_w16 := hB2.below (show Below _ _ w16 by (repeat (first | exact bl_refl | assumption | (apply bl_then; assumption) | refine bl_alloc ?_ _ | refine bl_drew ?_ | refine bl_drewN ?_ _)))
          have fhB2_w16 := hB2_w16.facts
          have hB5_w16 := hB5.below (show Below _ _ w16 by (repeat (first | exact bl_refl | assumption | (apply bl_then; assumption) | refine bl_alloc ?_ _ | refine bl_drew ?_ | refine bl_drewN ?_ _)))
          have fhB5_w16 := hB5_w16.facts
          have hB7_w16 := hB7.below (show Below _ _ w16 by (repeat (first | exact bl_refl | assumption | (apply bl_then; assumption) | refine bl_alloc ?_ _ | refine bl_drew ?_ | refine bl_drewN ?_ _)))
          have fhB7_w16 := hB7_w16.facts
          have hB9_w16 := hB9.below (show Below _ _ w16 by (repeat (first | exact bl_refl | assumption | (apply bl_then; assumption) | refine bl_alloc ?_ _ | refine bl_drew ?_ | refine bl_drewN ?_ _)))
          have fhB9_w16 := hB9_w16.facts
          refine wpMid_run rfl (fun K hK => ?_)
          go_simp
          refine hK _ _ (by (repeat (first | exact bl_refl | assumption | (apply bl_then; assumption) | refine bl_alloc ?_ _ | refine bl_drew ?_ | refine bl_drewN ?_ _))) ?_
          clear hK K
          refine wpMid_take rfl ?_
          intro K hK
          go_big_quiet_op
          go_big_quiet_on
          refine wpMid_take rfl ?_
          intro K hK
          go_big_quiet_op
          go_big_quiet_on
          refine wpMid_run rfl (fun K hK => ?_)
          go_simp
          refine hK _ _ (by (repeat (first | exact bl_refl | assumption | (apply bl_then; assumption) | refine bl_alloc ?_ _ | refine bl_drew ?_ | refine bl_drewN ?_ _))) ?_
          clear hK K
          refine wpMid_run rfl (fun K hK => ?_)
          go_simp
          refine (cRMi _ (bl_then (by (repeat (first | exact bl_refl | assumption | (apply bl_then; assumption) | refine bl_alloc ?_ _ | refine bl_drew ?_ | refine bl_drewN ?_ _))) HW.out)).mono ?_
          rintro e w17 ⟨rfl, hb17⟩
          refine hK _ _ (by (repeat (first | exact bl_refl | assumption | (apply bl_then; assumption) | refine bl_alloc ?_ _ | refine bl_drew ?_ | refine bl_drewN ?_ _))) ?_
          clear hK K
          have hB1_w17 := hB1.below (show Below _ _ w17 by (repeat (first | exact bl_refl | assumption | (apply bl_then; assumption) | refine bl_alloc ?_ _ | refine bl_drew ?_ | refine bl_drewN ?_ _)))
          have fhB1_w17 := hB1_w17.facts
          have hB2_w17 := hB2.below (show Below _ _ w17 by (repeat (first | exact bl_refl | assumption | (apply bl_then; assumption) | refine bl_alloc ?_ _ | refine bl_drew ?_ | refine bl_drewN ?_ _)))
          have fhB2_w17 := hB2_w17.facts
          have hB5_w17 := hB5.below (show Below _ _ w17 by (repeat (first | exact bl_refl | assumption | (apply bl_then; assumption) | refine bl_alloc ?_ _ | refine bl_drew ?_ | refine bl_drewN ?_ _)))
          have fhB5_w17 := hB5_w17.facts
          have hB7_w17 := hB7.below (show Below _ _ w17 by (repeat (first | exact bl_refl | assumption | (apply bl_then; assumption) | refine bl_alloc ?_ _ | refine bl_drew ?_ | refine bl_drewN ?_ _)))
          have fhB7_w17 := hB7_w17.facts
          have hB9_w17 := hB9.below (show Below _ _ w17 by (repeat (first | exact bl_refl | assumption | (apply bl_then; assumption) | refine bl_alloc ?_ _ | refine bl_drew ?_ | refine bl_drewN ?_ _)))
          have fhB9_w17 := hB9_w17.facts
          refine wpMid_run rfl (fun K hK => ?_)
          go_simp
          refine (cw2 _ _ _ _ _ (s3.below (by (repeat (first | exact bl_refl | assumption | (apply bl_then; assumption) | refine bl_alloc ?_ _ | refine bl_drew ?_ | refine bl_drewN ?_ _)))) (s4.below (by (repeat (first | exact bl_refl | assumption | (apply bl_then; assumption) | refine bl_alloc ?_ _ | refine bl_drew ?_ | refine bl_drewN ?_ _)))) (hR.below (bl_then (by (repeat (first | exact bl_refl | assumption | (apply bl_then; assumption) | refine bl_alloc ?_ _ | refine bl_drew ?_ | refine bl_drewN ?_ _))) HW.out)) (hL.below (bl_then (by (repeat (first | exact bl_refl | assumption | (apply bl_then; assumption) | refine bl_alloc ?_ _ | refine bl_drew ?_ | refine bl_drewN ?_ _))) HW.out))).mono ?_
          rintro e w18 ⟨rfl, hb18⟩
          refine hK _ _ (by (repeat (first | exact bl_refl | assumption | (apply bl_then; assumption) | refine bl_alloc ?_ _ | refine bl_drew ?_ | refine bl_drewN ?_ _))) ?_
          clear hK K
          have hB1_w18 := hB1.below (show Below _ _ w18 by (repeat (first | exact bl_refl | assumption | (apply bl_then; assumption) | refine bl_alloc ?_ _ | refine bl_drew ?_ | refine bl_drewN ?_ _)))
          have fhB1_w18 := hB1_w18.facts
          have hB2_w18 := hB2.below (show Below _ _ w18 by (repeat (first | exact bl_refl | assumption | (apply bl_then; assumption) | refine bl_alloc ?_ _ | refine bl_drew ?_ | refine bl_drewN ?_ _)))
          have fhB2_w18 := hB2_w18.facts
          have hB5_w18 := hB5.below (show Below _ _ w18 by (repeat (first | exact bl_refl | assumption | (apply bl_then; assumption) | refine bl_alloc ?_ _ | refine bl_drew ?_ | refine bl_drewN ?_ _)))
          have fhB5_w18 := hB5_w18.facts
          have hB7_w18 := hB7.below (show Below _ _ w18 by (repeat (first | exact bl_refl | assumption | (apply bl_then; assumption) | refine bl_alloc ?_ _ | refine bl_drew ?_ | refine bl_drewN ?_ _)))
          have fhB7_w18 := hB7_w18.facts
          have hB9_w18 := hB9.below (show Below _ _ w18 by (repeat (first | exact bl_refl | assumption | (apply bl_then; assumption) | refine bl_alloc ?_ _ | refine bl_drew ?_ | refine bl_drewN ?_ _)))
          have fhB9_w18 := hB9_w18.facts
          refine wpMid_run rfl (fun K hK => ?_)
          go_simp
          refine hK _ _ (by (repeat (first | exact bl_refl | assumption | (apply bl_then; assumption) | refine bl_alloc ?_ _ | refine bl_drew ?_ | refine bl_drewN ?_ _))) ?_
          clear hK K
          refine wpMid_run rfl (fun K hK => ?_)
          go_simp
          refine hK _ _ (by (repeat (first | exact bl_refl | assumption | (apply bl_then; assumption) | refine bl_alloc ?_ _ | refine bl_drew ?_ | refine bl_drewN ?_ _))) ?_
          clear hK K
          refine wpMid_take rfl ?_
          intro K hK
          go_big_quiet_op
          go_big_quiet_on
          refine wpMid_take rfl ?_
          intro K hK
          go_big_quiet_op
          go_big_quiet_on
          refine wpMid_run rfl (fun K hK => ?_)
          go_simp
          refine hK _ _ (by (repeat (first | exact bl_refl | assumption | (apply bl_then; assumption) | refine bl_alloc ?_ _ | refine bl_drew ?_ | refine bl_drewN ?_ _))) ?_
          clear hK K
          refine wpMid_run rfl (fun K hK => ?_)
          go_simp
          refine (cRTu _ (bl_then (by (repeat (first | exact bl_refl | assumption | (apply bl_then; assumption) | refine bl_alloc ?_ _ | refine bl_drew ?_ | refine bl_drewN ?_ _))) HW.out)).mono ?_
          rintro e w19 ⟨zL, zR, rfl, oZ, oU, hb19⟩
          refine hK _ _ (by (repeat (first | exact bl_refl | assumption | (apply bl_then; assumption) | refine bl_alloc ?_ _ | refine bl_drew ?_ | refine bl_drewN ?_ _))) ?_
          clear hK K
          have hB1_w19 := hB1.below (show Below _ _ w19 by (repeat (first | exact bl_refl | assumption | (apply bl_then; assumption) | refine bl_alloc ?_ _ | refine bl_drew ?_ | refine bl_drewN ?_ _)))
          have fhB1_w19 := hB1_w19.facts
          have hB2_w19 := hB2.below (show Below _ _ w19 by (repeat (first | exact bl_refl | assumption | (apply bl_then; assumption) | refine bl_alloc ?_ _ | refine bl_drew ?_ | refine bl_drewN ?_ _)))
          have fhB2_w19 := hB2_w19.facts
          have hB5_w19 := hB5.below (show Below _ _ w19 by (repeat (first | exact bl_refl | assumption | (apply bl_then; assumption) | refine bl_alloc ?_ _ | refine bl_drew ?_ | refine bl_drewN ?_ _)))
          have fhB5_w19 := hB5_w19.facts
          have hB7_w19 := hB7.below (show Below _ _ w19 by (repeat (first | exact bl_refl | assumption | (apply bl_then; assumption) | refine bl_alloc ?_ _ | refine bl_drew ?_ | refine bl_drewN ?_ _)))
          have fhB7_w19 := hB7_w19.facts
          have hB9_w19 := hB9.below (show Below _ _ w19 by (repeat (first | exact bl_refl | assumption | (apply bl_then; assumption) | refine bl_alloc ?_ _ | refine bl_drew ?_ | refine bl_drewN ?_ _)))
          have fhB9_w19 := hB9_w19.facts
          refine wpMid_run rfl (fun K hK => ?_)
          go_simp
          refine (cw3 _ _ _ _ _ (s5.below (by (repeat (first | exact bl_refl | assumption | (apply bl_then; assumption) | refine bl_alloc ?_ _ | refine bl_drew ?_ | refine bl_drewN ?_ _)))) (s6.below (by (repeat (first | exact bl_refl | assumption | (apply bl_then; assumption) | refine bl_alloc ?_ _ | refine bl_drew ?_ | refine bl_drewN ?_ _)))) (oZ.rd ec_len) (oU.rd ec_len)).mono ?_
          rintro e w20 ⟨rfl, hb20⟩
          refine hK _ _ (by (repeat (first | exact bl_refl | assumption | (apply bl_then; assumption) | refine bl_alloc ?_ _ | refine bl_drew ?_ | refine bl_drewN ?_ _))) ?_
          clear hK K
          have hB1_w20 := hB1.below (show Below _ _ w20 by (repeat (first | exact bl_refl | assumption | (apply bl_then; assumption) | refine bl_alloc ?_ _ | refine bl_drew ?_ | refine bl_drewN ?_ _)))
          have fhB1_w20 := hB1_w20.facts
          have hB2_w20 := hB2.below (show Below _ _ w20 by (repeat (first | exact bl_refl | assumption | (apply bl_then; assumption) | refine bl_alloc ?_ _ | refine bl_drew ?_ | refine bl_drewN ?_ _)))
          have fhB2_w20 := hB2_w20.facts
          have hB5_w20 := hB5.below (show Below _ _ w20 by (repeat (first | exact bl_refl | assumption | (apply bl_then; assumption) | refine bl_alloc ?_ _ | refine bl_drew ?_ | refine bl_drewN ?_ _)))
          have fhB5_w20 := hB5_w20.facts
          have hB7_w20 := hB7.below (show Below _ _ w20 by (repeat (first | exact bl_refl | assumption | (apply bl_then; assumption) | refine bl_alloc ?_ _ | refine bl_drew ?_ | refine bl_drewN ?_ _)))
          have fhB7_w20 := hB7_w20.facts
          have hB9_w20 := hB9.below (show Below _ _ w20 by (repeat (first | exact bl_refl | assumption | (apply bl_then; assumption) | refine bl_alloc ?_ _ | refine bl_drew ?_ | refine bl_drewN ?_ _)))
          have fhB9_w20 := hB9_w20.facts
          refine wpMid_run rfl (fun K hK => ?_)
          go_simp
          refine hK _ _ (by (repeat (first | exact bl_refl | assumption | (apply bl_then; assumption) | refine bl_alloc ?_ _ | refine bl_drew ?_ | refine bl_drewN ?_ _))) ?_
          clear hK K
          refine wpMid_run rfl (fun K hK => ?_)
          go_simp
          refine hK _ _ (by (repeat (first | exact bl_refl | assumption | (apply bl_then; assumption) | refine bl_alloc ?_ _ | refine bl_drew ?_ | refine bl_drewN ?_ _))) ?_
          clear hK K
          refine wpMid_take rfl ?_
          intro K hK
          go_big_quiet_op
          go_big_quiet_on
          refine wpMid_run rfl (fun K hK => ?_)
          go_simp
          refine hK _ _ (by (repeat (first | exact bl_refl | assumption | (apply bl_then; assumption) | refine bl_alloc ?_ _ | refine bl_drew ?_ | refine bl_drewN ?_ _))) ?_
          clear hK K
          refine wpMid_run rfl (fun K hK => ?_)
          go_simp
          refine hK _ _ (by (repeat (first | exact bl_refl | assumption | (apply bl_then; assumption) | refine bl_alloc ?_ _ | refine bl_drew ?_ | refine bl_drewN ?_ _))) ?_
          clear hK K
          refine wpMid_run rfl (fun K hK => ?_)
          go_simp
          refine hK _ _ (by (repeat (first | exact bl_refl | assumption | (apply bl_then; assumption) | refine bl_alloc ?_ _ | refine bl_drew ?_ | refine bl_drewN ?_ _))) ?_
          clear hK K
          refine wpMid_run rfl (fun K hK => ?_)
          go_simp
          refine hK _ _ (by (repeat (first | exact bl_refl | assumption | (apply bl_then; assumption) | refine bl_alloc ?_ _ | refine bl_drew ?_ | refine bl_drewN ?_ _))) ?_
          clear hK K
          refine wpMid_take rfl ?_
          intro K hK
          go_big_quiet_op
          go_big_quiet_on
          refine wpMid_run rfl (fun K hK => ?_)
          go_simp
          refine hK _ _ (by (repeat (first | exact bl_refl | assumption | (apply bl_then; assumption) | refine bl_alloc ?_ _ | refine bl_drew ?_ | refine bl_drewN ?_ _))) ?_
          clear hK K
          refine wpMid_run rfl (fun K hK => ?_)
          go_simp
          refine hK _ _ (by (repeat (first | exact bl_refl | assumption | (apply bl_then; assumption) | refine bl_alloc ?_ _ | refine bl_drew ?_ | refine bl_drewN ?_ _))) ?_
          clear hK K
          refine wpMid_run rfl (fun K hK => ?_)
          go_simp
          refine hK _ _ (by (repeat (first | exact bl_refl | assumption | (apply bl_then; assumption) | refine bl_alloc ?_ _ | refine bl_drew ?_ | refine bl_drewN ?_ _))) ?_
          clear hK K
          refine wpMid_skipT (by kernel_rfl) ?_
          intro K hK
          simp only [Act.put, List.setIfInBounds_toArray, List.set_cons_zero, List.set_cons_succ]
          refine hK _ ?_
          clear hK K
          refine wpMid_skipF (by kernel_rfl) ?_
          intro K hK
          simp only [Act.put, List.setIfInBounds_toArray, List.set_cons_zero, List.set_cons_succ]
          refine hK _ ?_
          clear hK K
          refine wpMid_skipF (by kernel_rfl) ?_
          intro K hK
          simp only [Act.put, List.setIfInBounds_toArray, List.set_cons_zero, List.set_cons_succ]
          refine hK _ ?_
          clear hK K
          refine wpMid_run rfl (fun K hK => ?_)
          go_simp
          refine hK _ _ (by (repeat (first | exact bl_refl | assumption | (apply bl_then; assumption) | refine bl_alloc ?_ _ | refine bl_drew ?_ | refine bl_drewN ?_ _))) ?_
          clear hK K
          refine wpMid_nil ?_
          go_wp2
          go_ret
          exact ⟨rfl, bl_then (by (repeat (first | exact bl_refl | assumption | (apply bl_then; assumption) | refine bl_alloc ?_ _ | refine bl_drew ?_ | refine bl_drewN ?_ _))) HW.out⟩
      · have hz' : panE p ≠ 0 := hz
        have tz : (panE p != 0) = true := by simpa using hz
        have cw1 := fun (a b c f : Value) W' q1 q2 q3 q4 => cPc (pcR (panE p) (plaQ p)) panZ (pcE (panE p) (plaQ p)) (panE p) a b c f W' q1 q2 q3 q4 (by rw [pcR_bad hz]; decide) (by rw [pcR_bad hz]; decide) (by decide) (fun x hx => by cases hx) (fun x hx => by cases hx)
        have cw2 := fun (a b c f : Value) W' q1 q2 q3 q4 => cPc (pcR (panE p) (mirQ p)) panZ (pcE (panE p) (mirQ p)) (panE p) a b c f W' q1 q2 q3 q4 (by rw [pcR_bad hz]; decide) (by rw [pcR_bad hz]; decide) (by decide) (fun x hx => by cases hx) (fun x hx => by cases hx)
        have cw3 := fun (a b c f : Value) W' q1 q2 q3 q4 => cPc (pcR (panE p) (turQ p)) panZ (pcE (panE p) (turQ p)) (panE p) a b c f W' q1 q2 q3 q4 (by rw [pcR_bad hz]; decide) (by rw [pcR_bad hz]; decide) (by decide) (fun x hx => by cases hx) (fun x hx => by cases hx)
        rw [piece_bad hz] at cw1 cw2 cw3
        have htw : twoP p o = panE p := by unfold twoP firstI; rw [if_neg hz]
        rw [htw, show (decide (panE p = 0) && samQ p o) = false by rw [decide_eq_false hz]; rfl] at cSm
        obtain ⟨QP, hQP⟩ : ∃ z, pcR (panE p) (plaQ p) = z := ⟨_, rfl⟩
        obtain ⟨EP, hEP⟩ : ∃ z, pcE (panE p) (plaQ p) = z := ⟨_, rfl⟩
        obtain ⟨QM, hQM⟩ : ∃ z, pcR (panE p) (mirQ p) = z := ⟨_, rfl⟩
        obtain ⟨EM, hEM⟩ : ∃ z, pcE (panE p) (mirQ p) = z := ⟨_, rfl⟩
        obtain ⟨QT, hQT⟩ : ∃ z, pcR (panE p) (turQ p) = z := ⟨_, rfl⟩
        obtain ⟨ET, hET⟩ : ∃ z, pcE (panE p) (turQ p) = z := ⟨_, rfl⟩
        rw [hQP, hEP] at cw1 cPl
        rw [hQM, hEM] at cw2 cMi
        rw [hQT, hET] at cw3 cTu
        obtain ⟨E, hE⟩ : ∃ z, panE p = z := ⟨_, rfl⟩
        rw [hE] at cCp cw1 cw2 cw3 cSm tz
        simp only [sV] at cSp cSo cGp cGo cCp cPl cMi cTu cSm cw1 cw2 cw3 ⊢
        clear hz hz' cPc lPl lMi lTu htw hQP hEP hQM hEM hQT hET hE cCo hq1 hq2 pwL pwR owL owR pwL' pwR' owL' owR'
        go_enter Tryz.func3, Tryz.ntmps3
        go_wp2_with fail
        refine (cAw _ (by (repeat (first | exact bl_refl | assumption | (apply bl_then; assumption) | refine bl_alloc ?_ _ | refine bl_drew ?_ | refine bl_drewN ?_ _)))).mono ?_
        rintro e w1 ⟨rfl, hb1⟩
        replace hB1 := hB1.below (show Below _ _ w1 by (repeat (first | exact bl_refl | assumption | (apply bl_then; assumption) | refine bl_alloc ?_ _ | refine bl_drew ?_ | refine bl_drewN ?_ _)))
        replace fhB1 := hB1.facts
        replace hB2 := hB2.below (show Below _ _ w1 by (repeat (first | exact bl_refl | assumption | (apply bl_then; assumption) | refine bl_alloc ?_ _ | refine bl_drew ?_ | refine bl_drewN ?_ _)))
        replace fhB2 := hB2.facts
        go_wp2_with fail
        refine (cSp _ (by (repeat (first | exact bl_refl | assumption | (apply bl_then; assumption) | refine bl_alloc ?_ _ | refine bl_drew ?_ | refine bl_drewN ?_ _)))).mono ?_
        rintro e w2 ⟨rfl, hb2⟩
        replace hB1 := hB1.below (show Below _ _ w2 by (repeat (first | exact bl_refl | assumption | (apply bl_then; assumption) | refine bl_alloc ?_ _ | refine bl_drew ?_ | refine bl_drewN ?_ _)))
        replace fhB1 := hB1.facts
        replace hB2 := hB2.below (show Below _ _ w2 by (repeat (first | exact bl_refl | assumption | (apply bl_then; assumption) | refine bl_alloc ?_ _ | refine bl_drew ?_ | refine bl_drewN ?_ _)))
        replace fhB2 := hB2.facts
        go_wp2_with fail
        refine (cSo _ (by (repeat (first | exact bl_refl | assumption | (apply bl_then; assumption) | refine bl_alloc ?_ _ | refine bl_drew ?_ | refine bl_drewN ?_ _)))).mono ?_
        rintro e w3 ⟨rfl, hb3⟩
        replace hB1 := hB1.below (show Below _ _ w3 by (repeat (first | exact bl_refl | assumption | (apply bl_then; assumption) | refine bl_alloc ?_ _ | refine bl_drew ?_ | refine bl_drewN ?_ _)))
        replace fhB1 := hB1.facts
        replace hB2 := hB2.below (show Below _ _ w3 by (repeat (first | exact bl_refl | assumption | (apply bl_then; assumption) | refine bl_alloc ?_ _ | refine bl_drew ?_ | refine bl_drewN ?_ _)))
        replace fhB2 := hB2.facts
        go_wp2_with fail
        refine (cGp _ (by (repeat (first | exact bl_refl | assumption | (apply bl_then; assumption) | refine bl_alloc ?_ _ | refine bl_drew ?_ | refine bl_drewN ?_ _)))).mono ?_
        rintro e w4 ⟨uL4, uR4, rfl, oL4, oR4, hb4⟩
        replace hB1 := hB1.below (show Below _ _ w4 by (repeat (first | exact bl_refl | assumption | (apply bl_then; assumption) | refine bl_alloc ?_ _ | refine bl_drew ?_ | refine bl_drewN ?_ _)))
        replace fhB1 := hB1.facts
        replace hB2 := hB2.below (show Below _ _ w4 by (repeat (first | exact bl_refl | assumption | (apply bl_then; assumption) | refine bl_alloc ?_ _ | refine bl_drew ?_ | refine bl_drewN ?_ _)))
        replace fhB2 := hB2.facts
        go_wp2_with fail
        refine (cPl _ _ _ (oL4.rd ec_len) (oR4.rd ec_len)).mono ?_
        rintro e w5 ⟨vL5, vR5, rfl, pL5, pR5, hb5⟩
        replace hB1 := hB1.below (show Below _ _ w5 by (repeat (first | exact bl_refl | assumption | (apply bl_then; assumption) | refine bl_alloc ?_ _ | refine bl_drew ?_ | refine bl_drewN ?_ _)))
        replace fhB1 := hB1.facts
        replace hB2 := hB2.below (show Below _ _ w5 by (repeat (first | exact bl_refl | assumption | (apply bl_then; assumption) | refine bl_alloc ?_ _ | refine bl_drew ?_ | refine bl_drewN ?_ _)))
        replace fhB2 := hB2.facts
        obtain ⟨A5, c5, rfl⟩ := pL5.shape
        obtain ⟨A6, c6, rfl⟩ := pR5.shape
        have hB5 := Blk.new w5 29 #[.string ⟨QP.1.toArray⟩, .int .i64 QP.2.1, .slice A5 QP.2.2.1.length c5, .slice A6 QP.2.2.2.length c6]
        have fB5 := hB5.facts
        go_wp2_with fail
        refine (cGp _ (by (repeat (first | exact bl_refl | assumption | (apply bl_then; assumption) | refine bl_alloc ?_ _ | refine bl_drew ?_ | refine bl_drewN ?_ _)))).mono ?_
        rintro e w6 ⟨uL6, uR6, rfl, oL6, oR6, hb6⟩
        replace hB1 := hB1.below (show Below _ _ w6 by (repeat (first | exact bl_refl | assumption | (apply bl_then; assumption) | refine bl_alloc ?_ _ | refine bl_drew ?_ | refine bl_drewN ?_ _)))
        replace fhB1 := hB1.facts
        replace hB2 := hB2.below (show Below _ _ w6 by (repeat (first | exact bl_refl | assumption | (apply bl_then; assumption) | refine bl_alloc ?_ _ | refine bl_drew ?_ | refine bl_drewN ?_ _)))
        replace fhB2 := hB2.facts
        replace hB5 := hB5.below (show Below _ _ w6 by (repeat (first | exact bl_refl | assumption | (apply bl_then; assumption) | refine bl_alloc ?_ _ | refine bl_drew ?_ | refine bl_drewN ?_ _)))
        replace fhB5 := hB5.facts
        go_wp2_with fail
        refine (cMi _ _ _ (oL6.rd ec_len) (oR6.rd ec_len)).mono ?_
        rintro e w7 ⟨vL7, vR7, rfl, pL7, pR7, hb7⟩
        replace hB1 := hB1.below (show Below _ _ w7 by (repeat (first | exact bl_refl | assumption | (apply bl_then; assumption) | refine bl_alloc ?_ _ | refine bl_drew ?_ | refine bl_drewN ?_ _)))
        replace fhB1 := hB1.facts
        replace hB2 := hB2.below (show Below _ _ w7 by (repeat (first | exact bl_refl | assumption | (apply bl_then; assumption) | refine bl_alloc ?_ _ | refine bl_drew ?_ | refine bl_drewN ?_ _)))
        replace fhB2 := hB2.facts
        replace hB5 := hB5.below (show Below _ _ w7 by (repeat (first | exact bl_refl | assumption | (apply bl_then; assumption) | refine bl_alloc ?_ _ | refine bl_drew ?_ | refine bl_drewN ?_ _)))
        replace fhB5 := hB5.facts
        obtain ⟨A7, c7, rfl⟩ := pL7.shape
        obtain ⟨A8, c8, rfl⟩ := pR7.shape
        have hB7 := Blk.new w7 29 #[.string ⟨QM.1.toArray⟩, .int .i64 QM.2.1, .slice A7 QM.2.2.1.length c7, .slice A8 QM.2.2.2.length c8]
        have fB7 := hB7.facts
        go_wp2_with fail
        refine (cGp _ (by (repeat (first | exact bl_refl | assumption | (apply bl_then; assumption) | refine bl_alloc ?_ _ | refine bl_drew ?_ | refine bl_drewN ?_ _)))).mono ?_
        rintro e w8 ⟨uL8, uR8, rfl, oL8, oR8, hb8⟩
        replace hB1 := hB1.below (show Below _ _ w8 by (repeat (first | exact bl_refl | assumption | (apply bl_then; assumption) | refine bl_alloc ?_ _ | refine bl_drew ?_ | refine bl_drewN ?_ _)))
        replace fhB1 := hB1.facts
        replace hB2 := hB2.below (show Below _ _ w8 by (repeat (first | exact bl_refl | assumption | (apply bl_then; assumption) | refine bl_alloc ?_ _ | refine bl_drew ?_ | refine bl_drewN ?_ _)))
        replace fhB2 := hB2.facts
        replace hB5 := hB5.below (show Below _ _ w8 by (repeat (first | exact bl_refl | assumption | (apply bl_then; assumption) | refine bl_alloc ?_ _ | refine bl_drew ?_ | refine bl_drewN ?_ _)))
        replace fhB5 := hB5.facts
        replace hB7 := hB7.below (show Below _ _ w8 by (repeat (first | exact bl_refl | assumption | (apply bl_then; assumption) | refine bl_alloc ?_ _ | refine bl_drew ?_ | refine bl_drewN ?_ _)))
        replace fhB7 := hB7.facts
        go_wp2_with fail
        refine (cTu _ _ _ (oL8.rd ec_len) (oR8.rd ec_len)).mono ?_
        rintro e w9 ⟨vL9, vR9, rfl, pL9, pR9, hb9⟩
        replace hB1 := hB1.below (show Below _ _ w9 by (repeat (first | exact bl_refl | assumption | (apply bl_then; assumption) | refine bl_alloc ?_ _ | refine bl_drew ?_ | refine bl_drewN ?_ _)))
        replace fhB1 := hB1.facts
        replace hB2 := hB2.below (show Below _ _ w9 by (repeat (first | exact bl_refl | assumption | (apply bl_then; assumption) | refine bl_alloc ?_ _ | refine bl_drew ?_ | refine bl_drewN ?_ _)))
        replace fhB2 := hB2.facts
        replace hB5 := hB5.below (show Below _ _ w9 by (repeat (first | exact bl_refl | assumption | (apply bl_then; assumption) | refine bl_alloc ?_ _ | refine bl_drew ?_ | refine bl_drewN ?_ _)))
        replace fhB5 := hB5.facts
        replace hB7 := hB7.below (show Below _ _ w9 by (repeat (first | exact bl_refl | assumption | (apply bl_then; assumption) | refine bl_alloc ?_ _ | refine bl_drew ?_ | refine bl_drewN ?_ _)))
        replace fhB7 := hB7.facts
        obtain ⟨A9, c9, rfl⟩ := pL9.shape
        obtain ⟨A10, c10, rfl⟩ := pR9.shape
        have hB9 := Blk.new w9 29 #[.string ⟨QT.1.toArray⟩, .int .i64 QT.2.1, .slice A9 QT.2.2.1.length c9, .slice A10 QT.2.2.2.length c10]
        go_upto_region 6 with fail
        obtain ⟨x9, hx9⟩ : ∃ X, w9.alloc (.cells #[.string ⟨QT.1.toArray⟩, .int .i64 QT.2.1, .slice A9 QT.2.2.1.length c9, .slice A10 QT.2.2.2.length c10] 29) = X := ⟨_, rfl⟩
        have hb9x : Below w9.heap.size w9 x9 := by rw [← hx9]; exact bl_alloc bl_refl _
        rw [hx9] at hB9 ⊢
        clear hx9
        replace hB1 := hB1.below hb9x
        replace hB2 := hB2.below hb9x
        replace hB5 := hB5.below hb9x
        replace hB7 := hB7.below hb9x
        have fB1 := hB1.facts
        have fB2 := hB2.facts
        have fB5 := hB5.facts
        have fB7 := hB7.facts
        have fB9 := hB9.facts
        have s1 := (pL5.rd ec_len).below (show Below w5.heap.size w5 x9 by (repeat (first | exact bl_refl | assumption | (apply bl_then; assumption) | refine bl_alloc ?_ _ | refine bl_drew ?_ | refine bl_drewN ?_ _)))
        have s2 := (pR5.rd ec_len).below (show Below w5.heap.size w5 x9 by (repeat (first | exact bl_refl | assumption | (apply bl_then; assumption) | refine bl_alloc ?_ _ | refine bl_drew ?_ | refine bl_drewN ?_ _)))
        have s3 := (pL7.rd ec_len).below (show Below w7.heap.size w7 x9 by (repeat (first | exact bl_refl | assumption | (apply bl_then; assumption) | refine bl_alloc ?_ _ | refine bl_drew ?_ | refine bl_drewN ?_ _)))
        have s4 := (pR7.rd ec_len).below (show Below w7.heap.size w7 x9 by (repeat (first | exact bl_refl | assumption | (apply bl_then; assumption) | refine bl_alloc ?_ _ | refine bl_drew ?_ | refine bl_drewN ?_ _)))
        have s5 := (pL9.rd ec_len).below (show Below w9.heap.size w9 x9 by (repeat (first | exact bl_refl | assumption | (apply bl_then; assumption) | refine bl_alloc ?_ _ | refine bl_drew ?_ | refine bl_drewN ?_ _)))
        have s6 := (pR9.rd ec_len).below (show Below w9.heap.size w9 x9 by (repeat (first | exact bl_refl | assumption | (apply bl_then; assumption) | refine bl_alloc ?_ _ | refine bl_drew ?_ | refine bl_drewN ?_ _)))
        have hW9 : Below W.heap.size W x9 := by (repeat (first | exact bl_refl | assumption | (apply bl_then; assumption) | refine bl_alloc ?_ _ | refine bl_drew ?_ | refine bl_drewN ?_ _))
        clear hb1 hb2 hb3 hb4 hb5 hb6 hb7 hb8 hb9 hb9x oL4 oR4 oL6 oR6 oL8 oR8 pL5 pR5 pL7 pR7 pL9 pR9
        have HW9 := Lib.hid hW9
        clear hW9
        refine wp_region_ords [0, 2] [(1, false), (3, false), (4, false), (5, false), (6, true), (7, true), (8, false)] [9] (by kernel_rfl) (by kernel_rfl) (fun d _ _ _ _ h => by cases d <;> exact h) ?_
        simp only [List.map_cons, List.map_nil, List.getD_cons_zero, List.getD_cons_succ]
        repeat (go_big_quiet_step (fail))
        refine wpQuiet_nil ?_
        refine wpMid_run rfl (fun K hK => ?_)
        go_simp
        refine (cGp _ (bl_then (by (repeat (first | exact bl_refl | assumption | (apply bl_then; assumption) | refine bl_alloc ?_ _ | refine bl_drew ?_ | refine bl_drewN ?_ _))) HW9.out)).mono ?_
        rintro e w10 ⟨uL10, uR10, rfl, oL10, oR10, hb10⟩
        refine hK _ _ (by (repeat (first | exact bl_refl | assumption | (apply bl_then; assumption) | refine bl_alloc ?_ _ | refine bl_drew ?_ | refine bl_drewN ?_ _))) ?_
        clear hK K
        have hB1_w10 := hB1.below (show Below _ _ w10 by (repeat (first | exact bl_refl | assumption | (apply bl_then; assumption) | refine bl_alloc ?_ _ | refine bl_drew ?_ | refine bl_drewN ?_ _)))
        have fhB1_w10 := hB1_w10.facts
        have hB2_w10 := hB2.below (show Below _ _ w10 by (repeat (first | exact bl_refl | assumption | (apply bl_then; assumption) | refine bl_alloc ?_ _ | refine bl_drew ?_ | refine bl_drewN ?_ _)))
        have fhB2_w10 := hB2_w10.facts
        have hB5_w10 := hB5.below (show Below _ _ w10 by (repeat (first | exact bl_refl | assumption | (apply bl_then; assumption) | refine bl_alloc ?_ _ | refine bl_drew ?_ | refine bl_drewN ?_ _)))
        have fhB5_w10 := hB5_w10.facts
        have hB7_w10 := hB7.below (show Below _ _ w10 by (repeat (first | exact bl_refl | assumption | (apply bl_then; assumption) | refine bl_alloc ?_ _ | refine bl_drew ?_ | refine bl_drewN ?_ _)))
        have fhB7_w10 := hB7_w10.facts
        have hB9_w10 := hB9.below (show Below _ _ w10 by (repeat (first | exact bl_refl | assumption | (apply bl_then; assumption) | refine bl_alloc ?_ _ | refine bl_drew ?_ | refine bl_drewN ?_ _)))
        have fhB9_w10 := hB9_w10.facts
        refine wpMid_run rfl (fun K hK => ?_)
        go_simp
        refine (cGo _ (bl_then (by (repeat (first | exact bl_refl | assumption | (apply bl_then; assumption) | refine bl_alloc ?_ _ | refine bl_drew ?_ | refine bl_drewN ?_ _))) HW9.out)).mono ?_
        rintro e w11 ⟨uL11, uR11, rfl, oL11, oR11, hb11⟩
        refine hK _ _ (by (repeat (first | exact bl_refl | assumption | (apply bl_then; assumption) | refine bl_alloc ?_ _ | refine bl_drew ?_ | refine bl_drewN ?_ _))) ?_
        clear hK K
        have hB1_w11 := hB1.below (show Below _ _ w11 by (repeat (first | exact bl_refl | assumption | (apply bl_then; assumption) | refine bl_alloc ?_ _ | refine bl_drew ?_ | refine bl_drewN ?_ _)))
        have fhB1_w11 := hB1_w11.facts
        have hB2_w11 := hB2.below (show Below _ _ w11 by (repeat (first | exact bl_refl | assumption | (apply bl_then; assumption) | refine bl_alloc ?_ _ | refine bl_drew ?_ | refine bl_drewN ?_ _)))
        have fhB2_w11 := hB2_w11.facts
        have hB5_w11 := hB5.below (show Below _ _ w11 by (repeat (first | exact bl_refl | assumption | (apply bl_then; assumption) | refine bl_alloc ?_ _ | refine bl_drew ?_ | refine bl_drewN ?_ _)))
        have fhB5_w11 := hB5_w11.facts
        have hB7_w11 := hB7.below (show Below _ _ w11 by (repeat (first | exact bl_refl | assumption | (apply bl_then; assumption) | refine bl_alloc ?_ _ | refine bl_drew ?_ | refine bl_drewN ?_ _)))
        have fhB7_w11 := hB7_w11.facts
        have hB9_w11 := hB9.below (show Below _ _ w11 by (repeat (first | exact bl_refl | assumption | (apply bl_then; assumption) | refine bl_alloc ?_ _ | refine bl_drew ?_ | refine bl_drewN ?_ _)))
        have fhB9_w11 := hB9_w11.facts
        refine wpMid_run rfl (fun K hK => ?_)
        go_simp
        refine (cSm _ _ _ _ _ ((oL10.rd ec_len).below (by (repeat (first | exact bl_refl | assumption | (apply bl_then; assumption) | refine bl_alloc ?_ _ | refine bl_drew ?_ | refine bl_drewN ?_ _)))) ((oR10.rd ec_len).below (by (repeat (first | exact bl_refl | assumption | (apply bl_then; assumption) | refine bl_alloc ?_ _ | refine bl_drew ?_ | refine bl_drewN ?_ _)))) (oL11.rd ec_len) (oR11.rd ec_len)).mono ?_
        rintro e w12 ⟨rfl, hb12⟩
        refine hK _ _ (by (repeat (first | exact bl_refl | assumption | (apply bl_then; assumption) | refine bl_alloc ?_ _ | refine bl_drew ?_ | refine bl_drewN ?_ _))) ?_
        clear hK K
        have hB1_w12 := hB1.below (show Below _ _ w12 by (repeat (first | exact bl_refl | assumption | (apply bl_then; assumption) | refine bl_alloc ?_ _ | refine bl_drew ?_ | refine bl_drewN ?_ _)))
        have fhB1_w12 := hB1_w12.facts
        have hB2_w12 := hB2.below (show Below _ _ w12 by (repeat (first | exact bl_refl | assumption | (apply bl_then; assumption) | refine bl_alloc ?_ _ | refine bl_drew ?_ | refine bl_drewN ?_ _)))
        have fhB2_w12 := hB2_w12.facts
        have hB5_w12 := hB5.below (show Below _ _ w12 by (repeat (first | exact bl_refl | assumption | (apply bl_then; assumption) | refine bl_alloc ?_ _ | refine bl_drew ?_ | refine bl_drewN ?_ _)))
        have fhB5_w12 := hB5_w12.facts
        have hB7_w12 := hB7.below (show Below _ _ w12 by (repeat (first | exact bl_refl | assumption | (apply bl_then; assumption) | refine bl_alloc ?_ _ | refine bl_drew ?_ | refine bl_drewN ?_ _)))
        have fhB7_w12 := hB7_w12.facts
        have hB9_w12 := hB9.below (show Below _ _ w12 by (repeat (first | exact bl_refl | assumption | (apply bl_then; assumption) | refine bl_alloc ?_ _ | refine bl_drew ?_ | refine bl_drewN ?_ _)))
        have fhB9_w12 := hB9_w12.facts
        refine wpMid_run rfl (fun K hK => ?_)
        go_simp
        refine hK _ _ (by (repeat (first | exact bl_refl | assumption | (apply bl_then; assumption) | refine bl_alloc ?_ _ | refine bl_drew ?_ | refine bl_drewN ?_ _))) ?_
        clear hK K
        refine wpMid_take rfl ?_
        intro K hK
        go_big_quiet_op
        go_big_quiet_on
        refine wpMid_take rfl ?_
        intro K hK
        go_big_quiet_op
        go_big_quiet_on
        refine wpMid_run rfl (fun K hK => ?_)
        go_simp
        refine hK _ _ (by (repeat (first | exact bl_refl | assumption | (apply bl_then; assumption) | refine bl_alloc ?_ _ | refine bl_drew ?_ | refine bl_drewN ?_ _))) ?_
        clear hK K
        refine wpMid_nil ?_
        have hx12 : Below x9.heap.size x9 w12 := by (repeat (first | exact bl_refl | assumption | (apply bl_then; assumption) | refine bl_alloc ?_ _ | refine bl_drew ?_ | refine bl_drewN ?_ _))
        replace hB1 := hB1.below hx12
        replace hB2 := hB2.below hx12
        replace hB5 := hB5.below hx12
        replace hB7 := hB7.below hx12
        replace hB9 := hB9.below hx12
        have fB1 := hB1.facts
        have fB2 := hB2.facts
        have fB5 := hB5.facts
        have fB7 := hB7.facts
        have fB9 := hB9.facts
        replace s1 := s1.below hx12
        replace s2 := s2.below hx12
        replace s3 := s3.below hx12
        replace s4 := s4.below hx12
        replace s5 := s5.below hx12
        replace s6 := s6.below hx12
        have HW12 := Lib.hid (bl_then hx12 HW9.out)
        clear hb10 hb11 hb12 hx12 oL10 oR10 oL11 oR11 HW9
        go_wp2_with fail
        refine (cCp _ (bl_then (by (repeat (first | exact bl_refl | assumption | (apply bl_then; assumption) | refine bl_alloc ?_ _ | refine bl_drew ?_ | refine bl_drewN ?_ _))) HW12.out)).mono ?_
        rintro e w13 ⟨rfl, hb13⟩
        replace hB1 := hB1.below (show Below _ _ w13 by (repeat (first | exact bl_refl | assumption | (apply bl_then; assumption) | refine bl_alloc ?_ _ | refine bl_drew ?_ | refine bl_drewN ?_ _)))
        replace fhB1 := hB1.facts
        replace hB2 := hB2.below (show Below _ _ w13 by (repeat (first | exact bl_refl | assumption | (apply bl_then; assumption) | refine bl_alloc ?_ _ | refine bl_drew ?_ | refine bl_drewN ?_ _)))
        replace fhB2 := hB2.facts
        replace hB5 := hB5.below (show Below _ _ w13 by (repeat (first | exact bl_refl | assumption | (apply bl_then; assumption) | refine bl_alloc ?_ _ | refine bl_drew ?_ | refine bl_drewN ?_ _)))
        replace fhB5 := hB5.facts
        replace hB7 := hB7.below (show Below _ _ w13 by (repeat (first | exact bl_refl | assumption | (apply bl_then; assumption) | refine bl_alloc ?_ _ | refine bl_drew ?_ | refine bl_drewN ?_ _)))
        replace fhB7 := hB7.facts
        replace hB9 := hB9.below (show Below _ _ w13 by (repeat (first | exact bl_refl | assumption | (apply bl_then; assumption) | refine bl_alloc ?_ _ | refine bl_drew ?_ | refine bl_drewN ?_ _)))
        replace fhB9 := hB9.facts
        go_wp2_with fail
        refine (cw1 _ _ _ _ _ (s1.below (by (repeat (first | exact bl_refl | assumption | (apply bl_then; assumption) | refine bl_alloc ?_ _ | refine bl_drew ?_ | refine bl_drewN ?_ _)))) (s2.below (by (repeat (first | exact bl_refl | assumption | (apply bl_then; assumption) | refine bl_alloc ?_ _ | refine bl_drew ?_ | refine bl_drewN ?_ _)))) Sl.nil_ Sl.nil_).mono ?_
        rintro e w14 ⟨rfl, hb14⟩
        replace hB1 := hB1.below (show Below _ _ w14 by (repeat (first | exact bl_refl | assumption | (apply bl_then; assumption) | refine bl_alloc ?_ _ | refine bl_drew ?_ | refine bl_drewN ?_ _)))
        replace fhB1 := hB1.facts
        replace hB2 := hB2.below (show Below _ _ w14 by (repeat (first | exact bl_refl | assumption | (apply bl_then; assumption) | refine bl_alloc ?_ _ | refine bl_drew ?_ | refine bl_drewN ?_ _)))
        replace fhB2 := hB2.facts
        replace hB5 := hB5.below (show Below _ _ w14 by (repeat (first | exact bl_refl | assumption | (apply bl_then; assumption) | refine bl_alloc ?_ _ | refine bl_drew ?_ | refine bl_drewN ?_ _)))
        replace fhB5 := hB5.facts
        replace hB7 := hB7.below (show Below _ _ w14 by (repeat (first | exact bl_refl | assumption | (apply bl_then; assumption) | refine bl_alloc ?_ _ | refine bl_drew ?_ | refine bl_drewN ?_ _)))
        replace fhB7 := hB7.facts
        replace hB9 := hB9.below (show Below _ _ w14 by (repeat (first | exact bl_refl | assumption | (apply bl_then; assumption) | refine bl_alloc ?_ _ | refine bl_drew ?_ | refine bl_drewN ?_ _)))
        replace fhB9 := hB9.facts
        go_wp2_with fail
        refine (cw2 _ _ _ _ _ (s3.below (by (repeat (first | exact bl_refl | assumption | (apply bl_then; assumption) | refine bl_alloc ?_ _ | refine bl_drew ?_ | refine bl_drewN ?_ _)))) (s4.below (by (repeat (first | exact bl_refl | assumption | (apply bl_then; assumption) | refine bl_alloc ?_ _ | refine bl_drew ?_ | refine bl_drewN ?_ _)))) Sl.nil_ Sl.nil_).mono ?_
        rintro e w15 ⟨rfl, hb15⟩
        replace hB1 := hB1.below (show Below _ _ w15 by (repeat (first | exact bl_refl | assumption | (apply bl_then; assumption) | refine bl_alloc ?_ _ | refine bl_drew ?_ | refine bl_drewN ?_ _)))
        replace fhB1 := hB1.facts
        replace hB2 := hB2.below (show Below _ _ w15 by (repeat (first | exact bl_refl | assumption | (apply bl_then; assumption) | refine bl_alloc ?_ _ | refine bl_drew ?_ | refine bl_drewN ?_ _)))
        replace fhB2 := hB2.facts
        replace hB5 := hB5.below (show Below _ _ w15 by (repeat (first | exact bl_refl | assumption | (apply bl_then; assumption) | refine bl_alloc ?_ _ | refine bl_drew ?_ | refine bl_drewN ?_ _)))
        replace fhB5 := hB5.facts
        replace hB7 := hB7.below (show Below _ _ w15 by (repeat (first | exact bl_refl | assumption | (apply bl_then; assumption) | refine bl_alloc ?_ _ | refine bl_drew ?_ | refine bl_drewN ?_ _)))
        replace fhB7 := hB7.facts
        replace hB9 := hB9.below (show Below _ _ w15 by (repeat (first | exact bl_refl | assumption | (apply bl_then; assumption) | refine bl_alloc ?_ _ | refine bl_drew ?_ | refine bl_drewN ?_ _)))
        replace fhB9 := hB9.facts
        go_wp2_with fail
        refine (cw3 _ _ _ _ _ (s5.below (by (repeat (first | exact bl_refl | assumption | (apply bl_then; assumption) | refine bl_alloc ?_ _ | refine bl_drew ?_ | refine bl_drewN ?_ _)))) (s6.below (by (repeat (first | exact bl_refl | assumption | (apply bl_then; assumption) | refine bl_alloc ?_ _ | refine bl_drew ?_ | refine bl_drewN ?_ _)))) Sl.nil_ Sl.nil_).mono ?_
        rintro e w16 ⟨rfl, hb16⟩
        go_wp2
        go_ret
        exact ⟨rfl, bl_then (by (repeat (first | exact bl_refl | assumption | (apply bl_then; assumption) | refine bl_alloc ?_ _ | refine bl_drew ?_ | refine bl_drewN ?_ _))) HW12.out⟩
end Go.Proofs.YthkjgcldolnjaaaGreatDoor

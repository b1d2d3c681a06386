/- A panel handed back is the expected one, walked. Conditions: bounds. -/
import Derived.Test.YthkjgcldolnjaaaGreatDoorH42
import Derived.Test.YthkjgcldolnjaaaGreatDoorH35
import Derived.Test.YthkjgcldolnjaaaGreatDoorH25
import Derived.Test.YthkjgcldolnjaaaGreatDoorH34
import Derived.Test.YthkjgcldolnjaaaGreatDoorH26
import Derived.Test.YthkjgcldolnjaaaGreatDoorH13
import Derived.Test.YthkjgcldolnjaaaGreatDoorH30
namespace Go.Proofs.YthkjgcldolnjaaaGreatDoor
open Go.RowKit Go.ChangeMaps
set_option maxHeartbeats 4000000
set_option maxRecDepth 100000

attribute [local go_sem] Oper.semAt_some
/-! # A panel handed back is the expected one: the law's helpers -/
theorem eqP_refl (p : Pan) : eqP p p = true := by unfold eqP; simp
def pieceE (bad : Int) (want : Pan) : Int := if bad = 0 then panE want else bad
def pieceB (h : Pan) (e bad : Int) (want : Pan) : Bool := if pieceE bad want ≠ 0 then eqP h panZ && decide (e = pieceE bad want) else decide (e = 0) && eqP h want
theorem piece_self (E : Int) (q : Pan) : pieceB (pcR E q) (pcE E q) E q = true := by
  have he : pieceE E q = pcE E q := by
    unfold pieceE pcE
    by_cases h : E = 0
    · rw [if_pos h, if_neg (by simp [h])]
    · rw [if_neg h, if_pos h]
  unfold pieceB
  rw [he]
  by_cases h : pcE E q = 0
  · rw [if_neg (by simp [h]), h]
    unfold pcR
    rw [if_pos h, eqP_refl]
    rfl
  · rw [if_pos h]
    unfold pcR
    rw [if_neg h, eqP_refl]
    simp
theorem piece_bad {E : Int} (hE : E ≠ 0) (q want : Pan) : pieceB (pcR E q) (pcE E q) E want = true := by
  have h2 : pcE E q = E := if_pos hE
  have h3 : pieceE E want = E := if_neg hE
  unfold pieceB pcR
  rw [h2, h3, if_pos hE, if_neg hE, eqP_refl]
  simp
theorem lfst_any (l : List Int) (A : Option Addr) (c : Nat) (w : World) (hl : l.length ≤ maxLen) (h : Rd ic 1 w A l) : Calls Tryz.prog 35 #[.slice A l.length c] w (RV w (.int .i64 (firstI l))) := by
  go_enter Tryz.func35, Tryz.ntmps35
  go_wp2_with (go_at_call 66; refine (rfirst_any l A c _ hl h).mono ?_; rintro e w1 ⟨rfl, hb1⟩)
  go_ret
  exact ⟨rfl, by (repeat (first | exact bl_refl | assumption | (apply bl_then; assumption) | refine bl_alloc ?_ _ | refine bl_drew ?_ | refine bl_drewN ?_ _))⟩
theorem lwhn_any (b : Bool) (n : Int) (w : World) : Calls Tryz.prog 36 #[.bool b, .int .i64 n] w (RV w (.int .i64 (whenI b n))) := by
  cases b
  all_goals
    go_enter Tryz.func36, Tryz.ntmps36
    go_wp2
    go_ret
    exact ⟨rfl, bl_refl⟩
theorem piece_any {hl hr wl wr : Value} (h want : Pan) (e bad : Int) (w : World) (HL : SlE w hl h.2.2.1) (HR : SlE w hr h.2.2.2) (WL : SlE w wl want.2.2.1) (WR : SlE w wr want.2.2.2) (l1 : h.2.2.1.length ≤ 100000) (l2 : h.2.2.2.length ≤ 100000)
    (hnw : want.1.length ≤ 1000000) (w1 : ∀ x ∈ want.2.2.1, x.1.length ≤ 1000000) (w2 : ∀ x ∈ want.2.2.2, x.1.length ≤ 1000000) :
    Calls Tryz.prog 17 #[.agg #[sV h.1, .int .i64 h.2.1, hl, hr], .int .i64 e, .int .i64 bad, .agg #[sV want.1, .int .i64 want.2.1, wl, wr]] w (RV w (.bool (pieceB h e bad want))) := by
  have cCk := fun W (hb : Below w.heap.size w W) => rcheckPanel_any want W hnw (WL.below hb) (WR.below hb) w1 w2
  have cOwn := fun W (hb : Below w.heap.size w W) => rown_any h W (HL.below hb) (HR.below hb) l1 l2
  have cS1 := fun (a b : Value) W hL hR => samePanel_any (vL := a) (vR := b) (uL := .slice none 0 0) (uR := .slice none 0 0) h panZ W hL hR Sl.nil_ Sl.nil_
  have cS2 := fun (a b : Value) W hL hR (hb : Below w.heap.size w W) => samePanel_any (vL := a) (vR := b) (uL := wl) (uR := wr) h want W hL hR (WL.below hb) (WR.below hb)
  unfold ROW at cOwn
  have HB : Hid (pieceB h e bad want = if pieceE bad want ≠ 0 then eqP h panZ && decide (e = pieceE bad want) else decide (e = 0) && eqP h want) := rfl
  have HE : Hid (pieceE bad want = if bad = 0 then panE want else bad) := rfl
  obtain ⟨R, hR⟩ : ∃ R, pieceB h e bad want = R := ⟨_, rfl⟩
  obtain ⟨E, hE⟩ : ∃ R, pieceE bad want = R := ⟨_, rfl⟩
  obtain ⟨P, hP⟩ : ∃ R, panE want = R := ⟨_, rfl⟩
  obtain ⟨q1, hq1⟩ : ∃ R, eqP h panZ = R := ⟨_, rfl⟩
  obtain ⟨q2, hq2⟩ : ∃ R, eqP h want = R := ⟨_, rfl⟩
  rw [hR, hE, hq1, hq2] at HB
  rw [hE, hP] at HE
  rw [hP] at cCk
  rw [hq1] at cS1
  rw [hq2] at cS2
  rw [hR]
  clear hR hE hP hq1 hq2
  obtain ⟨AL, cL, rfl, _, _, _⟩ := HL
  obtain ⟨AR, cR, rfl, _, _, _⟩ := HR
  obtain ⟨BL, dL, rfl, _, _, _⟩ := WL
  obtain ⟨BR, dR, rfl, _, _, _⟩ := WR
  simp only [sV] at cCk cOwn cS1 cS2 ⊢
  have hB1 := (Blk.new w 29 #[.string ⟨h.1.toArray⟩, .int .i64 h.2.1, .slice AL h.2.2.1.length cL, .slice AR h.2.2.2.length cR]).alloc (.cells #[.string ⟨want.1.toArray⟩, .int .i64 want.2.1, .slice BL want.2.2.1.length dL, .slice BR want.2.2.2.length dR] 24)
  have hB2 := Blk.new1 w (.cells #[.string ⟨h.1.toArray⟩, .int .i64 h.2.1, .slice AL h.2.2.1.length cL, .slice AR h.2.2.2.length cR] 29) 24 #[.string ⟨want.1.toArray⟩, .int .i64 want.2.1, .slice BL want.2.2.1.length dL, .slice BR want.2.2.2.length dR]
  have fB1 := hB1.facts
  have fB2 := hB2.facts
  by_cases hb : bad = 0
  · have HE2 : Hid (E = P) := by unfold Hid; rw [HE.out, if_pos hb]
    rw [HE2.out] at HB
    clear HE
    by_cases hP : P = 0
    · have HB2 : Hid (R = (decide (e = 0) && q2)) := by unfold Hid; rw [HB.out, if_neg (by simp [hP])]
      subst hb
      subst hP
      clear HB
      by_cases he : e = 0
      · have HB3 : Hid (R = q2) := by unfold Hid; rw [HB2.out, decide_eq_true he, Bool.true_and]
        subst he
        go_enter Tryz.func17, Tryz.ntmps17
        go_wp2_with fail
        refine (cCk _ (by (repeat (first | exact bl_refl | assumption | (apply bl_then; assumption) | refine bl_alloc ?_ _ | refine bl_drew ?_ | refine bl_drewN ?_ _)))).mono ?_
        rintro e w2 ⟨rfl, hb2⟩
        replace hB1 := hB1.below (show Below _ _ w2 by (repeat (first | exact bl_refl | assumption | (apply bl_then; assumption) | refine bl_alloc ?_ _ | refine bl_drew ?_ | refine bl_drewN ?_ _)))
        replace fhB1 := hB1.facts
        replace hB2 := hB2.below (show Below _ _ w2 by (repeat (first | exact bl_refl | assumption | (apply bl_then; assumption) | refine bl_alloc ?_ _ | refine bl_drew ?_ | refine bl_drewN ?_ _)))
        replace fhB2 := hB2.facts
        go_upto_region 5 with fail
        refine wp_region_ords [0, 1, 2, 3, 5] [(4, false)] [6, 7, 8] (by kernel_rfl) (by kernel_rfl) (fun d _ _ _ _ h => by cases d <;> exact h) ?_
        simp only [List.map_cons, List.map_nil, List.getD_cons_zero, List.getD_cons_succ]
        repeat (go_big_quiet_step (fail))
        refine wpQuiet_nil ?_
        refine wpMid_run rfl (fun K hK => ?_)
        go_simp
        refine (cOwn _ (by (repeat (first | exact bl_refl | assumption | (apply bl_then; assumption) | refine bl_alloc ?_ _ | refine bl_drew ?_ | refine bl_drewN ?_ _)))).mono ?_
        rintro e w3 ⟨uL, uR, rfl, oL, oR, hb3⟩
        refine hK _ _ (by (repeat (first | exact bl_refl | assumption | (apply bl_then; assumption) | refine bl_alloc ?_ _ | refine bl_drew ?_ | refine bl_drewN ?_ _))) ?_
        clear hK K
        have hB1_w3 := hB1.below (show Below _ _ w3 by (repeat (first | exact bl_refl | assumption | (apply bl_then; assumption) | refine bl_alloc ?_ _ | refine bl_drew ?_ | refine bl_drewN ?_ _)))
        have fhB1_w3 := hB1_w3.facts
        have hB2_w3 := hB2.below (show Below _ _ w3 by (repeat (first | exact bl_refl | assumption | (apply bl_then; assumption) | refine bl_alloc ?_ _ | refine bl_drew ?_ | refine bl_drewN ?_ _)))
        have fhB2_w3 := hB2_w3.facts
        refine wpMid_nil ?_
        go_wp2_with (go_at_call 47; refine (cS2 _ _ _ (oL.rd ec_len) (oR.rd ec_len) (by (repeat (first | exact bl_refl | assumption | (apply bl_then; assumption) | refine bl_alloc ?_ _ | refine bl_drew ?_ | refine bl_drewN ?_ _)))).mono ?_; rintro e w4 ⟨rfl, hb4⟩)
        go_ret
        exact ⟨by rw [HB3.out]; rfl, by (repeat (first | exact bl_refl | assumption | (apply bl_then; assumption) | refine bl_alloc ?_ _ | refine bl_drew ?_ | refine bl_drewN ?_ _))⟩
      · have HB3 : Hid (R = false) := by unfold Hid; rw [HB2.out, decide_eq_false he]; rfl
        have te : (e == 0) = false := beq_false_of_ne he
        clear he
        go_enter Tryz.func17, Tryz.ntmps17
        go_wp2_with fail
        refine (cCk _ (by (repeat (first | exact bl_refl | assumption | (apply bl_then; assumption) | refine bl_alloc ?_ _ | refine bl_drew ?_ | refine bl_drewN ?_ _)))).mono ?_
        rintro e w2 ⟨rfl, hb2⟩
        replace hB1 := hB1.below (show Below _ _ w2 by (repeat (first | exact bl_refl | assumption | (apply bl_then; assumption) | refine bl_alloc ?_ _ | refine bl_drew ?_ | refine bl_drewN ?_ _)))
        replace fhB1 := hB1.facts
        replace hB2 := hB2.below (show Below _ _ w2 by (repeat (first | exact bl_refl | assumption | (apply bl_then; assumption) | refine bl_alloc ?_ _ | refine bl_drew ?_ | refine bl_drewN ?_ _)))
        replace fhB2 := hB2.facts
        go_upto_region 5 with fail
        refine wp_region_ords [0, 1, 2, 3, 5] [(4, false)] [6, 7, 8] (by kernel_rfl) (by kernel_rfl) (fun d _ _ _ _ h => by cases d <;> exact h) ?_
        simp only [List.map_cons, List.map_nil, List.getD_cons_zero, List.getD_cons_succ]
        repeat (go_big_quiet_step (fail))
        refine wpQuiet_nil ?_
        refine wpMid_skipF (by kernel_rfl) ?_
        intro K hK
        simp only [Act.put, List.setIfInBounds_toArray, List.set_cons_zero, List.set_cons_succ]
        refine hK _ ?_
        clear hK K
        refine wpMid_nil ?_
        go_wp2
        go_ret
        exact ⟨by rw [HB3.out]; rfl, by (repeat (first | exact bl_refl | assumption | (apply bl_then; assumption) | refine bl_alloc ?_ _ | refine bl_drew ?_ | refine bl_drewN ?_ _))⟩
    · have HB2 : Hid (R = (q1 && decide (e = P))) := by unfold Hid; rw [HB.out, if_pos hP]
      have tp : (P != 0) = true := by simpa using hP
      subst hb
      clear HB hP
      go_enter Tryz.func17, Tryz.ntmps17
      go_wp2_with fail
      refine (cCk _ (by (repeat (first | exact bl_refl | assumption | (apply bl_then; assumption) | refine bl_alloc ?_ _ | refine bl_drew ?_ | refine bl_drewN ?_ _)))).mono ?_
      rintro e w2 ⟨rfl, hb2⟩
      replace hB1 := hB1.below (show Below _ _ w2 by (repeat (first | exact bl_refl | assumption | (apply bl_then; assumption) | refine bl_alloc ?_ _ | refine bl_drew ?_ | refine bl_drewN ?_ _)))
      replace fhB1 := hB1.facts
      replace hB2 := hB2.below (show Below _ _ w2 by (repeat (first | exact bl_refl | assumption | (apply bl_then; assumption) | refine bl_alloc ?_ _ | refine bl_drew ?_ | refine bl_drewN ?_ _)))
      replace fhB2 := hB2.facts
      go_wp2_with fail
      refine (cOwn _ (by (repeat (first | exact bl_refl | assumption | (apply bl_then; assumption) | refine bl_alloc ?_ _ | refine bl_drew ?_ | refine bl_drewN ?_ _)))).mono ?_
      rintro e w3 ⟨uL, uR, rfl, oL, oR, hb3⟩
      replace hB1 := hB1.below (show Below _ _ w3 by (repeat (first | exact bl_refl | assumption | (apply bl_then; assumption) | refine bl_alloc ?_ _ | refine bl_drew ?_ | refine bl_drewN ?_ _)))
      replace fhB1 := hB1.facts
      replace hB2 := hB2.below (show Below _ _ w3 by (repeat (first | exact bl_refl | assumption | (apply bl_then; assumption) | refine bl_alloc ?_ _ | refine bl_drew ?_ | refine bl_drewN ?_ _)))
      replace fhB2 := hB2.facts
      go_wp2_with fail
      refine (cS1 _ _ _ (oL.rd ec_len) (oR.rd ec_len)).mono ?_
      rintro e w4 ⟨rfl, hb4⟩
      cases q1
      · go_wp2
        go_ret
        exact ⟨by rw [HB2.out]; rfl, by (repeat (first | exact bl_refl | assumption | (apply bl_then; assumption) | refine bl_alloc ?_ _ | refine bl_drew ?_ | refine bl_drewN ?_ _))⟩
      · by_cases he : e = P
        · have HB3 : Hid (R = true) := by unfold Hid; rw [HB2.out, decide_eq_true he]; rfl
          subst he
          go_wp2
          go_ret
          exact ⟨by rw [HB3.out]; rfl, by (repeat (first | exact bl_refl | assumption | (apply bl_then; assumption) | refine bl_alloc ?_ _ | refine bl_drew ?_ | refine bl_drewN ?_ _))⟩
        · have HB3 : Hid (R = false) := by unfold Hid; rw [HB2.out, decide_eq_false he]; rfl
          have te : (e == P) = false := beq_false_of_ne he
          clear he
          go_wp2
          go_ret
          exact ⟨by rw [HB3.out]; rfl, by (repeat (first | exact bl_refl | assumption | (apply bl_then; assumption) | refine bl_alloc ?_ _ | refine bl_drew ?_ | refine bl_drewN ?_ _))⟩
  · have HE2 : Hid (E = bad) := by unfold Hid; rw [HE.out, if_neg hb]
    rw [HE2.out] at HB
    have HB2 : Hid (R = (q1 && decide (e = bad))) := by unfold Hid; rw [HB.out, if_pos hb]
    have tb : (bad == 0) = false := beq_false_of_ne hb
    have tb2 : (bad != 0) = true := by simpa using hb
    clear HE HB hb
    go_enter Tryz.func17, Tryz.ntmps17
    go_wp2_with fail
    refine (cOwn _ (by (repeat (first | exact bl_refl | assumption | (apply bl_then; assumption) | refine bl_alloc ?_ _ | refine bl_drew ?_ | refine bl_drewN ?_ _)))).mono ?_
    rintro e w3 ⟨uL, uR, rfl, oL, oR, hb3⟩
    replace hB1 := hB1.below (show Below _ _ w3 by (repeat (first | exact bl_refl | assumption | (apply bl_then; assumption) | refine bl_alloc ?_ _ | refine bl_drew ?_ | refine bl_drewN ?_ _)))
    replace fhB1 := hB1.facts
    replace hB2 := hB2.below (show Below _ _ w3 by (repeat (first | exact bl_refl | assumption | (apply bl_then; assumption) | refine bl_alloc ?_ _ | refine bl_drew ?_ | refine bl_drewN ?_ _)))
    replace fhB2 := hB2.facts
    go_wp2_with fail
    refine (cS1 _ _ _ (oL.rd ec_len) (oR.rd ec_len)).mono ?_
    rintro e w4 ⟨rfl, hb4⟩
    cases q1
    · go_wp2
      go_ret
      exact ⟨by rw [HB2.out]; rfl, by (repeat (first | exact bl_refl | assumption | (apply bl_then; assumption) | refine bl_alloc ?_ _ | refine bl_drew ?_ | refine bl_drewN ?_ _))⟩
    · by_cases he : e = bad
      · have HB3 : Hid (R = true) := by unfold Hid; rw [HB2.out, decide_eq_true he]; rfl
        subst he
        go_wp2
        go_ret
        exact ⟨by rw [HB3.out]; rfl, by (repeat (first | exact bl_refl | assumption | (apply bl_then; assumption) | refine bl_alloc ?_ _ | refine bl_drew ?_ | refine bl_drewN ?_ _))⟩
      · have HB3 : Hid (R = false) := by unfold Hid; rw [HB2.out, decide_eq_false he]; rfl
        have te : (e == bad) = false := beq_false_of_ne he
        clear he
        go_wp2
        go_ret
        exact ⟨by rw [HB3.out]; rfl, by (repeat (first | exact bl_refl | assumption | (apply bl_then; assumption) | refine bl_alloc ?_ _ | refine bl_drew ?_ | refine bl_drewN ?_ _))⟩
/-! ## the reference's Stack -/
end Go.Proofs.YthkjgcldolnjaaaGreatDoor

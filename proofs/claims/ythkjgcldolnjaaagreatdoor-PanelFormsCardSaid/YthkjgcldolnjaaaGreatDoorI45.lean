/- A panel handed back is the expected one, walked. Conditions: bounds. -/
import Derived.Test.YthkjgcldolnjaaaGreatDoorI42
import Derived.Test.YthkjgcldolnjaaaGreatDoorI35
import Derived.Test.YthkjgcldolnjaaaGreatDoorI25
import Derived.Test.YthkjgcldolnjaaaGreatDoorI34
import Derived.Test.YthkjgcldolnjaaaGreatDoorI26
import Derived.Test.YthkjgcldolnjaaaGreatDoorI13
import Derived.Test.YthkjgcldolnjaaaGreatDoorI30
import Derived.Test.YthkjgcldolnjaaaGreatDoorI07
namespace Go.Proofs.YthkjgcldolnjaaaGreatDoor
open Go.RowKit Go.ChangeMaps
set_option maxHeartbeats 4000000
set_option maxRecDepth 100000

attribute [local go_sem] Oper.semAt_some
/-! # A panel handed back is the expected one: the law's helpers -/
theorem eqP_refl (p : Pan) : eqP p p = true := by unfold eqP; simp
def pieceE (bad : Int) (want : Pan) : Int := if bad = 0 then panE want else bad
def pieceB (h : Pan) (e bad : Int) (want : Pan) : Bool := if pieceE bad want ≠ 0 then eqP h panZ && decide (e = pieceE bad want) else decide (e = 0) && eqP h want
theorem piece_self (E : Int) (q : Pan) : pieceB (pcR E q) (pcE E q) E q = true := by
  have he : pieceE E q = pcE E q := by
    unfold pieceE pcE
    by_cases h : E = 0
    · rw [if_pos h, if_neg (by simp [h])]
    · rw [if_neg h, if_pos h]
  unfold pieceB
  rw [he]
  by_cases h : pcE E q = 0
  · rw [if_neg (by simp [h]), h]
    unfold pcR
    rw [if_pos h, eqP_refl]
    rfl
  · rw [if_pos h]
    unfold pcR
    rw [if_neg h, eqP_refl]
    simp
theorem piece_bad {E : Int} (hE : E ≠ 0) (q want : Pan) : pieceB (pcR E q) (pcE E q) E want = true := by
  have h2 : pcE E q = E := if_pos hE
  have h3 : pieceE E want = E := if_neg hE
  unfold pieceB pcR
  rw [h2, h3, if_pos hE, if_neg hE, eqP_refl]
  simp
theorem piece_any {hl hr wl wr : Value} (h want : Pan) (e bad : Int) (w : World) (HL : SlE w hl h.2.2.1) (HR : SlE w hr h.2.2.2) (WL : SlE w wl want.2.2.1) (WR : SlE w wr want.2.2.2) (l1 : h.2.2.1.length ≤ 100000) (l2 : h.2.2.2.length ≤ 100000)
    (hnw : want.1.length ≤ 1000000) (w1 : ∀ x ∈ want.2.2.1, x.1.length ≤ 1000000) (w2 : ∀ x ∈ want.2.2.2, x.1.length ≤ 1000000) :
    Calls Tryz.prog 17 #[.agg #[sV h.1, .int .i64 h.2.1, hl, hr], .int .i64 e, .int .i64 bad, .agg #[sV want.1, .int .i64 want.2.1, wl, wr]] w (RV w (.bool (pieceB h e bad want))) := by
  have cCk := fun W (hb : Below w.heap.size w W) => rcheckPanel_any want W hnw (WL.below hb) (WR.below hb) w1 w2
  have cOwn := fun W (hb : Below w.heap.size w W) => rown_any h W (HL.below hb) (HR.below hb) l1 l2
  have cS1 := fun (a b : Value) W hL hR => samePanel_any (vL := a) (vR := b) (uL := .slice none 0 0) (uR := .slice none 0 0) h panZ W hL hR Sl.nil_ Sl.nil_
  have cS2 := fun (a b : Value) W hL hR (hb : Below w.heap.size w W) => samePanel_any (vL := a) (vR := b) (uL := wl) (uR := wr) h want W hL hR (WL.below hb) (WR.below hb)
  unfold ROW at cOwn
  have HB : Hid (pieceB h e bad want = if pieceE bad want ≠ 0 then eqP h panZ && decide (e = pieceE bad want) else decide (e = 0) && eqP h want) := rfl
  have HE : Hid (pieceE bad want = if bad = 0 then panE want else bad) := rfl
  obtain ⟨R, hR⟩ : ∃ R, pieceB h e bad want = R := ⟨_, rfl⟩
  obtain ⟨E, hE⟩ : ∃ R, pieceE bad want = R := ⟨_, rfl⟩
  obtain ⟨P, hP⟩ : ∃ R, panE want = R := ⟨_, rfl⟩
  obtain ⟨q1, hq1⟩ : ∃ R, eqP h panZ = R := ⟨_, rfl⟩
  obtain ⟨q2, hq2⟩ : ∃ R, eqP h want = R := ⟨_, rfl⟩
  rw [hR, hE, hq1, hq2] at HB
  rw [hE, hP] at HE
  rw [hP] at cCk
  rw [hq1] at cS1
  rw [hq2] at cS2
  rw [hR]
  clear hR hE hP hq1 hq2
  obtain ⟨AL, cL, rfl, _, _, _⟩ := HL
  obtain ⟨AR, cR, rfl, _, _, _⟩ := HR
  obtain ⟨BL, dL, rfl, _, _, _⟩ := WL
  obtain ⟨BR, dR, rfl, _, _, _⟩ := WR
  simp only [sV] at cCk cOwn cS1 cS2 ⊢
  have hB1 := (Blk.new w 29 #[.string ⟨h.1.toArray⟩, .int .i64 h.2.1, .slice AL h.2.2.1.length cL, .slice AR h.2.2.2.length cR]).alloc (.cells #[.string ⟨want.1.toArray⟩, .int .i64 want.2.1, .slice BL want.2.2.1.length dL, .slice BR want.2.2.2.length dR] 24)
  have hB2 := Blk.new1 w (.cells #[.string ⟨h.1.toArray⟩, .int .i64 h.2.1, .slice AL h.2.2.1.length cL, .slice AR h.2.2.2.length cR] 29) 24 #[.string ⟨want.1.toArray⟩, .int .i64 want.2.1, .slice BL want.2.2.1.length dL, .slice BR want.2.2.2.length dR]
  have fB1 := hB1.facts
  have fB2 := hB2.facts
  by_cases hb : bad = 0
  · have HE2 : Hid (E = P) := by unfold Hid; rw [HE.out, if_pos hb]
    rw [HE2.out] at HB
    clear HE
    by_cases hP : P = 0
    · have HB2 : Hid (R = (decide (e = 0) && q2)) := by unfold Hid; rw [HB.out, if_neg (by simp [hP])]
      subst hb
      subst hP
      clear HB
      by_cases he : e = 0
      · have HB3 : Hid (R = q2) := by unfold Hid; rw [HB2.out, decide_eq_true he, Bool.true_and]
        subst he
        go_enter Tryz.func17, Tryz.ntmps17
        go_wp2_with fail
        refine (cCk _ (by (repeat (first | exact bl_refl | assumption | (apply bl_then; assumption) | refine bl_alloc ?_ _ | refine bl_drew ?_ | refine bl_drewN ?_ _)))).mono ?_
        rintro e w2 ⟨rfl, hb2⟩
        replace hB1 := hB1.below (show Below _ _ w2 by (repeat (first | exact bl_refl | assumption | (apply bl_then; assumption) | refine bl_alloc ?_ _ | refine bl_drew ?_ | refine bl_drewN ?_ _)))
        replace fhB1 := hB1.facts
        replace hB2 := hB2.below (show Below _ _ w2 by (repeat (first | exact bl_refl | assumption | (apply bl_then; assumption) | refine bl_alloc ?_ _ | refine bl_drew ?_ | refine bl_drewN ?_ _)))
        replace fhB2 := hB2.facts
        go_upto_region 5 with fail
        refine wp_region_ords [0, 1, 2, 3, 5] [(4, false)] [6, 7, 8] (by kernel_rfl) (by kernel_rfl) (fun d _ _ _ _ h => by cases d <;> exact h) ?_
        simp only [List.map_cons, List.map_nil, List.getD_cons_zero, List.getD_cons_succ]
        repeat (go_big_quiet_step (fail))
        refine wpQuiet_nil ?_
        refine wpMid_run rfl (fun K hK => ?_)
        go_simp
        refine (cOwn _ (by (repeat (first | exact bl_refl | assumption | (apply bl_then; assumption) | refine bl_alloc ?_ _ | refine bl_drew ?_ | refine bl_drewN ?_ _)))).mono ?_
        rintro e w3 ⟨uL, uR, rfl, oL, oR, hb3⟩
        refine hK _ _ (by (repeat (first | exact bl_refl | assumption | (apply bl_then; assumption) | refine bl_alloc ?_ _ | refine bl_drew ?_ | refine bl_drewN ?_ _))) ?_
        clear hK K
        have hB1_w3 := hB1.below (show Below _ _ w3 by (repeat (first | exact bl_refl | assumption | (apply bl_then; assumption) | refine bl_alloc ?_ _ | refine bl_drew ?_ | refine bl_drewN ?_ _)))
        have fhB1_w3 := hB1_w3.facts
        have hB2_w3 := hB2.below (show Below _ _ w3 by (repeat (first | exact bl_refl | assumption | (apply bl_then; assumption) | refine bl_alloc ?_ _ | refine bl_drew ?_ | refine bl_drewN ?_ _)))
        have fhB2_w3 := hB2_w3.facts
        refine wpMid_nil ?_
        go_wp2_with (go_at_call 47; refine (cS2 _ _ _ (oL.rd ec_len) (oR.rd ec_len) (by (repeat (first | exact bl_refl | assumption | (apply bl_then; assumption) | refine bl_alloc ?_ _ | refine bl_drew ?_ | refine bl_drewN ?_ _)))).mono ?_; rintro e w4 ⟨rfl, hb4⟩)
        go_ret
        exact ⟨by rw [HB3.out]; rfl, by (repeat (first | exact bl_refl | assumption | (apply bl_then; assumption) | refine bl_alloc ?_ _ | refine bl_drew ?_ | refine bl_drewN ?_ _))⟩
      · have HB3 : Hid (R = false) := by unfold Hid; rw [HB2.out, decide_eq_false he]; rfl
        have te : (e == 0) = false := beq_false_of_ne he
        clear he
        go_enter Tryz.func17, Tryz.ntmps17
        go_wp2_with fail
        refine (cCk _ (by (repeat (first | exact bl_refl | assumption | (apply bl_then; assumption) | refine bl_alloc ?_ _ | refine bl_drew ?_ | refine bl_drewN ?_ _)))).mono ?_
        rintro e w2 ⟨rfl, hb2⟩
        replace hB1 := hB1.below (show Below _ _ w2 by (repeat (first | exact bl_refl | assumption | (apply bl_then; assumption) | refine bl_alloc ?_ _ | refine bl_drew ?_ | refine bl_drewN ?_ _)))
        replace fhB1 := hB1.facts
        replace hB2 := hB2.below (show Below _ _ w2 by (repeat (first | exact bl_refl | assumption | (apply bl_then; assumption) | refine bl_alloc ?_ _ | refine bl_drew ?_ | refine bl_drewN ?_ _)))
        replace fhB2 := hB2.facts
        go_upto_region 5 with fail
        refine wp_region_ords [0, 1, 2, 3, 5] [(4, false)] [6, 7, 8] (by kernel_rfl) (by kernel_rfl) (fun d _ _ _ _ h => by cases d <;> exact h) ?_
        simp only [List.map_cons, List.map_nil, List.getD_cons_zero, List.getD_cons_succ]
        repeat (go_big_quiet_step (fail))
        refine wpQuiet_nil ?_
        refine wpMid_skipF (by kernel_rfl) ?_
        intro K hK
        simp only [Act.put, List.setIfInBounds_toArray, List.set_cons_zero, List.set_cons_succ]
        refine hK _ ?_
        clear hK K
        refine wpMid_nil ?_
        go_wp2
        go_ret
        exact ⟨by rw [HB3.out]; rfl, by (repeat (first | exact bl_refl | assumption | (apply bl_then; assumption) | refine bl_alloc ?_ _ | refine bl_drew ?_ | refine bl_drewN ?_ _))⟩
    · have HB2 : Hid (R = (q1 && decide (e = P))) := by unfold Hid; rw [HB.out, if_pos hP]
      have tp : (P != 0) = true := by simpa using hP
      subst hb
      clear HB hP
      go_enter Tryz.func17, Tryz.ntmps17
      go_wp2_with fail
      refine (cCk _ (by (repeat (first | exact bl_refl | assumption | (apply bl_then; assumption) | refine bl_alloc ?_ _ | refine bl_drew ?_ | refine bl_drewN ?_ _)))).mono ?_
      rintro e w2 ⟨rfl, hb2⟩
      replace hB1 := hB1.below (show Below _ _ w2 by (repeat (first | exact bl_refl | assumption | (apply bl_then; assumption) | refine bl_alloc ?_ _ | refine bl_drew ?_ | refine bl_drewN ?_ _)))
      replace fhB1 := hB1.facts
      replace hB2 := hB2.below (show Below _ _ w2 by (repeat (first | exact bl_refl | assumption | (apply bl_then; assumption) | refine bl_alloc ?_ _ | refine bl_drew ?_ | refine bl_drewN ?_ _)))
      replace fhB2 := hB2.facts
      go_wp2_with fail
      refine (cOwn _ (by (repeat (first | exact bl_refl | assumption | (apply bl_then; assumption) | refine bl_alloc ?_ _ | refine bl_drew ?_ | refine bl_drewN ?_ _)))).mono ?_
      rintro e w3 ⟨uL, uR, rfl, oL, oR, hb3⟩
      replace hB1 := hB1.below (show Below _ _ w3 by (repeat (first | exact bl_refl | assumption | (apply bl_then; assumption) | refine bl_alloc ?_ _ | refine bl_drew ?_ | refine bl_drewN ?_ _)))
      replace fhB1 := hB1.facts
      replace hB2 := hB2.below (show Below _ _ w3 by (repeat (first | exact bl_refl | assumption | (apply bl_then; assumption) | refine bl_alloc ?_ _ | refine bl_drew ?_ | refine bl_drewN ?_ _)))
      replace fhB2 := hB2.facts
      go_wp2_with fail
      refine (cS1 _ _ _ (oL.rd ec_len) (oR.rd ec_len)).mono ?_
      rintro e w4 ⟨rfl, hb4⟩
      cases q1
      · go_wp2
        go_ret
        exact ⟨by rw [HB2.out]; rfl, by (repeat (first | exact bl_refl | assumption | (apply bl_then; assumption) | refine bl_alloc ?_ _ | refine bl_drew ?_ | refine bl_drewN ?_ _))⟩
      · by_cases he : e = P
        · have HB3 : Hid (R = true) := by unfold Hid; rw [HB2.out, decide_eq_true he]; rfl
          subst he
          go_wp2
          go_ret
          exact ⟨by rw [HB3.out]; rfl, by (repeat (first | exact bl_refl | assumption | (apply bl_then; assumption) | refine bl_alloc ?_ _ | refine bl_drew ?_ | refine bl_drewN ?_ _))⟩
        · have HB3 : Hid (R = false) := by unfold Hid; rw [HB2.out, decide_eq_false he]; rfl
          have te : (e == P) = false := beq_false_of_ne he
          clear he
          go_wp2
          go_ret
          exact ⟨by rw [HB3.out]; rfl, by (repeat (first | exact bl_refl | assumption | (apply bl_then; assumption) | refine bl_alloc ?_ _ | refine bl_drew ?_ | refine bl_drewN ?_ _))⟩
  · have HE2 : Hid (E = bad) := by unfold Hid; rw [HE.out, if_neg hb]
    rw [HE2.out] at HB
    have HB2 : Hid (R = (q1 && decide (e = bad))) := by unfold Hid; rw [HB.out, if_pos hb]
    have tb : (bad == 0) = false := beq_false_of_ne hb
    have tb2 : (bad != 0) = true := by simpa using hb
    clear HE HB hb
    go_enter Tryz.func17, Tryz.ntmps17
    go_wp2_with fail
    refine (cOwn _ (by (repeat (first | exact bl_refl | assumption | (apply bl_then; assumption) | refine bl_alloc ?_ _ | refine bl_drew ?_ | refine bl_drewN ?_ _)))).mono ?_
    rintro e w3 ⟨uL, uR, rfl, oL, oR, hb3⟩
    replace hB1 := hB1.below (show Below _ _ w3 by (repeat (first | exact bl_refl | assumption | (apply bl_then; assumption) | refine bl_alloc ?_ _ | refine bl_drew ?_ | refine bl_drewN ?_ _)))
    replace fhB1 := hB1.facts
    replace hB2 := hB2.below (show Below _ _ w3 by (repeat (first | exact bl_refl | assumption | (apply bl_then; assumption) | refine bl_alloc ?_ _ | refine bl_drew ?_ | refine bl_drewN ?_ _)))
    replace fhB2 := hB2.facts
    go_wp2_with fail
    refine (cS1 _ _ _ (oL.rd ec_len) (oR.rd ec_len)).mono ?_
    rintro e w4 ⟨rfl, hb4⟩
    cases q1
    · go_wp2
      go_ret
      exact ⟨by rw [HB2.out]; rfl, by (repeat (first | exact bl_refl | assumption | (apply bl_then; assumption) | refine bl_alloc ?_ _ | refine bl_drew ?_ | refine bl_drewN ?_ _))⟩
    · by_cases he : e = bad
      · have HB3 : Hid (R = true) := by unfold Hid; rw [HB2.out, decide_eq_true he]; rfl
        subst he
        go_wp2
        go_ret
        exact ⟨by rw [HB3.out]; rfl, by (repeat (first | exact bl_refl | assumption | (apply bl_then; assumption) | refine bl_alloc ?_ _ | refine bl_drew ?_ | refine bl_drewN ?_ _))⟩
      · have HB3 : Hid (R = false) := by unfold Hid; rw [HB2.out, decide_eq_false he]; rfl
        have te : (e == bad) = false := beq_false_of_ne he
        clear he
        go_wp2
        go_ret
        exact ⟨by rw [HB3.out]; rfl, by (repeat (first | exact bl_refl | assumption | (apply bl_then; assumption) | refine bl_alloc ?_ _ | refine bl_drew ?_ | refine bl_drewN ?_ _))⟩
/-! ## the reference's Stack -/
end Go.Proofs.YthkjgcldolnjaaaGreatDoor

/- Same of the program and of the reference, walked. Conditions: none. -/
namespace Go.Proofs.YthkjgcldolnjaaaGreatDoor
open Go.RowKit Go.ChangeMaps
set_option maxHeartbeats 4000000
set_option maxRecDepth 100000

attribute [local go_sem] Oper.semAt_some
/-! # Same -/
theorem eqneK_any {v u : Value} (l r : List Knot) (w : World) (h : SlK w v l) (h' : SlK w u r) : Calls Tryz.prog 63 #[v, u] w (RV w (.bool (decide (l = r)))) := by
  obtain ⟨A, c, rfl, hlc, hcm, h⟩ := h
  obtain ⟨A', c', rfl, hlc', hcm', h'⟩ := h'
  have hl : l.length ≤ maxLen := Nat.le_trans hlc hcm
  have hl' : r.length ≤ maxLen := Nat.le_trans hlc' hcm'
  unfold maxLen at hl hl'
  by_cases hlen : l.length = r.length
  · have he2 : ((l.length : Int) != (r.length : Int)) = false := by simp [hlen]
    go_enter Tryz.func63, Tryz.ntmps63
    go_wp2
    go_loopw [13, 5] (fun i j wr => ∃ k : Nat, k ≤ l.length ∧ i = .int .i64 k ∧ Hid (decide (l = r) = decide (l.drop k = r.drop k)) ∧ Below w.heap.size w wr) (fun i _ _ => l.length - (intOf i).toNat)
    case atStart => exact ⟨0, Nat.zero_le _, rfl, by simp [Hid], by (repeat (first | exact bl_refl | assumption | (apply bl_then; assumption) | refine bl_alloc ?_ _ | refine bl_drew ?_ | refine bl_drewN ?_ _))⟩
    case round =>
      obtain ⟨k, hk, rfl, H, hbw⟩ := hrel
      by_cases hlt : k < l.length
      · have hr := h.below hbw
        have hr' := h'.below hbw
        obtain ⟨b, off, rfl, hb, e0, e1⟩ := hr.knot hlt
        obtain ⟨b', off', rfl, hb', e0', e1'⟩ := hr'.knot (hlen ▸ hlt)
        have HD := Lib.hid (same_drop hlen hlt)
        have hlt' : k < r.length := hlen ▸ hlt
        obtain ⟨g, hg⟩ : ∃ g, beqK l[k].1 l[k].2 r[k].1 r[k].2 = g := ⟨_, rfl⟩
        have hg' : decide (l[k] = r[k]) = g := hg
        cases g
        · go_wp2
          refine wp_region_ords [0, 1, 2, 3, 4, 5, 6, 7, 8] [] [] (by kernel_rfl) (by kernel_rfl) (fun d _ _ _ _ h => by cases d <;> exact h) ?_
          simp only [List.map_cons, List.map_nil, List.getD_cons_zero, List.getD_cons_succ]
          repeat (go_big_quiet_step (fail))
          refine wpQuiet_nil ?_
          refine wpMid_nil ?_
          go_wp2
          go_ret
          exact ⟨ret_bool (by rw [H.out, HD.out, hg']; rfl), by (repeat (first | exact bl_refl | assumption | (apply bl_then; assumption) | refine bl_alloc ?_ _ | refine bl_drew ?_ | refine bl_drewN ?_ _))⟩
        · go_wp2
          refine wp_region_ords [0, 1, 2, 3, 4, 5, 6, 7, 8] [] [] (by kernel_rfl) (by kernel_rfl) (fun d _ _ _ _ h => by cases d <;> exact h) ?_
          simp only [List.map_cons, List.map_nil, List.getD_cons_zero, List.getD_cons_succ]
          repeat (go_big_quiet_step (fail))
          refine wpQuiet_nil ?_
          refine wpMid_nil ?_
          go_wp2
          go_roundw
          case rel => exact ⟨k + 1, by omega, by go_num, by rw [H.out, HD.out, hg']; rfl, by (repeat (first | exact bl_refl | assumption | (apply bl_then; assumption) | refine bl_alloc ?_ _ | refine bl_drew ?_ | refine bl_drewN ?_ _))⟩
          case measure => simp [intOf]; omega
      · have hkl : k = l.length := by omega
        go_wp2
        go_ret
        refine ⟨ret_bool ?_, by (repeat (first | exact bl_refl | assumption | (apply bl_then; assumption) | refine bl_alloc ?_ _ | refine bl_drew ?_ | refine bl_drewN ?_ _))⟩
        rw [H.out, hkl, List.drop_length, hlen, List.drop_length]; rfl
  · have he2 : ((l.length : Int) != (r.length : Int)) = true := by simp; omega
    have hd : Hid (decide (l = r) = false) := by simp [Hid]; rintro rfl; exact hlen rfl
    go_enter Tryz.func63, Tryz.ntmps63
    go_wp2
    go_ret
    exact ⟨ret_bool hd.out.symm, by (repeat (first | exact bl_refl | assumption | (apply bl_then; assumption) | refine bl_alloc ?_ _ | refine bl_drew ?_ | refine bl_drewN ?_ _))⟩
/-- whether two panels have the same outlines -/
def samQ (p o : Pan) : Bool := decide (outP p false = outP o false) && decide (outP p true = outP o true)
theorem rsame_any {vL vR uL uR : Value} (p o : Pan) (w : World) (hL : SlE w vL p.2.2.1) (hR : SlE w vR p.2.2.2) (kL : SlE w uL o.2.2.1) (kR : SlE w uR o.2.2.2) (hok : PanOk p) (hoq : PanOk o) :
    Calls Tryz.prog 21 #[.agg #[sV p.1, .int .i64 p.2.1, vL, vR], .agg #[sV o.1, .int .i64 o.2.1, uL, uR]] w (RV w (.bool (samQ p o))) := by
  have hwp : 0 ≤ p.2.1 ∧ p.2.1 ≤ 128 := ⟨by have := hok.wid.1; omega, hok.wid.2⟩
  have hwo : 0 ≤ o.2.1 ∧ o.2.1 ≤ 128 := ⟨by have := hoq.wid.1; omega, hoq.wid.2⟩
  have oa := fun W (hb : Below w.heap.size w W) => routline_any p false W (hL.below hb) (hR.below hb) hok.left hok.right hwp
  have ob := fun W (hb : Below w.heap.size w W) => routline_any o false W (kL.below hb) (kR.below hb) hoq.left hoq.right hwo
  have oc := fun W (hb : Below w.heap.size w W) => routline_any p true W (hL.below hb) (hR.below hb) hok.left hok.right hwp
  have od := fun W (hb : Below w.heap.size w W) => routline_any o true W (kL.below hb) (kR.below hb) hoq.left hoq.right hwo
  have HS : Hid (samQ p o = (decide (outP p false = outP o false) && decide (outP p true = outP o true))) := rfl
  have eq1 := fun a b W h1 h2 => sameKnots_any (v := a) (u := b) (outP p false) (outP o false) W h1 h2
  have eq2 := fun a b W h1 h2 => sameKnots_any (v := a) (u := b) (outP p true) (outP o true) W h1 h2
  obtain ⟨n1, hn1⟩ : ∃ b, decide (outP p false = outP o false) = b := ⟨_, rfl⟩
  obtain ⟨n2, hn2⟩ : ∃ b, decide (outP p true = outP o true) = b := ⟨_, rfl⟩
  rw [hn1] at eq1 HS
  rw [hn2] at eq2 HS
  obtain ⟨AL, cL, rfl, _, _, _⟩ := hL
  obtain ⟨AR, cR, rfl, _, _, _⟩ := hR
  obtain ⟨BL, dL, rfl, _, _, _⟩ := kL
  obtain ⟨BR, dR, rfl, _, _, _⟩ := kR
  simp only [sV] at oa ob oc od ⊢
  have hP := (Blk.new w 24 #[.string ⟨p.1.toArray⟩, .int .i64 p.2.1, .slice AL p.2.2.1.length cL, .slice AR p.2.2.2.length cR]).alloc (.cells #[.string ⟨o.1.toArray⟩, .int .i64 o.2.1, .slice BL o.2.2.1.length dL, .slice BR o.2.2.2.length dR] 24)
  have hQ := Blk.new1 w (.cells #[.string ⟨p.1.toArray⟩, .int .i64 p.2.1, .slice AL p.2.2.1.length cL, .slice AR p.2.2.2.length cR] 24) 24 #[.string ⟨o.1.toArray⟩, .int .i64 o.2.1, .slice BL o.2.2.1.length dL, .slice BR o.2.2.2.length dR]
  clear hn1 hn2 hok hoq hwp hwo
  go_enter Tryz.func21, Tryz.ntmps21
  go_upto_region 1 with fail
  obtain ⟨w1, hw1⟩ : ∃ X, (w.alloc (.cells #[.string ⟨p.1.toArray⟩, .int .i64 p.2.1, .slice AL p.2.2.1.length cL, .slice AR p.2.2.2.length cR] 24)).alloc (.cells #[.string ⟨o.1.toArray⟩, .int .i64 o.2.1, .slice BL o.2.2.1.length dL, .slice BR o.2.2.2.length dR] 24) = X := ⟨_, rfl⟩
  have hbw1 : Below w.heap.size w w1 := by rw [← hw1]; exact bl_alloc (bl_alloc bl_refl _) _
  rw [hw1] at hP hQ ⊢
  clear hw1
  have fhP := hP.facts
  have fhQ := hQ.facts

  cases n1
  · have HF : Hid (samQ p o = false) := by unfold Hid; rw [HS.out]; rfl
    clear HS
    refine wp_region_ords [0, 2] [(1, false), (3, false), (4, false), (5, false), (6, true), (8, true), (7, false)] [9, 10, 11, 12] (by kernel_rfl) (by kernel_rfl) (fun d _ _ _ _ h => by cases d <;> exact h) ?_
    simp only [List.map_cons, List.map_nil, List.getD_cons_zero, List.getD_cons_succ]
    repeat (go_big_quiet_step (fail))
    refine wpQuiet_nil ?_
    refine wpMid_run rfl (fun K hK => ?_)
    go_simp
    refine (oa _ (by (repeat (first | exact bl_refl | assumption | (apply bl_then; assumption) | refine bl_alloc ?_ _ | refine bl_drew ?_ | refine bl_drewN ?_ _)))).mono ?_
    rintro e w2 ⟨v2, rfl, hO2, hb2⟩
    refine hK _ _ (by (repeat (first | exact bl_refl | assumption | (apply bl_then; assumption) | refine bl_alloc ?_ _ | refine bl_drew ?_ | refine bl_drewN ?_ _))) ?_
    clear hK K
    have hP_w2 := hP.below (show Below _ _ w2 by (repeat (first | exact bl_refl | assumption | (apply bl_then; assumption) | refine bl_alloc ?_ _ | refine bl_drew ?_ | refine bl_drewN ?_ _)))
    have fhP_w2 := hP_w2.facts
    have hQ_w2 := hQ.below (show Below _ _ w2 by (repeat (first | exact bl_refl | assumption | (apply bl_then; assumption) | refine bl_alloc ?_ _ | refine bl_drew ?_ | refine bl_drewN ?_ _)))
    have fhQ_w2 := hQ_w2.facts
    refine wpMid_run rfl (fun K hK => ?_)
    go_simp
    refine (ob _ (by (repeat (first | exact bl_refl | assumption | (apply bl_then; assumption) | refine bl_alloc ?_ _ | refine bl_drew ?_ | refine bl_drewN ?_ _)))).mono ?_
    rintro e w3 ⟨v3, rfl, hO3, hb3⟩
    refine hK _ _ (by (repeat (first | exact bl_refl | assumption | (apply bl_then; assumption) | refine bl_alloc ?_ _ | refine bl_drew ?_ | refine bl_drewN ?_ _))) ?_
    clear hK K
    have hP_w3 := hP.below (show Below _ _ w3 by (repeat (first | exact bl_refl | assumption | (apply bl_then; assumption) | refine bl_alloc ?_ _ | refine bl_drew ?_ | refine bl_drewN ?_ _)))
    have fhP_w3 := hP_w3.facts
    have hQ_w3 := hQ.below (show Below _ _ w3 by (repeat (first | exact bl_refl | assumption | (apply bl_then; assumption) | refine bl_alloc ?_ _ | refine bl_drew ?_ | refine bl_drewN ?_ _)))
    have fhQ_w3 := hQ_w3.facts
    refine wpMid_run rfl (fun K hK => ?_)
    go_simp
    refine (eq1 _ _ _ ((hO2.rd kc_len).below (by (repeat (first | exact bl_refl | assumption | (apply bl_then; assumption) | refine bl_alloc ?_ _ | refine bl_drew ?_ | refine bl_drewN ?_ _)))) (hO3.rd kc_len)).mono ?_
    rintro e w4 ⟨rfl, hb4⟩
    refine hK _ _ (by (repeat (first | exact bl_refl | assumption | (apply bl_then; assumption) | refine bl_alloc ?_ _ | refine bl_drew ?_ | refine bl_drewN ?_ _))) ?_
    clear hK K
    have hP_w4 := hP.below (show Below _ _ w4 by (repeat (first | exact bl_refl | assumption | (apply bl_then; assumption) | refine bl_alloc ?_ _ | refine bl_drew ?_ | refine bl_drewN ?_ _)))
    have fhP_w4 := hP_w4.facts
    have hQ_w4 := hQ.below (show Below _ _ w4 by (repeat (first | exact bl_refl | assumption | (apply bl_then; assumption) | refine bl_alloc ?_ _ | refine bl_drew ?_ | refine bl_drewN ?_ _)))
    have fhQ_w4 := hQ_w4.facts
    refine wpMid_run rfl (fun K hK => ?_)
    go_simp
    refine hK _ _ (by (repeat (first | exact bl_refl | assumption | (apply bl_then; assumption) | refine bl_alloc ?_ _ | refine bl_drew ?_ | refine bl_drewN ?_ _))) ?_
    clear hK K
    refine wpMid_skipT (by kernel_rfl) ?_
    intro K hK
    simp only [Act.put, List.setIfInBounds_toArray, List.set_cons_zero, List.set_cons_succ]
    refine hK _ ?_
    clear hK K
    refine wpMid_skipT (by kernel_rfl) ?_
    intro K hK
    simp only [Act.put, List.setIfInBounds_toArray, List.set_cons_zero, List.set_cons_succ]
    refine hK _ ?_
    clear hK K
    refine wpMid_skipF (by kernel_rfl) ?_
    intro K hK
    simp only [Act.put, List.setIfInBounds_toArray, List.set_cons_zero, List.set_cons_succ]
    refine hK _ ?_
    clear hK K
    refine wpMid_nil ?_
    go_wp2
    go_ret
    exact ⟨ret_bool HF.out.symm, bl_then (show Below w1.heap.size w1 w4 by (repeat (first | exact bl_refl | assumption | (apply bl_then; assumption) | refine bl_alloc ?_ _ | refine bl_drew ?_ | refine bl_drewN ?_ _))) hbw1⟩
  · have HF : Hid (samQ p o = n2) := by unfold Hid; rw [HS.out]; simp
    clear HS
    refine wp_region_ords [0, 2] [(1, false), (3, false), (4, false), (5, false), (6, true), (8, true), (7, false)] [9, 10, 11, 12] (by kernel_rfl) (by kernel_rfl) (fun d _ _ _ _ h => by cases d <;> exact h) ?_
    simp only [List.map_cons, List.map_nil, List.getD_cons_zero, List.getD_cons_succ]
    repeat (go_big_quiet_step (fail))
    refine wpQuiet_nil ?_
    refine wpMid_run rfl (fun K hK => ?_)
    go_simp
    refine (oa _ (by (repeat (first | exact bl_refl | assumption | (apply bl_then; assumption) | refine bl_alloc ?_ _ | refine bl_drew ?_ | refine bl_drewN ?_ _)))).mono ?_
    rintro e w2 ⟨v2, rfl, hO2, hb2⟩
    refine hK _ _ (by (repeat (first | exact bl_refl | assumption | (apply bl_then; assumption) | refine bl_alloc ?_ _ | refine bl_drew ?_ | refine bl_drewN ?_ _))) ?_
    clear hK K
    have hP_w2 := hP.below (show Below _ _ w2 by (repeat (first | exact bl_refl | assumption | (apply bl_then; assumption) | refine bl_alloc ?_ _ | refine bl_drew ?_ | refine bl_drewN ?_ _)))
    have fhP_w2 := hP_w2.facts
    have hQ_w2 := hQ.below (show Below _ _ w2 by (repeat (first | exact bl_refl | assumption | (apply bl_then; assumption) | refine bl_alloc ?_ _ | refine bl_drew ?_ | refine bl_drewN ?_ _)))
    have fhQ_w2 := hQ_w2.facts
    refine wpMid_run rfl (fun K hK => ?_)
    go_simp
    refine (ob _ (by (repeat (first | exact bl_refl | assumption | (apply bl_then; assumption) | refine bl_alloc ?_ _ | refine bl_drew ?_ | refine bl_drewN ?_ _)))).mono ?_
    rintro e w3 ⟨v3, rfl, hO3, hb3⟩
    refine hK _ _ (by (repeat (first | exact bl_refl | assumption | (apply bl_then; assumption) | refine bl_alloc ?_ _ | refine bl_drew ?_ | refine bl_drewN ?_ _))) ?_
    clear hK K
    have hP_w3 := hP.below (show Below _ _ w3 by (repeat (first | exact bl_refl | assumption | (apply bl_then; assumption) | refine bl_alloc ?_ _ | refine bl_drew ?_ | refine bl_drewN ?_ _)))
    have fhP_w3 := hP_w3.facts
    have hQ_w3 := hQ.below (show Below _ _ w3 by (repeat (first | exact bl_refl | assumption | (apply bl_then; assumption) | refine bl_alloc ?_ _ | refine bl_drew ?_ | refine bl_drewN ?_ _)))
    have fhQ_w3 := hQ_w3.facts
    refine wpMid_run rfl (fun K hK => ?_)
    go_simp
    refine (eq1 _ _ _ ((hO2.rd kc_len).below (by (repeat (first | exact bl_refl | assumption | (apply bl_then; assumption) | refine bl_alloc ?_ _ | refine bl_drew ?_ | refine bl_drewN ?_ _)))) (hO3.rd kc_len)).mono ?_
    rintro e w4 ⟨rfl, hb4⟩
    refine hK _ _ (by (repeat (first | exact bl_refl | assumption | (apply bl_then; assumption) | refine bl_alloc ?_ _ | refine bl_drew ?_ | refine bl_drewN ?_ _))) ?_
    clear hK K
    have hP_w4 := hP.below (show Below _ _ w4 by (repeat (first | exact bl_refl | assumption | (apply bl_then; assumption) | refine bl_alloc ?_ _ | refine bl_drew ?_ | refine bl_drewN ?_ _)))
    have fhP_w4 := hP_w4.facts
    have hQ_w4 := hQ.below (show Below _ _ w4 by (repeat (first | exact bl_refl | assumption | (apply bl_then; assumption) | refine bl_alloc ?_ _ | refine bl_drew ?_ | refine bl_drewN ?_ _)))
    have fhQ_w4 := hQ_w4.facts
    refine wpMid_run rfl (fun K hK => ?_)
    go_simp
    refine hK _ _ (by (repeat (first | exact bl_refl | assumption | (apply bl_then; assumption) | refine bl_alloc ?_ _ | refine bl_drew ?_ | refine bl_drewN ?_ _))) ?_
    clear hK K
    refine wpMid_take rfl ?_
    intro K hK
    go_big_quiet_op
    go_big_quiet_on
    refine wpMid_take rfl ?_
    intro K hK
    go_big_quiet_op
    go_big_quiet_on
    refine wpMid_run rfl (fun K hK => ?_)
    go_simp
    refine (oc _ (by (repeat (first | exact bl_refl | assumption | (apply bl_then; assumption) | refine bl_alloc ?_ _ | refine bl_drew ?_ | refine bl_drewN ?_ _)))).mono ?_
    rintro e w5 ⟨v5, rfl, hO5, hb5⟩
    refine hK _ _ (by (repeat (first | exact bl_refl | assumption | (apply bl_then; assumption) | refine bl_alloc ?_ _ | refine bl_drew ?_ | refine bl_drewN ?_ _))) ?_
    clear hK K
    have hP_w5 := hP.below (show Below _ _ w5 by (repeat (first | exact bl_refl | assumption | (apply bl_then; assumption) | refine bl_alloc ?_ _ | refine bl_drew ?_ | refine bl_drewN ?_ _)))
    have fhP_w5 := hP_w5.facts
    have hQ_w5 := hQ.below (show Below _ _ w5 by (repeat (first | exact bl_refl | assumption | (apply bl_then; assumption) | refine bl_alloc ?_ _ | refine bl_drew ?_ | refine bl_drewN ?_ _)))
    have fhQ_w5 := hQ_w5.facts
    refine wpMid_nil ?_
    go_wp2_with fail
    refine (od _ (bl_then (show Below w1.heap.size w1 w5 by (repeat (first | exact bl_refl | assumption | (apply bl_then; assumption) | refine bl_alloc ?_ _ | refine bl_drew ?_ | refine bl_drewN ?_ _))) hbw1)).mono ?_
    rintro e w6 ⟨v6, rfl, hO6, hb6⟩
    go_wp2_with fail
    refine (eq2 _ _ _ ((hO5.rd kc_len).below (by (repeat (first | exact bl_refl | assumption | (apply bl_then; assumption) | refine bl_alloc ?_ _ | refine bl_drew ?_ | refine bl_drewN ?_ _)))) (hO6.rd kc_len)).mono ?_
    rintro e w7 ⟨rfl, hb7⟩
    go_wp2
    go_ret
    exact ⟨ret_bool HF.out.symm, bl_then (show Below w1.heap.size w1 w7 by (repeat (first | exact bl_refl | assumption | (apply bl_then; assumption) | refine bl_alloc ?_ _ | refine bl_drew ?_ | refine bl_drewN ?_ _))) hbw1⟩
theorem apiSame_any {vL vR uL uR : Value} (p o : Pan) (w : World) (hna : p.1.length ≤ 1000000) (hnb : o.1.length ≤ 1000000) (hL : SlE w vL p.2.2.1) (hR : SlE w vR p.2.2.2) (kL : SlE w uL o.2.2.1) (kR : SlE w uR o.2.2.2) :
    Calls Tryz.prog 15 #[.agg #[sV p.1, .int .i64 p.2.1, vL, vR], .agg #[sV o.1, .int .i64 o.2.1, uL, uR]] w (RV w (.tuple #[.bool (decide (twoP p o = 0) && samQ p o), .int .i64 (twoP p o)])) := by
  have hc := fun W (hb : Below w.heap.size w W) => checkPanel_any p W hna (hL.below hb) (hR.below hb)
  have hd := fun W (hb : Below w.heap.size w W) => checkPanel_any o W hnb (kL.below hb) (kR.below hb)
  have hf2 : ∀ A c' W, Rd ic 1 W A [panE p, panE o] → Calls Tryz.prog 62 #[.slice A 2 c'] W (RV W (.int .i64 (twoP p o))) := fun A c' W hr => pfirst_any [panE p, panE o] A c' W (by simp [maxLen]) hr
  by_cases hE : twoP p o = 0
  · obtain ⟨hz1, hz2⟩ := twoP_zero hE
    have hok := panE_zero hz1
    have hoq := panE_zero hz2
    have oa := fun W (hb : Below w.heap.size w W) => outline_any p false W (hL.below hb) (hR.below hb) ⟨by have := hok.wid.1; omega, by have := hok.wid.2; omega⟩ (hok.side false)
    have ob := fun W (hb : Below w.heap.size w W) => outline_any o false W (kL.below hb) (kR.below hb) ⟨by have := hoq.wid.1; omega, by have := hoq.wid.2; omega⟩ (hoq.side false)
    have oc := fun W (hb : Below w.heap.size w W) => outline_any p true W (hL.below hb) (hR.below hb) ⟨by have := hok.wid.1; omega, by have := hok.wid.2; omega⟩ (hok.side true)
    have od := fun W (hb : Below w.heap.size w W) => outline_any o true W (kL.below hb) (kR.below hb) ⟨by have := hoq.wid.1; omega, by have := hoq.wid.2; omega⟩ (hoq.side true)
    have HS : Hid (samQ p o = (decide (outP p false = outP o false) && decide (outP p true = outP o true))) := rfl
    have eq1 := fun a b W h1 h2 => eqneK_any (v := a) (u := b) (outP p false) (outP o false) W h1 h2
    have eq2 := fun a b W h1 h2 => eqneK_any (v := a) (u := b) (outP p true) (outP o true) W h1 h2
    obtain ⟨n1, hn1⟩ : ∃ b, decide (outP p false = outP o false) = b := ⟨_, rfl⟩
    obtain ⟨n2, hn2⟩ : ∃ b, decide (outP p true = outP o true) = b := ⟨_, rfl⟩
    rw [hn1] at eq1 HS
    rw [hn2] at eq2 HS
    have HB : Hid ((decide (twoP p o = 0) && samQ p o) = samQ p o) := by unfold Hid; rw [hE]; simp
    rw [HB.out]
    rw [hE] at hf2 ⊢
    obtain ⟨E1, hE1⟩ : ∃ E, panE p = E := ⟨_, rfl⟩
    rw [hE1] at hc hf2
    obtain ⟨E2, hE2⟩ : ∃ E, panE o = E := ⟨_, rfl⟩
    rw [hE2] at hd hf2
    obtain ⟨AL, cL, rfl, _, _, _⟩ := hL
    obtain ⟨AR, cR, rfl, _, _, _⟩ := hR
    obtain ⟨BL, dL, rfl, _, _, _⟩ := kL
    obtain ⟨BR, dR, rfl, _, _, _⟩ := kR
    simp only [sV] at oa ob oc od hc hd ⊢
    have hP := (Blk.new w 29 #[.string ⟨p.1.toArray⟩, .int .i64 p.2.1, .slice AL p.2.2.1.length cL, .slice AR p.2.2.2.length cR]).alloc (.cells #[.string ⟨o.1.toArray⟩, .int .i64 o.2.1, .slice BL o.2.2.1.length dL, .slice BR o.2.2.2.length dR] 29)
    have hQ := Blk.new1 w (.cells #[.string ⟨p.1.toArray⟩, .int .i64 p.2.1, .slice AL p.2.2.1.length cL, .slice AR p.2.2.2.length cR] 29) 29 #[.string ⟨o.1.toArray⟩, .int .i64 o.2.1, .slice BL o.2.2.1.length dL, .slice BR o.2.2.2.length dR]
    clear hn1 hn2 hok hoq hE hE1 hE2 hz1 hz2 HB hna hnb
    go_enter Tryz.func15, Tryz.ntmps15
    go_upto_region 1 with fail
    obtain ⟨w0, hw0⟩ : ∃ X, (w.alloc (.cells #[.string ⟨p.1.toArray⟩, .int .i64 p.2.1, .slice AL p.2.2.1.length cL, .slice AR p.2.2.2.length cR] 29)).alloc (.cells #[.string ⟨o.1.toArray⟩, .int .i64 o.2.1, .slice BL o.2.2.1.length dL, .slice BR o.2.2.2.length dR] 29) = X := ⟨_, rfl⟩
    have hbw0 : Below w.heap.size w w0 := by rw [← hw0]; exact bl_alloc (bl_alloc bl_refl _) _
    rw [hw0] at hP hQ ⊢
    clear hw0
    have fhP := hP.facts
    have fhQ := hQ.facts
    refine wp_region_ords [0, 2] [(1, false)] [3, 4, 5, 6] (by kernel_rfl) (by kernel_rfl) (fun d _ _ _ _ h => by cases d <;> exact h) ?_
    simp only [List.map_cons, List.map_nil, List.getD_cons_zero, List.getD_cons_succ]
    repeat (go_big_quiet_step (fail))
    refine wpQuiet_nil ?_
    refine wpMid_run rfl (fun K hK => ?_)
    go_simp
    refine (hc _ (by (repeat (first | exact bl_refl | assumption | (apply bl_then; assumption) | refine bl_alloc ?_ _ | refine bl_drew ?_ | refine bl_drewN ?_ _)))).mono ?_
    rintro e w2 ⟨rfl, hb2⟩
    refine hK _ _ (by (repeat (first | exact bl_refl | assumption | (apply bl_then; assumption) | refine bl_alloc ?_ _ | refine bl_drew ?_ | refine bl_drewN ?_ _))) ?_
    clear hK K
    have hP_w2 := hP.below (show Below _ _ w2 by (repeat (first | exact bl_refl | assumption | (apply bl_then; assumption) | refine bl_alloc ?_ _ | refine bl_drew ?_ | refine bl_drewN ?_ _)))
    have fhP_w2 := hP_w2.facts
    have hQ_w2 := hQ.below (show Below _ _ w2 by (repeat (first | exact bl_refl | assumption | (apply bl_then; assumption) | refine bl_alloc ?_ _ | refine bl_drew ?_ | refine bl_drewN ?_ _)))
    have fhQ_w2 := hQ_w2.facts
    refine wpMid_nil ?_
    go_wp2_with (go_at_call 56; refine (hd _ (by (repeat (first | exact bl_refl | assumption | (apply bl_then; assumption) | refine bl_alloc ?_ _ | refine bl_drew ?_ | refine bl_drewN ?_ _)))).mono ?_; rintro e w3 ⟨rfl, hb3⟩)
    go_must (refine (hf2 _ _ _ (Rd.ints2 (by simp) (by go_simp) (by go_simp))).mono ?_)
    rintro e w1 ⟨rfl, hb4⟩
    have hb14 : Below w0.heap.size w0 w1 := by (repeat (first | exact bl_refl | assumption | (apply bl_then; assumption) | refine bl_alloc ?_ _ | refine bl_drew ?_ | refine bl_drewN ?_ _))
    replace hP := hP.below hb14
    replace hQ := hQ.below hb14
    have hbw1 : Below w.heap.size w w1 := bl_then hb14 hbw0
    replace fhP := hP.facts
    replace fhQ := hQ.facts
    clear hc hd hf2 hb14 hb2 hb3 hb4 hbw0 hP_w2 hQ_w2 fhP_w2 fhQ_w2
    go_upto_region 4 with fail

    cases n1
    · have HF : Hid (samQ p o = false) := by unfold Hid; rw [HS.out]; rfl
      clear HS
      refine wp_region_ords [0, 2] [(1, false), (3, false), (4, false), (5, false), (6, true), (8, true), (7, false)] [9, 10, 11, 12, 13] (by kernel_rfl) (by kernel_rfl) (fun d _ _ _ _ h => by cases d <;> exact h) ?_
      simp only [List.map_cons, List.map_nil, List.getD_cons_zero, List.getD_cons_succ]
      repeat (go_big_quiet_step (fail))
      refine wpQuiet_nil ?_
      refine wpMid_run rfl (fun K hK => ?_)
      go_simp
      refine (oa _ (by (repeat (first | exact bl_refl | assumption | (apply bl_then; assumption) | refine bl_alloc ?_ _ | refine bl_drew ?_ | refine bl_drewN ?_ _)))).mono ?_
      rintro e w2 ⟨v2, rfl, hO2, hb2⟩
      refine hK _ _ (by (repeat (first | exact bl_refl | assumption | (apply bl_then; assumption) | refine bl_alloc ?_ _ | refine bl_drew ?_ | refine bl_drewN ?_ _))) ?_
      clear hK K
      have hP_w2 := hP.below (show Below _ _ w2 by (repeat (first | exact bl_refl | assumption | (apply bl_then; assumption) | refine bl_alloc ?_ _ | refine bl_drew ?_ | refine bl_drewN ?_ _)))
      have fhP_w2 := hP_w2.facts
      have hQ_w2 := hQ.below (show Below _ _ w2 by (repeat (first | exact bl_refl | assumption | (apply bl_then; assumption) | refine bl_alloc ?_ _ | refine bl_drew ?_ | refine bl_drewN ?_ _)))
      have fhQ_w2 := hQ_w2.facts
      refine wpMid_run rfl (fun K hK => ?_)
      go_simp
      refine (ob _ (by (repeat (first | exact bl_refl | assumption | (apply bl_then; assumption) | refine bl_alloc ?_ _ | refine bl_drew ?_ | refine bl_drewN ?_ _)))).mono ?_
      rintro e w3 ⟨v3, rfl, hO3, hb3⟩
      refine hK _ _ (by (repeat (first | exact bl_refl | assumption | (apply bl_then; assumption) | refine bl_alloc ?_ _ | refine bl_drew ?_ | refine bl_drewN ?_ _))) ?_
      clear hK K
      have hP_w3 := hP.below (show Below _ _ w3 by (repeat (first | exact bl_refl | assumption | (apply bl_then; assumption) | refine bl_alloc ?_ _ | refine bl_drew ?_ | refine bl_drewN ?_ _)))
      have fhP_w3 := hP_w3.facts
      have hQ_w3 := hQ.below (show Below _ _ w3 by (repeat (first | exact bl_refl | assumption | (apply bl_then; assumption) | refine bl_alloc ?_ _ | refine bl_drew ?_ | refine bl_drewN ?_ _)))
      have fhQ_w3 := hQ_w3.facts
      refine wpMid_run rfl (fun K hK => ?_)
      go_simp
      refine (eq1 _ _ _ ((hO2.rd kc_len).below (by (repeat (first | exact bl_refl | assumption | (apply bl_then; assumption) | refine bl_alloc ?_ _ | refine bl_drew ?_ | refine bl_drewN ?_ _)))) (hO3.rd kc_len)).mono ?_
      rintro e w4 ⟨rfl, hb4⟩
      refine hK _ _ (by (repeat (first | exact bl_refl | assumption | (apply bl_then; assumption) | refine bl_alloc ?_ _ | refine bl_drew ?_ | refine bl_drewN ?_ _))) ?_
      clear hK K
      have hP_w4 := hP.below (show Below _ _ w4 by (repeat (first | exact bl_refl | assumption | (apply bl_then; assumption) | refine bl_alloc ?_ _ | refine bl_drew ?_ | refine bl_drewN ?_ _)))
      have fhP_w4 := hP_w4.facts
      have hQ_w4 := hQ.below (show Below _ _ w4 by (repeat (first | exact bl_refl | assumption | (apply bl_then; assumption) | refine bl_alloc ?_ _ | refine bl_drew ?_ | refine bl_drewN ?_ _)))
      have fhQ_w4 := hQ_w4.facts
      refine wpMid_run rfl (fun K hK => ?_)
      go_simp
      refine hK _ _ (by (repeat (first | exact bl_refl | assumption | (apply bl_then; assumption) | refine bl_alloc ?_ _ | refine bl_drew ?_ | refine bl_drewN ?_ _))) ?_
      clear hK K
      refine wpMid_skipT (by kernel_rfl) ?_
      intro K hK
      simp only [Act.put, List.setIfInBounds_toArray, List.set_cons_zero, List.set_cons_succ]
      refine hK _ ?_
      clear hK K
      refine wpMid_skipT (by kernel_rfl) ?_
      intro K hK
      simp only [Act.put, List.setIfInBounds_toArray, List.set_cons_zero, List.set_cons_succ]
      refine hK _ ?_
      clear hK K
      refine wpMid_skipF (by kernel_rfl) ?_
      intro K hK
      simp only [Act.put, List.setIfInBounds_toArray, List.set_cons_zero, List.set_cons_succ]
      refine hK _ ?_
      clear hK K
      refine wpMid_nil ?_
      go_wp2
      go_ret2
      exact ⟨by rw [HF.out]; rfl, bl_then (show Below w1.heap.size w1 w4 by (repeat (first | exact bl_refl | assumption | (apply bl_then; assumption) | refine bl_alloc ?_ _ | refine bl_drew ?_ | refine bl_drewN ?_ _))) hbw1⟩
    · have HF : Hid (samQ p o = n2) := by unfold Hid; rw [HS.out]; simp
      clear HS
      refine wp_region_ords [0, 2] [(1, false), (3, false), (4, false), (5, false), (6, true), (8, true), (7, false)] [9, 10, 11, 12, 13] (by kernel_rfl) (by kernel_rfl) (fun d _ _ _ _ h => by cases d <;> exact h) ?_
      simp only [List.map_cons, List.map_nil, List.getD_cons_zero, List.getD_cons_succ]
      repeat (go_big_quiet_step (fail))
      refine wpQuiet_nil ?_
      refine wpMid_run rfl (fun K hK => ?_)
      go_simp
      refine (oa _ (by (repeat (first | exact bl_refl | assumption | (apply bl_then; assumption) | refine bl_alloc ?_ _ | refine bl_drew ?_ | refine bl_drewN ?_ _)))).mono ?_
      rintro e w2 ⟨v2, rfl, hO2, hb2⟩
      refine hK _ _ (by (repeat (first | exact bl_refl | assumption | (apply bl_then; assumption) | refine bl_alloc ?_ _ | refine bl_drew ?_ | refine bl_drewN ?_ _))) ?_
      clear hK K
      have hP_w2 := hP.below (show Below _ _ w2 by (repeat (first | exact bl_refl | assumption | (apply bl_then; assumption) | refine bl_alloc ?_ _ | refine bl_drew ?_ | refine bl_drewN ?_ _)))
      have fhP_w2 := hP_w2.facts
      have hQ_w2 := hQ.below (show Below _ _ w2 by (repeat (first | exact bl_refl | assumption | (apply bl_then; assumption) | refine bl_alloc ?_ _ | refine bl_drew ?_ | refine bl_drewN ?_ _)))
      have fhQ_w2 := hQ_w2.facts
      refine wpMid_run rfl (fun K hK => ?_)
      go_simp
      refine (ob _ (by (repeat (first | exact bl_refl | assumption | (apply bl_then; assumption) | refine bl_alloc ?_ _ | refine bl_drew ?_ | refine bl_drewN ?_ _)))).mono ?_
      rintro e w3 ⟨v3, rfl, hO3, hb3⟩
      refine hK _ _ (by (repeat (first | exact bl_refl | assumption | (apply bl_then; assumption) | refine bl_alloc ?_ _ | refine bl_drew ?_ | refine bl_drewN ?_ _))) ?_
      clear hK K
      have hP_w3 := hP.below (show Below _ _ w3 by (repeat (first | exact bl_refl | assumption | (apply bl_then; assumption) | refine bl_alloc ?_ _ | refine bl_drew ?_ | refine bl_drewN ?_ _)))
      have fhP_w3 := hP_w3.facts
      have hQ_w3 := hQ.below (show Below _ _ w3 by (repeat (first | exact bl_refl | assumption | (apply bl_then; assumption) | refine bl_alloc ?_ _ | refine bl_drew ?_ | refine bl_drewN ?_ _)))
      have fhQ_w3 := hQ_w3.facts
      refine wpMid_run rfl (fun K hK => ?_)
      go_simp
      refine (eq1 _ _ _ ((hO2.rd kc_len).below (by (repeat (first | exact bl_refl | assumption | (apply bl_then; assumption) | refine bl_alloc ?_ _ | refine bl_drew ?_ | refine bl_drewN ?_ _)))) (hO3.rd kc_len)).mono ?_
      rintro e w4 ⟨rfl, hb4⟩
      refine hK _ _ (by (repeat (first | exact bl_refl | assumption | (apply bl_then; assumption) | refine bl_alloc ?_ _ | refine bl_drew ?_ | refine bl_drewN ?_ _))) ?_
      clear hK K
      have hP_w4 := hP.below (show Below _ _ w4 by (repeat (first | exact bl_refl | assumption | (apply bl_then; assumption) | refine bl_alloc ?_ _ | refine bl_drew ?_ | refine bl_drewN ?_ _)))
      have fhP_w4 := hP_w4.facts
      have hQ_w4 := hQ.below (show Below _ _ w4 by (repeat (first | exact bl_refl | assumption | (apply bl_then; assumption) | refine bl_alloc ?_ _ | refine bl_drew ?_ | refine bl_drewN ?_ _)))
      have fhQ_w4 := hQ_w4.facts
      refine wpMid_run rfl (fun K hK => ?_)
      go_simp
      refine hK _ _ (by (repeat (first | exact bl_refl | assumption | (apply bl_then; assumption) | refine bl_alloc ?_ _ | refine bl_drew ?_ | refine bl_drewN ?_ _))) ?_
      clear hK K
      refine wpMid_take rfl ?_
      intro K hK
      go_big_quiet_op
      go_big_quiet_on
      refine wpMid_take rfl ?_
      intro K hK
      go_big_quiet_op
      go_big_quiet_on
      refine wpMid_run rfl (fun K hK => ?_)
      go_simp
      refine (oc _ (by (repeat (first | exact bl_refl | assumption | (apply bl_then; assumption) | refine bl_alloc ?_ _ | refine bl_drew ?_ | refine bl_drewN ?_ _)))).mono ?_
      rintro e w5 ⟨v5, rfl, hO5, hb5⟩
      refine hK _ _ (by (repeat (first | exact bl_refl | assumption | (apply bl_then; assumption) | refine bl_alloc ?_ _ | refine bl_drew ?_ | refine bl_drewN ?_ _))) ?_
      clear hK K
      have hP_w5 := hP.below (show Below _ _ w5 by (repeat (first | exact bl_refl | assumption | (apply bl_then; assumption) | refine bl_alloc ?_ _ | refine bl_drew ?_ | refine bl_drewN ?_ _)))
      have fhP_w5 := hP_w5.facts
      have hQ_w5 := hQ.below (show Below _ _ w5 by (repeat (first | exact bl_refl | assumption | (apply bl_then; assumption) | refine bl_alloc ?_ _ | refine bl_drew ?_ | refine bl_drewN ?_ _)))
      have fhQ_w5 := hQ_w5.facts
      refine wpMid_nil ?_
      go_wp2_with fail
      refine (od _ (bl_then (show Below w1.heap.size w1 w5 by (repeat (first | exact bl_refl | assumption | (apply bl_then; assumption) | refine bl_alloc ?_ _ | refine bl_drew ?_ | refine bl_drewN ?_ _))) hbw1)).mono ?_
      rintro e w6 ⟨v6, rfl, hO6, hb6⟩
      go_wp2_with fail
      refine (eq2 _ _ _ ((hO5.rd kc_len).below (by (repeat (first | exact bl_refl | assumption | (apply bl_then; assumption) | refine bl_alloc ?_ _ | refine bl_drew ?_ | refine bl_drewN ?_ _)))) (hO6.rd kc_len)).mono ?_
      rintro e w7 ⟨rfl, hb7⟩
      go_wp2
      go_ret2
      exact ⟨by rw [HF.out]; rfl, bl_then (show Below w1.heap.size w1 w7 by (repeat (first | exact bl_refl | assumption | (apply bl_then; assumption) | refine bl_alloc ?_ _ | refine bl_drew ?_ | refine bl_drewN ?_ _))) hbw1⟩
  · have HB : Hid ((decide (twoP p o = 0) && samQ p o) = false) := by unfold Hid; rw [decide_eq_false hE]; rfl
    rw [HB.out]
    have t0 : (twoP p o != 0) = true := by simp [hE]
    obtain ⟨E, hEE⟩ : ∃ E, twoP p o = E := ⟨_, rfl⟩
    rw [hEE] at hf2 t0 ⊢
    obtain ⟨E1, hE1⟩ : ∃ E, panE p = E := ⟨_, rfl⟩
    rw [hE1] at hc hf2
    obtain ⟨E2, hE2⟩ : ∃ E, panE o = E := ⟨_, rfl⟩
    rw [hE2] at hd hf2
    obtain ⟨AL, cL, rfl, _, _, _⟩ := hL
    obtain ⟨AR, cR, rfl, _, _, _⟩ := hR
    obtain ⟨BL, dL, rfl, _, _, _⟩ := kL
    obtain ⟨BR, dR, rfl, _, _, _⟩ := kR
    simp only [sV] at hc hd ⊢
    have hP := (Blk.new w 29 #[.string ⟨p.1.toArray⟩, .int .i64 p.2.1, .slice AL p.2.2.1.length cL, .slice AR p.2.2.2.length cR]).alloc (.cells #[.string ⟨o.1.toArray⟩, .int .i64 o.2.1, .slice BL o.2.2.1.length dL, .slice BR o.2.2.2.length dR] 29)
    have hQ := Blk.new1 w (.cells #[.string ⟨p.1.toArray⟩, .int .i64 p.2.1, .slice AL p.2.2.1.length cL, .slice AR p.2.2.2.length cR] 29) 29 #[.string ⟨o.1.toArray⟩, .int .i64 o.2.1, .slice BL o.2.2.1.length dL, .slice BR o.2.2.2.length dR]
    clear hE hEE hE1 hE2 HB hna hnb
    go_enter Tryz.func15, Tryz.ntmps15
    go_upto_region 1 with fail
    obtain ⟨w0, hw0⟩ : ∃ X, (w.alloc (.cells #[.string ⟨p.1.toArray⟩, .int .i64 p.2.1, .slice AL p.2.2.1.length cL, .slice AR p.2.2.2.length cR] 29)).alloc (.cells #[.string ⟨o.1.toArray⟩, .int .i64 o.2.1, .slice BL o.2.2.1.length dL, .slice BR o.2.2.2.length dR] 29) = X := ⟨_, rfl⟩
    have hbw0 : Below w.heap.size w w0 := by rw [← hw0]; exact bl_alloc (bl_alloc bl_refl _) _
    rw [hw0] at hP hQ ⊢
    clear hw0
    have fhP := hP.facts
    have fhQ := hQ.facts
    refine wp_region_ords [0, 2] [(1, false)] [3, 4, 5, 6] (by kernel_rfl) (by kernel_rfl) (fun d _ _ _ _ h => by cases d <;> exact h) ?_
    simp only [List.map_cons, List.map_nil, List.getD_cons_zero, List.getD_cons_succ]
    repeat (go_big_quiet_step (fail))
    refine wpQuiet_nil ?_
    refine wpMid_run rfl (fun K hK => ?_)
    go_simp
    refine (hc _ (by (repeat (first | exact bl_refl | assumption | (apply bl_then; assumption) | refine bl_alloc ?_ _ | refine bl_drew ?_ | refine bl_drewN ?_ _)))).mono ?_
    rintro e w2 ⟨rfl, hb2⟩
    refine hK _ _ (by (repeat (first | exact bl_refl | assumption | (apply bl_then; assumption) | refine bl_alloc ?_ _ | refine bl_drew ?_ | refine bl_drewN ?_ _))) ?_
    clear hK K
    have hP_w2 := hP.below (show Below _ _ w2 by (repeat (first | exact bl_refl | assumption | (apply bl_then; assumption) | refine bl_alloc ?_ _ | refine bl_drew ?_ | refine bl_drewN ?_ _)))
    have fhP_w2 := hP_w2.facts
    have hQ_w2 := hQ.below (show Below _ _ w2 by (repeat (first | exact bl_refl | assumption | (apply bl_then; assumption) | refine bl_alloc ?_ _ | refine bl_drew ?_ | refine bl_drewN ?_ _)))
    have fhQ_w2 := hQ_w2.facts
    refine wpMid_nil ?_
    go_wp2_with (go_at_call 56; refine (hd _ (by (repeat (first | exact bl_refl | assumption | (apply bl_then; assumption) | refine bl_alloc ?_ _ | refine bl_drew ?_ | refine bl_drewN ?_ _)))).mono ?_; rintro e w3 ⟨rfl, hb3⟩)
    go_must (refine (hf2 _ _ _ (Rd.ints2 (by simp) (by go_simp) (by go_simp))).mono ?_)
    rintro e w1 ⟨rfl, hb4⟩
    have hb14 : Below w0.heap.size w0 w1 := by (repeat (first | exact bl_refl | assumption | (apply bl_then; assumption) | refine bl_alloc ?_ _ | refine bl_drew ?_ | refine bl_drewN ?_ _))
    replace hP := hP.below hb14
    replace hQ := hQ.below hb14
    have hbw1 : Below w.heap.size w w1 := bl_then hb14 hbw0
    replace fhP := hP.facts
    replace fhQ := hQ.facts
    clear hc hd hf2 hb14 hb2 hb3 hb4 hbw0 hP_w2 hQ_w2 fhP_w2 fhQ_w2
    go_wp2
    go_ret2
    exact ⟨rfl, hbw1⟩
end Go.Proofs.YthkjgcldolnjaaaGreatDoor

/- Mirror, walked. Conditions: none. -/
namespace Go.Proofs.YthkjgcldolnjaaaGreatDoor
open Go.RowKit Go.ChangeMaps
set_option maxHeartbeats 4000000
set_option maxRecDepth 100000

attribute [local go_sem] Oper.semAt_some
/-! # Mirror, Plain -/
def mirQ (p : Pan) : Pan := (p.1, p.2.1, p.2.2.2, p.2.2.1)
theorem apiMirror_any {vL vR : Value} (p : Pan) (w : World) (hnm : p.1.length ≤ 1000000) (hL : SlE w vL p.2.2.1) (hR : SlE w vR p.2.2.2) :
    Calls Tryz.prog 13 #[.agg #[sV p.1, .int .i64 p.2.1, vL, vR]] w (RPN w (pcR (panE p) (mirQ p)) (pcE (panE p) (mirQ p))) := by
  have hc := fun W (hb : Below w.heap.size w W) => checkPanel_any p W hnm (hL.below hb) (hR.below hb)
  by_cases hE : panE p = 0
  · have hok := panE_zero hE
    have ll := hok.left.few
    have lr := hok.right.few
    have cl := fun W (hb : Below w.heap.size w W) => cloneE_any p.2.2.2 W (hR.below hb) (by omega)
    have cr := fun W (hb : Below w.heap.size w W) => cloneE_any p.2.2.1 W (hL.below hb) (by omega)
    have HQ : Hid (pcR (panE p) (mirQ p) = pcR 0 (mirQ p) ∧ pcE (panE p) (mirQ p) = panE (mirQ p)) := by unfold Hid; rw [hE]; exact ⟨rfl, by unfold pcE; rw [if_neg (by simp)]⟩
    rw [HQ.out.1, HQ.out.2]
    have hch := fun W vl vr hl hr => checked_any (vL := vl) (vR := vr) (mirQ p) W hnm hl hr
    rw [hE] at hc
    obtain ⟨AL, cL, rfl, _, _, _⟩ := hL
    obtain ⟨AR, cR, rfl, _, _, _⟩ := hR
    have HCH := Lib.hid hch
    obtain ⟨EQ, hEQ⟩ : ∃ E, panE (mirQ p) = E := ⟨_, rfl⟩
    rw [hEQ] at HCH ⊢
    have hs : sV p.1 = .string ⟨p.1.toArray⟩ := rfl
    rw [hs] at hc
    rw [hs]
    have hP := (Blk.new w 29 #[.string ⟨p.1.toArray⟩, .int .i64 p.2.1, .slice AL p.2.2.1.length cL, .slice AR p.2.2.2.length cR]).alloc (.cells zeroPV 29)
    have hZ := Blk.new1 w (.cells #[.string ⟨p.1.toArray⟩, .int .i64 p.2.1, .slice AL p.2.2.1.length cL, .slice AR p.2.2.2.length cR] 29) 29 zeroPV
    unfold zeroPV at hP hZ
    have fhP := hP.facts
    have fhZ := hZ.facts
    clear hE hEQ hnm hch hs HQ
    go_enter Tryz.func13, Tryz.ntmps13
    go_wp2_with fail
    refine (hc _ (by (repeat (first | exact bl_refl | assumption | (apply bl_then; assumption) | refine bl_alloc ?_ _ | refine bl_drew ?_ | refine bl_drewN ?_ _)))).mono ?_
    rintro e w4 ⟨rfl, hb2⟩
    replace hP := hP.below (show Below _ _ w4 by (repeat (first | exact bl_refl | assumption | (apply bl_then; assumption) | refine bl_alloc ?_ _ | refine bl_drew ?_ | refine bl_drewN ?_ _)))
    replace fhP := hP.facts
    replace hZ := hZ.below (show Below _ _ w4 by (repeat (first | exact bl_refl | assumption | (apply bl_then; assumption) | refine bl_alloc ?_ _ | refine bl_drew ?_ | refine bl_drewN ?_ _)))
    replace fhZ := hZ.facts
    have hbw4 : Below w.heap.size w w4 := by (repeat (first | exact bl_refl | assumption | (apply bl_then; assumption) | refine bl_alloc ?_ _ | refine bl_drew ?_ | refine bl_drewN ?_ _))
    clear hc hb2
    go_upto_region 4 with fail
    refine wp_region_ords [0, 1, 2, 3, 4, 5, 7, 8] [(6, false), (9, false), (10, false), (11, false), (12, true), (13, false)] [14, 15] (by kernel_rfl) (by kernel_rfl) (fun d _ _ _ _ h => by cases d <;> exact h) ?_
    simp only [List.map_cons, List.map_nil, List.getD_cons_zero, List.getD_cons_succ]
    repeat (go_big_quiet_step (fail))
    refine wpQuiet_nil ?_
    refine wpMid_run rfl (fun K hK => ?_)
    go_simp
    refine (cl _ (by (repeat (first | exact bl_refl | assumption | (apply bl_then; assumption) | refine bl_alloc ?_ _ | refine bl_drew ?_ | refine bl_drewN ?_ _)))).mono ?_
    rintro e w5 ⟨v5, rfl, hO5, hb5⟩
    refine hK _ _ (by (repeat (first | exact bl_refl | assumption | (apply bl_then; assumption) | refine bl_alloc ?_ _ | refine bl_drew ?_ | refine bl_drewN ?_ _))) ?_
    clear hK K
    have hP_w5 := hP.below (show Below _ _ w5 by (repeat (first | exact bl_refl | assumption | (apply bl_then; assumption) | refine bl_alloc ?_ _ | refine bl_drew ?_ | refine bl_drewN ?_ _)))
    have fhP_w5 := hP_w5.facts
    have hZ_w5 := hZ.below (show Below _ _ w5 by (repeat (first | exact bl_refl | assumption | (apply bl_then; assumption) | refine bl_alloc ?_ _ | refine bl_drew ?_ | refine bl_drewN ?_ _)))
    have fhZ_w5 := hZ_w5.facts
    obtain ⟨A5, c5, rfl⟩ := hO5.shape
    refine wpMid_run rfl (fun K hK => ?_)
    go_simp
    refine (cr _ (by (repeat (first | exact bl_refl | assumption | (apply bl_then; assumption) | refine bl_alloc ?_ _ | refine bl_drew ?_ | refine bl_drewN ?_ _)))).mono ?_
    rintro e w6 ⟨v6, rfl, hO6, hb6⟩
    refine hK _ _ (by (repeat (first | exact bl_refl | assumption | (apply bl_then; assumption) | refine bl_alloc ?_ _ | refine bl_drew ?_ | refine bl_drewN ?_ _))) ?_
    clear hK K
    have hP_w6 := hP.below (show Below _ _ w6 by (repeat (first | exact bl_refl | assumption | (apply bl_then; assumption) | refine bl_alloc ?_ _ | refine bl_drew ?_ | refine bl_drewN ?_ _)))
    have fhP_w6 := hP_w6.facts
    have hZ_w6 := hZ.below (show Below _ _ w6 by (repeat (first | exact bl_refl | assumption | (apply bl_then; assumption) | refine bl_alloc ?_ _ | refine bl_drew ?_ | refine bl_drewN ?_ _)))
    have fhZ_w6 := hZ_w6.facts
    obtain ⟨A6, c6, rfl⟩ := hO6.shape
    refine wpMid_run rfl (fun K hK => ?_)
    go_simp
    refine hK _ _ (by (repeat (first | exact bl_refl | assumption | (apply bl_then; assumption) | refine bl_alloc ?_ _ | refine bl_drew ?_ | refine bl_drewN ?_ _))) ?_
    clear hK K
    refine wpMid_run rfl (fun K hK => ?_)
    go_simp
    refine (HCH.out _ _ _ ((hO5.rd ec_len).below (by (repeat (first | exact bl_refl | assumption | (apply bl_then; assumption) | refine bl_alloc ?_ _ | refine bl_drew ?_ | refine bl_drewN ?_ _)))) (hO6.rd ec_len)).mono ?_
    rintro e w7 ⟨rfl, hb7⟩
    refine hK _ _ (by (repeat (first | exact bl_refl | assumption | (apply bl_then; assumption) | refine bl_alloc ?_ _ | refine bl_drew ?_ | refine bl_drewN ?_ _))) ?_
    clear hK K
    have hP_w7 := hP.below (show Below _ _ w7 by (repeat (first | exact bl_refl | assumption | (apply bl_then; assumption) | refine bl_alloc ?_ _ | refine bl_drew ?_ | refine bl_drewN ?_ _)))
    have fhP_w7 := hP_w7.facts
    have hZ_w7 := hZ.below (show Below _ _ w7 by (repeat (first | exact bl_refl | assumption | (apply bl_then; assumption) | refine bl_alloc ?_ _ | refine bl_drew ?_ | refine bl_drewN ?_ _)))
    have fhZ_w7 := hZ_w7.facts
    obtain ⟨A7, c7, A77, c77, hcv, hu1, hu2⟩ := checked_own (mirQ p) w6 w7 ((hO5.below (show Below w5.heap.size w5 w6 by (repeat (first | exact bl_refl | assumption | (apply bl_then; assumption) | refine bl_alloc ?_ _ | refine bl_drew ?_ | refine bl_drewN ?_ _)))).base_mono (show w4.heap.size ≤ _ by exact Below.size (by (repeat (first | exact bl_refl | assumption | (apply bl_then; assumption) | refine bl_alloc ?_ _ | refine bl_drew ?_ | refine bl_drewN ?_ _))))) (hO6.base_mono (show w4.heap.size ≤ _ by exact Below.size (by (repeat (first | exact bl_refl | assumption | (apply bl_then; assumption) | refine bl_alloc ?_ _ | refine bl_drew ?_ | refine bl_drewN ?_ _))))) hb7
    rw [hcv]
    refine wpMid_take rfl ?_
    intro K hK
    go_big_quiet_op
    go_big_quiet_on
    refine wpMid_run rfl (fun K hK => ?_)
    go_simp
    refine hK _ _ (by (repeat (first | exact bl_refl | assumption | (apply bl_then; assumption) | refine bl_alloc ?_ _ | refine bl_drew ?_ | refine bl_drewN ?_ _))) ?_
    clear hK K
    refine wpMid_nil ?_
    obtain ⟨Q, hQ⟩ : ∃ Q, pcR 0 (mirQ p) = Q := ⟨_, rfl⟩
    rw [hQ] at hu1 hu2 ⊢
    have HQQ := Lib.hid hQ
    clear hQ
    have hbb : Below w4.heap.size w4 w7 := by (repeat (first | exact bl_refl | assumption | (apply bl_then; assumption) | refine bl_alloc ?_ _ | refine bl_drew ?_ | refine bl_drewN ?_ _))
    go_wp2_with (refine wpList_store_blk hZ_w7 rfl _ _ _ rfl rfl rfl (by rfl) (by kernel_rfl) (by kernel_rfl) ?_; intro w12 hZ12 hc12; have f12 := hZ12.facts)
    refine bodyPost_ret (v := .tuple #[.agg #[.string ⟨Q.1.toArray⟩, .int .i64 Q.2.1, .slice A7 Q.2.2.1.length c7, .slice A77 Q.2.2.2.length c77], .int .i64 EQ]) (by simp [results, Tryz.results13, go_sem, f12]) rfl ?_
    have hz1 : w.heap.size + 1 < w4.heap.size := hZ.lt
    obtain rfl := HQQ.out
    exact ⟨_, _, rfl, (hu1.chg hc12 (by simp; omega)).base_mono hbw4.size, (hu2.chg hc12 (by simp; omega)).base_mono hbw4.size, chg_bl (bl_then hbb hbw4) hc12 (by omega)⟩
  · have HQ : Hid (pcR (panE p) (mirQ p) = panZ ∧ pcE (panE p) (mirQ p) = panE p) := by
      have e : pcE (panE p) (mirQ p) = panE p := by unfold pcE; rw [if_pos hE]
      exact ⟨by unfold pcR; rw [e, if_neg hE], e⟩
    rw [HQ.out.1, HQ.out.2]
    have t0 : (panE p != 0) = true := by simp [hE]
    obtain ⟨E, hEE⟩ : ∃ E, panE p = E := ⟨_, rfl⟩
    rw [hEE] at hc t0 ⊢
    obtain ⟨AL, cL, rfl, _, _, _⟩ := hL
    obtain ⟨AR, cR, rfl, _, _, _⟩ := hR
    have hs : sV p.1 = .string ⟨p.1.toArray⟩ := rfl
    rw [hs] at hc
    rw [hs]
    have hP := (Blk.new w 29 #[.string ⟨p.1.toArray⟩, .int .i64 p.2.1, .slice AL p.2.2.1.length cL, .slice AR p.2.2.2.length cR]).alloc (.cells zeroPV 29)
    have hZ := Blk.new1 w (.cells #[.string ⟨p.1.toArray⟩, .int .i64 p.2.1, .slice AL p.2.2.1.length cL, .slice AR p.2.2.2.length cR] 29) 29 zeroPV
    unfold zeroPV at hP hZ
    have fhP := hP.facts
    have fhZ := hZ.facts
    clear hE hEE hnm hs HQ
    go_enter Tryz.func13, Tryz.ntmps13
    go_wp2_with fail
    refine (hc _ (by (repeat (first | exact bl_refl | assumption | (apply bl_then; assumption) | refine bl_alloc ?_ _ | refine bl_drew ?_ | refine bl_drewN ?_ _)))).mono ?_
    rintro e w2 ⟨rfl, hb2⟩
    replace hP := hP.below (show Below _ _ w2 by (repeat (first | exact bl_refl | assumption | (apply bl_then; assumption) | refine bl_alloc ?_ _ | refine bl_drew ?_ | refine bl_drewN ?_ _)))
    replace fhP := hP.facts
    replace hZ := hZ.below (show Below _ _ w2 by (repeat (first | exact bl_refl | assumption | (apply bl_then; assumption) | refine bl_alloc ?_ _ | refine bl_drew ?_ | refine bl_drewN ?_ _)))
    replace fhZ := hZ.facts
    go_wp2_with (refine wpList_store_blk hZ rfl _ _ _ rfl rfl rfl (by rfl) (by kernel_rfl) (by kernel_rfl) ?_; intro w12 hZ12 hc12; have f12 := hZ12.facts)
    refine bodyPost_ret (v := .tuple #[.agg #[.string ⟨#[]⟩, .int .i64 0, .slice none 0 0, .slice none 0 0], .int .i64 E]) (by simp [results, Tryz.results13, go_sem, f12]) rfl ?_
    exact ⟨_, _, rfl, Own.nil_, Own.nil_, chg_bl (by (repeat (first | exact bl_refl | assumption | (apply bl_then; assumption) | refine bl_alloc ?_ _ | refine bl_drew ?_ | refine bl_drewN ?_ _))) hc12 (by omega)⟩
end Go.Proofs.YthkjgcldolnjaaaGreatDoor

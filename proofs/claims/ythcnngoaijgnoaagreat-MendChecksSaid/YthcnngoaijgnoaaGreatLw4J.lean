/- The statement MendChecks, walked. Conditions: slices that read as lists. -/
import Derived.Test.YthcnngoaijgnoaaGreatK11
import Derived.Test.YthcnngoaijgnoaaGreatPlbJ
namespace Go.Proofs.YthcnngoaijgnoaaGreat
open Go.RowKit Go.ChangeMaps
set_option maxHeartbeats 8000000
set_option maxRecDepth 100000

theorem mendChecks_any {v u z : Value} (N D : List Bar) (l : List Knot) (a b : Int) (w : World) (hN : SlB w v N) (hD : SlB w u D) (hl : SlK w z l) : Calls Tryz.prog 10 #[.agg #[v, u], z, .agg #[.int .i64 a, .int .i64 b]] w (RV w (.bool true)) := by
  have hl' := hl
  obtain ⟨A3, c3, rfl, hlc3, hcm3, hr3⟩ := hl'
  clear hr3
  have hl3 : l.length ≤ maxLen := Nat.le_trans hlc3 hcm3
  unfold maxLen at hl3
  have hB := (Blk.new w 24 #[v, u]).alloc (.cells #[.int .i64 a, .int .i64 b] 86)
  have hZ := Blk.new1 w (.cells #[v, u] 24) 86 #[.int .i64 a, .int .i64 b]
  have fhB := hB.facts
  have fhZ := hZ.facts
  have hshort := fun W (hN : SlB W v N) (hD : SlB W u D) => short_any N D 40 W hN hD
  obtain ⟨qs, hqs⟩ : ∃ q, (decide ((N.length : Int) ≤ 40) && decide ((D.length : Int) ≤ 40)) = q := ⟨_, rfl⟩
  simp only [hqs] at hshort
  obtain ⟨bad, hbad⟩ : ∃ q, (!qs || (decide (50 < l.length) && !decide (l.length = 4098))) = q := ⟨_, rfl⟩
  obtain ⟨w0, hw0⟩ : ∃ X, (w.alloc (.cells #[v, u] 24)).alloc (.cells #[.int .i64 a, .int .i64 b] 86) = X := ⟨_, rfl⟩
  have hb0 : Below w.heap.size w w0 := by rw [← hw0]; exact bl_alloc (bl_alloc bl_refl _) _
  have HS := Lib.hid hqs
  have HBAD := Lib.hid hbad
  clear hqs hbad
  go_enter Tryz.func10, Tryz.ntmps10
  go_upto_region 1 with fail
  rw [hw0] at hB hZ
  replace fhB := hB.facts
  replace fhZ := hZ.facts
  clear hw0
  go_cut [35] from 23 (fun s wx => s = .bool bad ∧ Below w0.heap.size w0 wx)
  case first =>
    cases qs
    · have HE : Hid (bad = true) := by unfold Hid; rw [← HBAD.out]; rfl
      go_wp2_with fail
      refine (hshort _ (hN.below (by (repeat (first | exact bl_refl | assumption | (apply bl_then; assumption) | refine bl_alloc ?_ _ | refine bl_drew ?_ | refine bl_drewN ?_ _)))) (hD.below (by (repeat (first | exact bl_refl | assumption | (apply bl_then; assumption) | refine bl_alloc ?_ _ | refine bl_drew ?_ | refine bl_drewN ?_ _))))).mono ?_
      rintro e w1 ⟨rfl, hb1⟩
      go_wp2_with fail
      go_meet
      case rel => exact ⟨by rw [HE.out], by (repeat (first | exact bl_refl | assumption | (apply bl_then; assumption) | refine bl_alloc ?_ _ | refine bl_drew ?_ | refine bl_drewN ?_ _))⟩
    · by_cases h50 : l.length ≤ 50
      · have HE : Hid (bad = false) := by unfold Hid; rw [← HBAD.out, decide_eq_false (by omega)]; rfl
        have h50' : ((50 : Int) < (l.length : Int)) = False := by simp; omega
        go_wp2_with fail
        refine (hshort _ (hN.below (by (repeat (first | exact bl_refl | assumption | (apply bl_then; assumption) | refine bl_alloc ?_ _ | refine bl_drew ?_ | refine bl_drewN ?_ _)))) (hD.below (by (repeat (first | exact bl_refl | assumption | (apply bl_then; assumption) | refine bl_alloc ?_ _ | refine bl_drew ?_ | refine bl_drewN ?_ _))))).mono ?_
        rintro e w1 ⟨rfl, hb1⟩
        go_wp2_with fail
        go_meet
        case rel => exact ⟨by rw [HE.out], by (repeat (first | exact bl_refl | assumption | (apply bl_then; assumption) | refine bl_alloc ?_ _ | refine bl_drew ?_ | refine bl_drewN ?_ _))⟩
      · have h50' : ((50 : Int) < (l.length : Int)) = True := by simp; omega
        by_cases h98 : l.length = 4098
        · have HE : Hid (bad = false) := by unfold Hid; rw [← HBAD.out, h98]; rfl
          have h98' : ((l.length : Int) != 4098) = false := by simp; omega
          clear h98
          go_wp2_with fail
          refine (hshort _ (hN.below (by (repeat (first | exact bl_refl | assumption | (apply bl_then; assumption) | refine bl_alloc ?_ _ | refine bl_drew ?_ | refine bl_drewN ?_ _)))) (hD.below (by (repeat (first | exact bl_refl | assumption | (apply bl_then; assumption) | refine bl_alloc ?_ _ | refine bl_drew ?_ | refine bl_drewN ?_ _))))).mono ?_
          rintro e w1 ⟨rfl, hb1⟩
          go_wp2_with fail
          go_meet
          case rel => exact ⟨by rw [HE.out], by (repeat (first | exact bl_refl | assumption | (apply bl_then; assumption) | refine bl_alloc ?_ _ | refine bl_drew ?_ | refine bl_drewN ?_ _))⟩
        · have HE : Hid (bad = true) := by unfold Hid; rw [← HBAD.out, decide_eq_true (by omega), decide_eq_false h98]; rfl
          have h98' : ((l.length : Int) != 4098) = true := by simp; omega
          clear h98
          go_wp2_with fail
          refine (hshort _ (hN.below (by (repeat (first | exact bl_refl | assumption | (apply bl_then; assumption) | refine bl_alloc ?_ _ | refine bl_drew ?_ | refine bl_drewN ?_ _)))) (hD.below (by (repeat (first | exact bl_refl | assumption | (apply bl_then; assumption) | refine bl_alloc ?_ _ | refine bl_drew ?_ | refine bl_drewN ?_ _))))).mono ?_
          rintro e w1 ⟨rfl, hb1⟩
          go_wp2_with fail
          go_meet
          case rel => exact ⟨by rw [HE.out], by (repeat (first | exact bl_refl | assumption | (apply bl_then; assumption) | refine bl_alloc ?_ _ | refine bl_drew ?_ | refine bl_drewN ?_ _))⟩
  case rest =>
    obtain ⟨rfl, hbc⟩ := hcut
    replace hB := hB.below hbc
    replace hZ := hZ.below hbc
    replace fhB := hB.facts
    replace fhZ := hZ.facts
    have hbwc : Below w.heap.size w wc := bl_then hbc hb0
    clear hbc hb0 hshort
    cases bad
    · have hq : qs = true ∧ (l.length ≤ 50 ∨ l.length = 4098) := by
        have := HBAD.out
        cases qs
        · cases this
        · refine ⟨rfl, ?_⟩
          simp at this
          omega
      have hsz : N.length ≤ 40 ∧ D.length ≤ 40 := by
        have := HS.out
        rw [hq.1] at this
        simp at this
        omega
      have hll : l.length ≤ 4098 := by omega
      clear hq HBAD HS
      go_wp2_with fail
      refine (torn_any N D _ (hN.below (by (repeat (first | exact bl_refl | assumption | (apply bl_then; assumption) | refine bl_alloc ?_ _ | refine bl_drew ?_ | refine bl_drewN ?_ _)))) (hD.below (by (repeat (first | exact bl_refl | assumption | (apply bl_then; assumption) | refine bl_alloc ?_ _ | refine bl_drew ?_ | refine bl_drewN ?_ _)))) (by omega) (by omega)).mono ?_
      rintro e w2 ⟨v2, u2, rfl, hN2, hD2, hb2⟩
      replace hB := hB.below (show Below _ _ w2 by (repeat (first | exact bl_refl | assumption | (apply bl_then; assumption) | refine bl_alloc ?_ _ | refine bl_drew ?_ | refine bl_drewN ?_ _)))
      replace fhB := hB.facts
      replace hZ := hZ.below (show Below _ _ w2 by (repeat (first | exact bl_refl | assumption | (apply bl_then; assumption) | refine bl_alloc ?_ _ | refine bl_drew ?_ | refine bl_drewN ?_ _)))
      replace fhZ := hZ.facts
      go_wp2_with fail
      refine (knots_any l _ (hl.below (by (repeat (first | exact bl_refl | assumption | (apply bl_then; assumption) | refine bl_alloc ?_ _ | refine bl_drew ?_ | refine bl_drewN ?_ _)))) (by omega)).mono ?_
      rintro e w3 ⟨v3, rfl, hK3, hb3⟩
      replace hB := hB.below (show Below _ _ w3 by (repeat (first | exact bl_refl | assumption | (apply bl_then; assumption) | refine bl_alloc ?_ _ | refine bl_drew ?_ | refine bl_drewN ?_ _)))
      replace fhB := hB.facts
      replace hZ := hZ.below (show Below _ _ w3 by (repeat (first | exact bl_refl | assumption | (apply bl_then; assumption) | refine bl_alloc ?_ _ | refine bl_drew ?_ | refine bl_drewN ?_ _)))
      replace fhZ := hZ.facts
      go_wp2_with fail
      refine (checkRun_any N D l _ ((hN2.rd bc_len).below (by (repeat (first | exact bl_refl | assumption | (apply bl_then; assumption) | refine bl_alloc ?_ _ | refine bl_drew ?_ | refine bl_drewN ?_ _)))) ((hD2.rd bc_len).below (by (repeat (first | exact bl_refl | assumption | (apply bl_then; assumption) | refine bl_alloc ?_ _ | refine bl_drew ?_ | refine bl_drewN ?_ _)))) (hK3.rd kc_len)).mono ?_
      rintro e w4 ⟨rfl, hb4⟩
      replace hB := hB.below (show Below _ _ w4 by (repeat (first | exact bl_refl | assumption | (apply bl_then; assumption) | refine bl_alloc ?_ _ | refine bl_drew ?_ | refine bl_drewN ?_ _)))
      replace fhB := hB.facts
      replace hZ := hZ.below (show Below _ _ w4 by (repeat (first | exact bl_refl | assumption | (apply bl_then; assumption) | refine bl_alloc ?_ _ | refine bl_drew ?_ | refine bl_drewN ?_ _)))
      replace fhZ := hZ.facts
      have hbw4 : Below w.heap.size w w4 := by (repeat (first | exact bl_refl | assumption | (apply bl_then; assumption) | refine bl_alloc ?_ _ | refine bl_drew ?_ | refine bl_drewN ?_ _))
      clear hN2 hD2 hK3 hb2 hb3 hb4 hbwc
      go_wp2_with fail
      refine (knots_any l _ (hl.below (by (repeat (first | exact bl_refl | assumption | (apply bl_then; assumption) | refine bl_alloc ?_ _ | refine bl_drew ?_ | refine bl_drewN ?_ _)))) (by omega)).mono ?_
      rintro e w5 ⟨v5, rfl, hK5, hb5⟩
      replace hB := hB.below (show Below _ _ w5 by (repeat (first | exact bl_refl | assumption | (apply bl_then; assumption) | refine bl_alloc ?_ _ | refine bl_drew ?_ | refine bl_drewN ?_ _)))
      replace fhB := hB.facts
      replace hZ := hZ.below (show Below _ _ w5 by (repeat (first | exact bl_refl | assumption | (apply bl_then; assumption) | refine bl_alloc ?_ _ | refine bl_drew ?_ | refine bl_drewN ?_ _)))
      replace fhZ := hZ.facts
      go_wp2_with fail
      refine (made_any l _ (hK5.rd kc_len)).mono ?_
      rintro e w6 ⟨v6, rfl, hM6, hb6⟩
      replace hB := hB.below (show Below _ _ w6 by (repeat (first | exact bl_refl | assumption | (apply bl_then; assumption) | refine bl_alloc ?_ _ | refine bl_drew ?_ | refine bl_drewN ?_ _)))
      replace fhB := hB.facts
      replace hZ := hZ.below (show Below _ _ w6 by (repeat (first | exact bl_refl | assumption | (apply bl_then; assumption) | refine bl_alloc ?_ _ | refine bl_drew ?_ | refine bl_drewN ?_ _)))
      replace fhZ := hZ.facts
      obtain ⟨A6, c6, rfl⟩ := hM6.shape
      have hbw6 : Below w.heap.size w w6 := by (repeat (first | exact bl_refl | assumption | (apply bl_then; assumption) | refine bl_alloc ?_ _ | refine bl_drew ?_ | refine bl_drewN ?_ _))
      clear hK5 hb5 hb6 hbw4
      go_wp2_with fail
      refine (torn_any N D _ (hN.below (by (repeat (first | exact bl_refl | assumption | (apply bl_then; assumption) | refine bl_alloc ?_ _ | refine bl_drew ?_ | refine bl_drewN ?_ _)))) (hD.below (by (repeat (first | exact bl_refl | assumption | (apply bl_then; assumption) | refine bl_alloc ?_ _ | refine bl_drew ?_ | refine bl_drewN ?_ _)))) (by omega) (by omega)).mono ?_
      rintro e w7 ⟨v7, u7, rfl, hN7, hD7, hb7⟩
      replace hB := hB.below (show Below _ _ w7 by (repeat (first | exact bl_refl | assumption | (apply bl_then; assumption) | refine bl_alloc ?_ _ | refine bl_drew ?_ | refine bl_drewN ?_ _)))
      replace fhB := hB.facts
      replace hZ := hZ.below (show Below _ _ w7 by (repeat (first | exact bl_refl | assumption | (apply bl_then; assumption) | refine bl_alloc ?_ _ | refine bl_drew ?_ | refine bl_drewN ?_ _)))
      replace fhZ := hZ.facts
      go_wp2_with fail
      refine (knots_any l _ (hl.below (by (repeat (first | exact bl_refl | assumption | (apply bl_then; assumption) | refine bl_alloc ?_ _ | refine bl_drew ?_ | refine bl_drewN ?_ _)))) (by omega)).mono ?_
      rintro e w8 ⟨v8, rfl, hK8, hb8⟩
      replace hB := hB.below (show Below _ _ w8 by (repeat (first | exact bl_refl | assumption | (apply bl_then; assumption) | refine bl_alloc ?_ _ | refine bl_drew ?_ | refine bl_drewN ?_ _)))
      replace fhB := hB.facts
      replace hZ := hZ.below (show Below _ _ w8 by (repeat (first | exact bl_refl | assumption | (apply bl_then; assumption) | refine bl_alloc ?_ _ | refine bl_drew ?_ | refine bl_drewN ?_ _)))
      replace fhZ := hZ.facts
      go_wp2_with fail
      refine (restore_any N D l _ ((hN7.rd bc_len).below (by (repeat (first | exact bl_refl | assumption | (apply bl_then; assumption) | refine bl_alloc ?_ _ | refine bl_drew ?_ | refine bl_drewN ?_ _)))) ((hD7.rd bc_len).below (by (repeat (first | exact bl_refl | assumption | (apply bl_then; assumption) | refine bl_alloc ?_ _ | refine bl_drew ?_ | refine bl_drewN ?_ _)))) (hK8.rd kc_len)).mono ?_
      rintro e w9 ⟨v9, rfl, hR9, hb9⟩
      replace hB := hB.below (show Below _ _ w9 by (repeat (first | exact bl_refl | assumption | (apply bl_then; assumption) | refine bl_alloc ?_ _ | refine bl_drew ?_ | refine bl_drewN ?_ _)))
      replace fhB := hB.facts
      replace hZ := hZ.below (show Below _ _ w9 by (repeat (first | exact bl_refl | assumption | (apply bl_then; assumption) | refine bl_alloc ?_ _ | refine bl_drew ?_ | refine bl_drewN ?_ _)))
      replace fhZ := hZ.facts
      obtain ⟨A9, c9, rfl⟩ := hR9.shape
      have hM9 : SlB w9 _ _ := (hM6.rd bc_len).below (by (repeat (first | exact bl_refl | assumption | (apply bl_then; assumption) | refine bl_alloc ?_ _ | refine bl_drew ?_ | refine bl_drewN ?_ _)))
      have hbw9 : Below w.heap.size w w9 := by (repeat (first | exact bl_refl | assumption | (apply bl_then; assumption) | refine bl_alloc ?_ _ | refine bl_drew ?_ | refine bl_drewN ?_ _))
      clear hN7 hD7 hK8 hM6 hb7 hb8 hb9 hbw6
      go_wp2_with fail
      refine wp_region_ords [0, 2, 3, 4, 5] [(1, false), (6, false), (7, false), (8, true), (9, true), (10, false)] [11] (by kernel_rfl) (by kernel_rfl) (fun d _ _ _ _ h => by cases d <;> exact h) ?_
      simp only [List.map_cons, List.map_nil, List.getD_cons_zero, List.getD_cons_succ]
      repeat (go_big_quiet_step (fail))
      refine wpQuiet_nil ?_
      refine wpMid_run rfl (fun K hK => ?_)
      go_simp
      refine (knots_any l _ (hl.below (by (repeat (first | exact bl_refl | assumption | (apply bl_then; assumption) | refine bl_alloc ?_ _ | refine bl_drew ?_ | refine bl_drewN ?_ _)))) (by omega)).mono ?_
      rintro e w10 ⟨v10, rfl, hK10, hb10⟩
      refine hK _ _ (by (repeat (first | exact bl_refl | assumption | (apply bl_then; assumption) | refine bl_alloc ?_ _ | refine bl_drew ?_ | refine bl_drewN ?_ _))) ?_
      clear hK K
      refine wpMid_run rfl (fun K hK => ?_)
      go_simp
      refine (ptwine_any l a b _ (hK10.rd kc_len)).mono ?_
      rintro e w11 ⟨rfl, hb11⟩
      refine hK _ _ (by (repeat (first | exact bl_refl | assumption | (apply bl_then; assumption) | refine bl_alloc ?_ _ | refine bl_drew ?_ | refine bl_drewN ?_ _))) ?_
      clear hK K
      refine wpMid_run rfl (fun K hK => ?_)
      go_simp
      refine hK _ _ (by (repeat (first | exact bl_refl | assumption | (apply bl_then; assumption) | refine bl_alloc ?_ _ | refine bl_drew ?_ | refine bl_drewN ?_ _))) ?_
      clear hK K
      refine wpMid_take rfl ?_
      intro K hK
      go_big_quiet_op
      go_big_quiet_on
      refine wpMid_take rfl ?_
      intro K hK
      go_big_quiet_op
      go_big_quiet_on
      refine wpMid_run rfl (fun K hK => ?_)
      go_simp
      refine hK _ _ (by (repeat (first | exact bl_refl | assumption | (apply bl_then; assumption) | refine bl_alloc ?_ _ | refine bl_drew ?_ | refine bl_drewN ?_ _))) ?_
      clear hK K
      refine wpMid_nil ?_
      have hb911 : Below w9.heap.size w9 w11 := by (repeat (first | exact bl_refl | assumption | (apply bl_then; assumption) | refine bl_alloc ?_ _ | refine bl_drew ?_ | refine bl_drewN ?_ _))
      replace hB := hB.below hb911
      replace hZ := hZ.below hb911
      replace fhB := hB.facts
      replace fhZ := hZ.facts
      clear hK10 hb10 hb11
      go_wp2_with fail
      refine (rcheckWalk_any l _ (hl.below (by (repeat (first | exact bl_refl | assumption | (apply bl_then; assumption) | refine bl_alloc ?_ _ | refine bl_drew ?_ | refine bl_drewN ?_ _))))).mono ?_
      rintro e w12 ⟨rfl, hb12⟩
      replace hB := hB.below (show Below _ _ w12 by (repeat (first | exact bl_refl | assumption | (apply bl_then; assumption) | refine bl_alloc ?_ _ | refine bl_drew ?_ | refine bl_drewN ?_ _)))
      replace fhB := hB.facts
      replace hZ := hZ.below (show Below _ _ w12 by (repeat (first | exact bl_refl | assumption | (apply bl_then; assumption) | refine bl_alloc ?_ _ | refine bl_drew ?_ | refine bl_drewN ?_ _)))
      replace fhZ := hZ.facts
      go_wp2_with fail
      refine (rtorn_any N D _ (hN.below (by (repeat (first | exact bl_refl | assumption | (apply bl_then; assumption) | refine bl_alloc ?_ _ | refine bl_drew ?_ | refine bl_drewN ?_ _)))) (hD.below (by (repeat (first | exact bl_refl | assumption | (apply bl_then; assumption) | refine bl_alloc ?_ _ | refine bl_drew ?_ | refine bl_drewN ?_ _))))).mono ?_
      rintro e w13 ⟨rfl, hb13⟩
      replace hB := hB.below (show Below _ _ w13 by (repeat (first | exact bl_refl | assumption | (apply bl_then; assumption) | refine bl_alloc ?_ _ | refine bl_drew ?_ | refine bl_drewN ?_ _)))
      replace fhB := hB.facts
      replace hZ := hZ.below (show Below _ _ w13 by (repeat (first | exact bl_refl | assumption | (apply bl_then; assumption) | refine bl_alloc ?_ _ | refine bl_drew ?_ | refine bl_drewN ?_ _)))
      replace fhZ := hZ.facts
      go_wp2_with fail
      refine (first2_any (tornE N D) (cwE l) _).mono ?_
      rintro e w14 ⟨rfl, hb14⟩
      replace hB := hB.below (show Below _ _ w14 by (repeat (first | exact bl_refl | assumption | (apply bl_then; assumption) | refine bl_alloc ?_ _ | refine bl_drew ?_ | refine bl_drewN ?_ _)))
      replace fhB := hB.facts
      replace hZ := hZ.below (show Below _ _ w14 by (repeat (first | exact bl_refl | assumption | (apply bl_then; assumption) | refine bl_alloc ?_ _ | refine bl_drew ?_ | refine bl_drewN ?_ _)))
      replace fhZ := hZ.facts
      have hM14 : SlB w14 _ _ := hM9.below (by (repeat (first | exact bl_refl | assumption | (apply bl_then; assumption) | refine bl_alloc ?_ _ | refine bl_drew ?_ | refine bl_drewN ?_ _)))
      have hR14 : SlB w14 _ _ := (hR9.rd bc_len).below (by (repeat (first | exact bl_refl | assumption | (apply bl_then; assumption) | refine bl_alloc ?_ _ | refine bl_drew ?_ | refine bl_drewN ?_ _)))
      have hbw14 : Below w.heap.size w w14 := by (repeat (first | exact bl_refl | assumption | (apply bl_then; assumption) | refine bl_alloc ?_ _ | refine bl_drew ?_ | refine bl_drewN ?_ _))
      clear hM9 hR9 hb911 hb12 hb13 hb14 hbw9
      go_upto_region 10 with fail
      go_cut [17] from 23 (fun s wx => s = .int .i64 (twineE l a b) ∧ Below w14.heap.size w14 wx)
      case first =>
        obtain ⟨qa, hqa⟩ : ∃ q, (decide (a < 0) || decide (100000 < a)) = q := ⟨_, rfl⟩
        obtain ⟨qb, hqb⟩ : ∃ q, (decide (b < 0) || decide (100000 < b)) = q := ⟨_, rfl⟩
        have HT : Hid (twineE l a b = firstI [cwE l, whenI (qa || qb) 3]) := by unfold Hid; rw [twine_first, hqa, hqb]
        have hoa := fun W => outside_any a 0 100000 W
        have hob := fun W => outside_any b 0 100000 W
        rw [hqa] at hoa
        rw [hqb] at hob
        clear hqa hqb
        cases qa
        · go_wp2_with fail
          refine (hoa _).mono ?_
          rintro e w15 ⟨rfl, hb15⟩
          replace hB := hB.below (show Below _ _ w15 by (repeat (first | exact bl_refl | assumption | (apply bl_then; assumption) | refine bl_alloc ?_ _ | refine bl_drew ?_ | refine bl_drewN ?_ _)))
          replace fhB := hB.facts
          replace hZ := hZ.below (show Below _ _ w15 by (repeat (first | exact bl_refl | assumption | (apply bl_then; assumption) | refine bl_alloc ?_ _ | refine bl_drew ?_ | refine bl_drewN ?_ _)))
          replace fhZ := hZ.facts
          go_wp2_with fail
          refine (hob _).mono ?_
          rintro e w16 ⟨rfl, hb16⟩
          replace hB := hB.below (show Below _ _ w16 by (repeat (first | exact bl_refl | assumption | (apply bl_then; assumption) | refine bl_alloc ?_ _ | refine bl_drew ?_ | refine bl_drewN ?_ _)))
          replace fhB := hB.facts
          replace hZ := hZ.below (show Below _ _ w16 by (repeat (first | exact bl_refl | assumption | (apply bl_then; assumption) | refine bl_alloc ?_ _ | refine bl_drew ?_ | refine bl_drewN ?_ _)))
          replace fhZ := hZ.facts
          go_wp2_with fail
          refine (lwhen_any qb 3 _).mono ?_
          rintro e w17 ⟨rfl, hb17⟩
          go_wp2_with fail
          refine (first2_any (cwE l) (whenI qb 3) _).mono ?_
          rintro e w18 ⟨rfl, hb18⟩
          go_wp2_with fail
          go_meet
          case rel => exact ⟨by rw [HT.out]; rfl, by (repeat (first | exact bl_refl | assumption | (apply bl_then; assumption) | refine bl_alloc ?_ _ | refine bl_drew ?_ | refine bl_drewN ?_ _))⟩
        · go_wp2_with fail
          refine (hoa _).mono ?_
          rintro e w15 ⟨rfl, hb15⟩
          replace hB := hB.below (show Below _ _ w15 by (repeat (first | exact bl_refl | assumption | (apply bl_then; assumption) | refine bl_alloc ?_ _ | refine bl_drew ?_ | refine bl_drewN ?_ _)))
          replace fhB := hB.facts
          replace hZ := hZ.below (show Below _ _ w15 by (repeat (first | exact bl_refl | assumption | (apply bl_then; assumption) | refine bl_alloc ?_ _ | refine bl_drew ?_ | refine bl_drewN ?_ _)))
          replace fhZ := hZ.facts
          go_wp2_with fail
          refine (when1_any 3 _).mono ?_
          rintro e w17 ⟨rfl, hb17⟩
          go_wp2_with fail
          refine (first2_any (cwE l) 3 _).mono ?_
          rintro e w18 ⟨rfl, hb18⟩
          go_wp2_with fail
          go_meet
          case rel => exact ⟨by rw [HT.out]; rfl, by (repeat (first | exact bl_refl | assumption | (apply bl_then; assumption) | refine bl_alloc ?_ _ | refine bl_drew ?_ | refine bl_drewN ?_ _))⟩
      case rest =>
        obtain ⟨rfl, hbd⟩ := hcut
        replace hB := hB.below hbd
        replace hZ := hZ.below hbd
        replace fhB := hB.facts
        replace fhZ := hZ.facts
        replace hM14 := hM14.below hbd
        replace hR14 := hR14.below hbd
        replace hbw14 : Below w.heap.size w wc := bl_then hbd hbw14
        clear hbd
        go_upto_if 87 with fail
        go_cut [16, 18] from 23 (fun s16 s18 wx => s16 = .int .i64 (madeE l) ∧ SlB wx s18 (madeL l) ∧ Below wc.heap.size wc wx)
        case first =>
          by_cases hE : cwE l = 0
          · have hE' : (cwE l == 0) = true := by rw [hE]; rfl
            have hnear := (cwE_ok hE).2
            have HM : Hid (madeE l = whenI (mkB [] (passP l)).isNone 9 ∧ madeL l = (mkB [] (passP l)).getD []) := by
              unfold Hid
              rw [madeE_eq, if_pos hE, Option.not_isSome]
              exact ⟨rfl, madeL_eq l hE⟩
            clear hE
            go_wp2_with fail
            refine (rmade_any l _ (hl.below (by (repeat (first | exact bl_refl | assumption | (apply bl_then; assumption) | refine bl_alloc ?_ _ | refine bl_drew ?_ | refine bl_drewN ?_ _)))) hnear (by omega)).mono ?_
            rintro e w15 ⟨v15, rfl, hX15, hb15⟩
            obtain ⟨A15, c15, rfl⟩ := hX15.shape
            go_wp2_with fail
            refine (lwhen_any (mkB [] (passP l)).isNone 9 _).mono ?_
            rintro e w16 ⟨rfl, hb16⟩
            go_wp2_with fail
            go_meet
            case rel => exact ⟨by rw [HM.out.1], by rw [HM.out.2]; exact (hX15.rd bc_len).below (by (repeat (first | exact bl_refl | assumption | (apply bl_then; assumption) | refine bl_alloc ?_ _ | refine bl_drew ?_ | refine bl_drewN ?_ _))), by (repeat (first | exact bl_refl | assumption | (apply bl_then; assumption) | refine bl_alloc ?_ _ | refine bl_drew ?_ | refine bl_drewN ?_ _))⟩
          · have hE' : (cwE l == 0) = false := by simpa using hE
            have HM : Hid (madeE l = cwE l ∧ madeL l = []) := by
              have h1 : madeE l = cwE l := by rw [madeE_eq, if_neg hE]
              refine ⟨h1, ?_⟩
              unfold madeL
              rw [h1, if_neg hE]
            clear hE
            go_wp2_with fail
            go_meet
            case rel => exact ⟨by rw [HM.out.1], by rw [HM.out.2]; exact Sl.nil_, by (repeat (first | exact bl_refl | assumption | (apply bl_then; assumption) | refine bl_alloc ?_ _ | refine bl_drew ?_ | refine bl_drewN ?_ _))⟩
        case rest =>
          obtain ⟨rfl, hX, hbd⟩ := hcut
          replace hB := hB.below hbd
          replace hZ := hZ.below hbd
          replace fhB := hB.facts
          replace fhZ := hZ.facts
          replace hM14 := hM14.below hbd
          replace hR14 := hR14.below hbd
          replace hbw14 : Below w.heap.size w wc := bl_then hbd hbw14
          clear hbd
          go_upto_if 98 with fail
          go_cut [15, 19] from 23 (fun s15 s19 wx => s15 = .int .i64 (provedE N D l) ∧ SlB wx s19 (restL N D l) ∧ Below wc.heap.size wc wx)
          case first =>
            by_cases hE : firstI [tornE N D, cwE l] = 0
            · have hE' : (firstI [tornE N D, cwE l] == 0) = true := by rw [hE]; rfl
              have hok := torn_ok (firstI_zero hE).1
              have HP := Lib.hid (proved_first (fun b hb => (hok.dam.ok b hb).2.2) hE)
              have hrd := fun X (hX : SlB X u D) => rready_any (v := v) D X hX hok.dam.ok (by omega)
              have his := fun X (hX : SlB X u D) (hz : SlK X (.slice A3 l.length c3) l) => risRunAny_any (v := v) D l X hX hz hok.dam.ok (by omega)
              obtain ⟨q, hq⟩ : ∃ q, rdyB D = q := ⟨_, rfl⟩
              obtain ⟨p, hp⟩ : ∃ q, isRunAny D l = q := ⟨_, rfl⟩
              rw [hq] at hrd
              rw [hp] at his
              rw [hq, hp] at HP
              clear hE hq hp
              go_wp2_with fail
              refine wp_region_ords [0, 4, 5] [(1, false), (2, false), (3, false)] [6, 7, 8, 9, 10, 11] (by kernel_rfl) (by kernel_rfl) (fun d _ _ _ _ h => by cases d <;> exact h) ?_
              simp only [List.map_cons, List.map_nil, List.getD_cons_zero, List.getD_cons_succ]
              repeat (go_big_quiet_step (fail))
              refine wpQuiet_nil ?_
              refine wpMid_run rfl (fun K hK => ?_)
              go_simp
              refine (hrd _ (hD.below (by (repeat (first | exact bl_refl | assumption | (apply bl_then; assumption) | refine bl_alloc ?_ _ | refine bl_drew ?_ | refine bl_drewN ?_ _))))).mono ?_
              rintro e w15 ⟨rfl, hb15⟩
              refine hK _ _ (by (repeat (first | exact bl_refl | assumption | (apply bl_then; assumption) | refine bl_alloc ?_ _ | refine bl_drew ?_ | refine bl_drewN ?_ _))) ?_
              clear hK K
              refine wpMid_run rfl (fun K hK => ?_)
              go_simp
              refine hK _ _ (by (repeat (first | exact bl_refl | assumption | (apply bl_then; assumption) | refine bl_alloc ?_ _ | refine bl_drew ?_ | refine bl_drewN ?_ _))) ?_
              clear hK K
              refine wpMid_run rfl (fun K hK => ?_)
              go_simp
              refine (lwhen_any (!q) 18 _).mono ?_
              rintro e w16 ⟨rfl, hb16⟩
              refine hK _ _ (by (repeat (first | exact bl_refl | assumption | (apply bl_then; assumption) | refine bl_alloc ?_ _ | refine bl_drew ?_ | refine bl_drewN ?_ _))) ?_
              clear hK K
              refine wpMid_nil ?_
              go_wp2_with fail
              refine (his _ (hD.below (by (repeat (first | exact bl_refl | assumption | (apply bl_then; assumption) | refine bl_alloc ?_ _ | refine bl_drew ?_ | refine bl_drewN ?_ _)))) (hl.below (by (repeat (first | exact bl_refl | assumption | (apply bl_then; assumption) | refine bl_alloc ?_ _ | refine bl_drew ?_ | refine bl_drewN ?_ _))))).mono ?_
              rintro e w17 ⟨rfl, hb17⟩
              go_wp2_with fail
              refine (lwhen_any (!p) 21 _).mono ?_
              rintro e w18 ⟨rfl, hb18⟩
              go_wp2_with fail
              refine (first2_any (whenI (!q) 18) (whenI (!p) 21) _).mono ?_
              rintro e w19 ⟨rfl, hb19⟩
              rw [← HP.out]
              have hb19' : Below wc.heap.size wc w19 := by (repeat (first | exact bl_refl | assumption | (apply bl_then; assumption) | refine bl_alloc ?_ _ | refine bl_drew ?_ | refine bl_drewN ?_ _))
              replace hB := hB.below hb19'
              replace fhB := hB.facts
              by_cases h0 : provedE N D l = 0
              · have h0' : (provedE N D l == 0) = true := by rw [h0]; rfl
                have HR : Hid (restL N D l = tog (wout N D) (madeL l)) := rest_tog h0
                have hwl := wout_len N D
                have hml : (madeL l).length ≤ 5000 := by
                  unfold madeL
                  split
                  · rw [srtB_length]; have := passP_len l; omega
                  · simp
                clear h0
                go_wp2_with fail
                refine (rsound_any N D _ (hN.below (by (repeat (first | exact bl_refl | assumption | (apply bl_then; assumption) | refine bl_alloc ?_ _ | refine bl_drew ?_ | refine bl_drewN ?_ _)))) (hD.below (by (repeat (first | exact bl_refl | assumption | (apply bl_then; assumption) | refine bl_alloc ?_ _ | refine bl_drew ?_ | refine bl_drewN ?_ _)))) (by omega)).mono ?_
                rintro e w20 ⟨v20, rfl, hX20, hb20⟩
                go_wp2_with fail
                refine (rtog_any (wout N D) (madeL l) _ (hX20.rd bc_len) ((hX.below hb19').below (by (repeat (first | exact bl_refl | assumption | (apply bl_then; assumption) | refine bl_alloc ?_ _ | refine bl_drew ?_ | refine bl_drewN ?_ _)))) (by omega)).mono ?_
                rintro e w21 ⟨v21, rfl, hX21, hb21⟩
                go_wp2_with fail
                go_meet
                case rel => exact ⟨rfl, by rw [HR.out]; exact hX21.rd bc_len, by (repeat (first | exact bl_refl | assumption | (apply bl_then; assumption) | refine bl_alloc ?_ _ | refine bl_drew ?_ | refine bl_drewN ?_ _))⟩
              · have h0' : (provedE N D l == 0) = false := by simpa using h0
                have HR : Hid (restL N D l = []) := by unfold Hid restL; rw [if_neg h0]
                clear h0
                go_wp2_with fail
                go_meet
                case rel => exact ⟨rfl, by rw [HR.out]; exact Sl.nil_, hb19'⟩
            · have hE' : (firstI [tornE N D, cwE l] == 0) = false := by simpa using hE
              have HP : Hid (provedE N D l = firstI [tornE N D, cwE l]) := by unfold Hid provedE; rw [if_neg hE]
              have HR : Hid (restL N D l = []) := by
                unfold Hid restL
                rw [HP.out, if_neg hE]
              clear hE
              go_wp2_with fail
              go_meet
              case rel => exact ⟨by rw [HP.out], by rw [HR.out]; exact Sl.nil_, by (repeat (first | exact bl_refl | assumption | (apply bl_then; assumption) | refine bl_alloc ?_ _ | refine bl_drew ?_ | refine bl_drewN ?_ _))⟩
          case rest =>
            obtain ⟨rfl, hY, hbd⟩ := hcut
            replace hB := hB.below hbd
            replace hZ := hZ.below hbd
            replace fhB := hB.facts
            replace fhZ := hZ.facts
            replace hM14 := hM14.below hbd
            replace hR14 := hR14.below hbd
            replace hX := hX.below hbd
            replace hbw14 : Below w.heap.size w wc := bl_then hbd hbw14
            clear hbd
            go_upto_if 117 with fail
            go_cut [20] from 23 (fun s20 wx => s20 = .int .i64 (twineR l a b) ∧ Below wc.heap.size wc wx)
            case first =>
              by_cases hE : twineE l a b = 0
              · have hE' : (twineE l a b == 0) = true := by rw [hE]; rfl
                obtain ⟨z1, z2, z3⟩ := firstI_zero3 hE
                have hlc := cwE_len z1
                obtain ⟨a1, a2⟩ := within_zero z2
                obtain ⟨b1, b2⟩ := within_zero z3
                obtain ⟨m, hm⟩ : ∃ m : Nat, l.length - 1 = m := ⟨_, rfl⟩
                have hmx : max (0 : Int) ((l.length : Int) - 1) = (m : Int) := by omega
                have HT : Hid (twineR l a b = (m : Int) * a + l.length * b) := by unfold Hid twineR; rw [if_pos hE, hmx]
                have p1 : 0 ≤ (m : Int) * a := Int.mul_nonneg (by omega) a1
                have p2 : (m : Int) * a ≤ 4097 * 100000 := Int.mul_le_mul (by omega) a2 a1 (by omega)
                have p3 : 0 ≤ (l.length : Int) * b := Int.mul_nonneg (by omega) b1
                have p4 : (l.length : Int) * b ≤ 4097 * 100000 := Int.mul_le_mul (by omega) b2 b1 (by omega)
                clear hE z1 z2 z3
                go_wp2_with fail
                go_meet
                case rel => exact ⟨by rw [HT.out], by (repeat (first | exact bl_refl | assumption | (apply bl_then; assumption) | refine bl_alloc ?_ _ | refine bl_drew ?_ | refine bl_drewN ?_ _))⟩
              · have hE' : (twineE l a b == 0) = false := by simpa using hE
                have HT : Hid (twineR l a b = 0) := by unfold Hid twineR; rw [if_neg hE]
                clear hE
                go_wp2_with fail
                go_meet
                case rel => exact ⟨by rw [HT.out], by (repeat (first | exact bl_refl | assumption | (apply bl_then; assumption) | refine bl_alloc ?_ _ | refine bl_drew ?_ | refine bl_drewN ?_ _))⟩
            case rest =>
              obtain ⟨rfl, hbe⟩ := hcut
              go_wp2_with fail
              refine (sameBars_any _ _ _ (hM14.below (by (repeat (first | exact bl_refl | assumption | (apply bl_then; assumption) | refine bl_alloc ?_ _ | refine bl_drew ?_ | refine bl_drewN ?_ _)))) (hX.below (by (repeat (first | exact bl_refl | assumption | (apply bl_then; assumption) | refine bl_alloc ?_ _ | refine bl_drew ?_ | refine bl_drewN ?_ _))))).mono ?_
              rintro e w16 ⟨rfl, hb16⟩
              go_wp2_with fail
              refine (sameBars_any _ _ _ ((hR14.below hbe).below (by (repeat (first | exact bl_refl | assumption | (apply bl_then; assumption) | refine bl_alloc ?_ _ | refine bl_drew ?_ | refine bl_drewN ?_ _)))) ((hY.below hbe).below (by (repeat (first | exact bl_refl | assumption | (apply bl_then; assumption) | refine bl_alloc ?_ _ | refine bl_drew ?_ | refine bl_drewN ?_ _))))).mono ?_
              rintro e w17 ⟨rfl, hb17⟩
              go_wp2_with fail
              refine (awake_any _).mono ?_
              rintro e w18 ⟨rfl, hb18⟩
              go_wp2
              go_ret
              exact ⟨rfl, by (repeat (first | exact bl_refl | assumption | (apply bl_then; assumption) | refine bl_alloc ?_ _ | refine bl_drew ?_ | refine bl_drewN ?_ _))⟩
    · go_wp2_with fail
      refine (awake_any _).mono ?_
      rintro e w2 ⟨rfl, hb2⟩
      go_wp2
      go_ret
      exact ⟨rfl, by (repeat (first | exact bl_refl | assumption | (apply bl_then; assumption) | refine bl_alloc ?_ _ | refine bl_drew ?_ | refine bl_drewN ?_ _))⟩
end Go.Proofs.YthcnngoaijgnoaaGreat

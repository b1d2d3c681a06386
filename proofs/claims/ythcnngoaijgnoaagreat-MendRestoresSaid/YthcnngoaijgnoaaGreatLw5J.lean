/- The statement MendTrims, walked. Conditions: slices that read as lists. -/
import Derived.Test.YthcnngoaijgnoaaGreatK11
import Derived.Test.YthcnngoaijgnoaaGreatPlcJ
namespace Go.Proofs.YthcnngoaijgnoaaGreat
open Go.RowKit Go.ChangeMaps
set_option maxHeartbeats 16000000
set_option maxRecDepth 100000

theorem first3_any (a b c : Int) (w : World) : Calls Tryz.prog 22 #[.slice (some ⟨w.heap.size, 0, none⟩) 3 3] (w.alloc (.cells #[.int .i64 a, .int .i64 b, .int .i64 c] 3)) (RV (w.alloc (.cells #[.int .i64 a, .int .i64 b, .int .i64 c] 3)) (.int .i64 (firstI [a, b, c]))) := by
  have hB := Blk.new w 3 #[.int .i64 a, .int .i64 b, .int .i64 c]
  exact lfirst_any [a, b, c] (some ⟨w.heap.size, 0, none⟩) 3 _ (by simp [maxLen]) (Rd.ints3 hB.lt (hB.cell 0) (hB.cell 1) (hB.cell 2))
theorem addAll_mem {T D : List Bar} (hn : D.Nodup) (x : Bar) : x ∈ addAll D T ↔ x ∈ D ∨ x ∈ T := by
  induction T generalizing D with
  | nil => simp [addAll]
  | cons b T ih =>
    show x ∈ addAll (dset D b true) T ↔ _
    rw [ih (dset_nodup hn b true), dset_mem hn, List.mem_cons]
    by_cases e : x = b <;> simp [e]
theorem addAll_nodup {T D : List Bar} (hn : D.Nodup) : (addAll D T).Nodup := by
  induction T generalizing D with
  | nil => exact hn
  | cons b T ih => exact ih (dset_nodup hn b true)
theorem trimE_some {N D T : List Bar} : trimE N D T = if tornE N D = 0 then (if someE T (wout N D) = 0 then whenI (!rdyB (addAll D T)) 21 else someE T (wout N D)) else tornE N D := by
  unfold trimE netsE
  rw [firstI_two]
  unfold someE
  by_cases h1 : tornE N D = 0
  · rw [if_pos h1, if_pos h1]
    by_cases h2 : netE T = 0
    · rw [if_pos h2, if_pos h2]
      cases unk T (wout N D) <;> rfl
    · rw [if_neg h2, if_neg h2, if_neg h2]
  · rw [if_neg h1, if_neg h1, if_neg h1]
theorem someE_ok {l a : List Bar} (h : someE l a = 0) : NetOk l ∧ ∀ b ∈ l, b ∈ a := by
  unfold someE at h
  split at h
  · rename_i h1
    refine ⟨netE_ok h1, fun b hb => ?_⟩
    cases hu : unk l a with
    | true => rw [hu] at h; cases h
    | false =>
      unfold unk at hu
      rw [List.any_eq_false] at hu
      have := hu b hb
      simpa [hasb] using this
  · rename_i h1; exact absurd h h1
theorem rdy_tog {D T : List Bar} (hD : D.Pairwise bltP) : rdyB (tog D T) = rdyB (addAll D T) := by
  have hm : ∀ b, b ∈ tog D T ↔ b ∈ addAll D T := fun b => by rw [tog_mem, addAll_mem (sortedB_nodup hD)]
  unfold rdyB
  rw [runO_congr hm (same_len (sortedB_nodup (tog_sorted _ _ hD)) (addAll_nodup (sortedB_nodup hD)) hm)]
theorem mendTrims_any {v u z : Value} (N D : List Bar) (m : Int) (l : List Bar) (w : World) (hN : SlB w v N) (hD : SlB w u D) (hl : SlB w z l) : Calls Tryz.prog 8 #[.agg #[v, u], .int .i64 m, z] w (RV w (.bool true)) := by
  have hl' := hl
  obtain ⟨A3, c3, rfl, hlc3, hcm3, hr3⟩ := hl'
  have hN' := hN
  obtain ⟨A1, c1, rfl, hlc1, hcm1, hr1⟩ := hN'
  have hD' := hD
  obtain ⟨A2, c2, rfl, hlc2, hcm2, hr2⟩ := hD'
  clear hr1 hr2 hr3
  have hl1 : N.length ≤ maxLen := Nat.le_trans hlc1 hcm1
  have hl2 : D.length ≤ maxLen := Nat.le_trans hlc2 hcm2
  have hl3 : l.length ≤ maxLen := Nat.le_trans hlc3 hcm3
  unfold maxLen at hl1 hl2 hl3
  have hB := Blk.new w 24 #[.slice A1 N.length c1, .slice A2 D.length c2]
  have fhB := hB.facts
  have hshort := fun W (hN : SlB W (.slice A1 N.length c1) N) (hD : SlB W (.slice A2 D.length c2) D) => short_any N D 70 W hN hD
  obtain ⟨qs, hqs⟩ : ∃ q, (decide ((N.length : Int) ≤ 70) && decide ((D.length : Int) ≤ 70)) = q := ⟨_, rfl⟩
  simp only [hqs] at hshort
  have HS0 : Hid (qs = false → (70 < N.length ∨ 70 < D.length)) := fun h => by rw [h] at hqs; simp at hqs; omega
  have HS1 : Hid (qs = true → (N.length ≤ 70 ∧ D.length ≤ 70)) := fun h => by rw [h] at hqs; simp at hqs; omega
  obtain ⟨bad, hbad⟩ : ∃ q, decide (70 < N.length ∨ 70 < D.length ∨ (30 < N.length ∧ N.length ≤ 64) ∨ 10 < D.length ∨ (2 < m ∧ m ≤ 4) ∨ 8 < l.length) = q := ⟨_, rfl⟩
  have HBAD : Hid (bad = true ↔ (70 < N.length ∨ 70 < D.length ∨ (30 < N.length ∧ N.length ≤ 64) ∨ 10 < D.length ∨ (2 < m ∧ m ≤ 4) ∨ 8 < l.length)) := by unfold Hid; rw [← hbad, decide_eq_true_eq]
  have hbadF : ¬ (70 < N.length ∨ 70 < D.length ∨ (30 < N.length ∧ N.length ≤ 64) ∨ 10 < D.length ∨ (2 < m ∧ m ≤ 4) ∨ 8 < l.length) → bad = false := fun h => by rw [← hbad, decide_eq_false h]
  have HBF := Lib.hid hbadF
  clear hqs hbad hbadF
  obtain ⟨w0, hw0⟩ : ∃ X, w.alloc (.cells #[.slice A1 N.length c1, .slice A2 D.length c2] 24) = X := ⟨_, rfl⟩
  have hb0 : Below w.heap.size w w0 := by rw [← hw0]; exact bl_alloc bl_refl _
  go_enter Tryz.func8, Tryz.ntmps8
  go_upto_region 1 with fail
  rw [hw0] at hB
  replace fhB := hB.facts
  clear hw0
  go_cut [49] from 16 (fun s wx => s = .bool bad ∧ Below w0.heap.size w0 wx)
  case first =>
    cases qs
    · have Hs : Hid (70 < N.length ∨ 70 < D.length) := HS0.out rfl
      go_wp2_with fail
      refine (hshort _ (hN.below (by (repeat (first | exact bl_refl | assumption | (apply bl_then; assumption) | refine bl_alloc ?_ _ | refine bl_drew ?_ | refine bl_drewN ?_ _)))) (hD.below (by (repeat (first | exact bl_refl | assumption | (apply bl_then; assumption) | refine bl_alloc ?_ _ | refine bl_drew ?_ | refine bl_drewN ?_ _))))).mono ?_
      rintro e w1 ⟨rfl, hb1⟩
      replace hB := hB.below (show Below _ _ w1 by (repeat (first | exact bl_refl | assumption | (apply bl_then; assumption) | refine bl_alloc ?_ _ | refine bl_drew ?_ | refine bl_drewN ?_ _)))
      replace fhB := hB.facts
      go_wp2_with fail
      go_meet
      case rel => first | exact ⟨by rw [show bad = true from HBAD.out.2 (by have := Hs.out; omega)], by (repeat (first | exact bl_refl | assumption | (apply bl_then; assumption) | refine bl_alloc ?_ _ | refine bl_drew ?_ | refine bl_drewN ?_ _))⟩ | exact ⟨by rw [show bad = false from HBF.out (by have := Hs.out; omega)], by (repeat (first | exact bl_refl | assumption | (apply bl_then; assumption) | refine bl_alloc ?_ _ | refine bl_drew ?_ | refine bl_drewN ?_ _))⟩
    · have hsz := HS1.out rfl
      by_cases g0 : 30 < N.length
      · have g0' : ((30 : Int) < (N.length : Int)) = True := by simp; omega
        by_cases g1 : N.length ≤ 64
        · have g1' : ((N.length : Int) ≤ 64) = True := by simp; omega
          have Hs : Hid ((N.length ≤ 70 ∧ D.length ≤ 70) ∧ 30 < N.length ∧ N.length ≤ 64) := ⟨hsz, g0, g1⟩
          clear g0 g1
          go_wp2_with fail
          refine (hshort _ (hN.below (by (repeat (first | exact bl_refl | assumption | (apply bl_then; assumption) | refine bl_alloc ?_ _ | refine bl_drew ?_ | refine bl_drewN ?_ _)))) (hD.below (by (repeat (first | exact bl_refl | assumption | (apply bl_then; assumption) | refine bl_alloc ?_ _ | refine bl_drew ?_ | refine bl_drewN ?_ _))))).mono ?_
          rintro e w1 ⟨rfl, hb1⟩
          replace hB := hB.below (show Below _ _ w1 by (repeat (first | exact bl_refl | assumption | (apply bl_then; assumption) | refine bl_alloc ?_ _ | refine bl_drew ?_ | refine bl_drewN ?_ _)))
          replace fhB := hB.facts
          go_wp2_with fail
          go_meet
          case rel => first | exact ⟨by rw [show bad = true from HBAD.out.2 (by have := Hs.out; omega)], by (repeat (first | exact bl_refl | assumption | (apply bl_then; assumption) | refine bl_alloc ?_ _ | refine bl_drew ?_ | refine bl_drewN ?_ _))⟩ | exact ⟨by rw [show bad = false from HBF.out (by have := Hs.out; omega)], by (repeat (first | exact bl_refl | assumption | (apply bl_then; assumption) | refine bl_alloc ?_ _ | refine bl_drew ?_ | refine bl_drewN ?_ _))⟩
        · have g1' : ((N.length : Int) ≤ 64) = False := by simp; omega
          by_cases g2 : 10 < D.length
          · have g2' : ((10 : Int) < (D.length : Int)) = True := by simp; omega
            have Hs : Hid ((N.length ≤ 70 ∧ D.length ≤ 70) ∧ 30 < N.length ∧ ¬ N.length ≤ 64 ∧ 10 < D.length) := ⟨hsz, g0, g1, g2⟩
            clear g0 g1 g2
            go_wp2_with fail
            refine (hshort _ (hN.below (by (repeat (first | exact bl_refl | assumption | (apply bl_then; assumption) | refine bl_alloc ?_ _ | refine bl_drew ?_ | refine bl_drewN ?_ _)))) (hD.below (by (repeat (first | exact bl_refl | assumption | (apply bl_then; assumption) | refine bl_alloc ?_ _ | refine bl_drew ?_ | refine bl_drewN ?_ _))))).mono ?_
            rintro e w1 ⟨rfl, hb1⟩
            replace hB := hB.below (show Below _ _ w1 by (repeat (first | exact bl_refl | assumption | (apply bl_then; assumption) | refine bl_alloc ?_ _ | refine bl_drew ?_ | refine bl_drewN ?_ _)))
            replace fhB := hB.facts
            go_wp2_with fail
            go_meet
            case rel => first | exact ⟨by rw [show bad = true from HBAD.out.2 (by have := Hs.out; omega)], by (repeat (first | exact bl_refl | assumption | (apply bl_then; assumption) | refine bl_alloc ?_ _ | refine bl_drew ?_ | refine bl_drewN ?_ _))⟩ | exact ⟨by rw [show bad = false from HBF.out (by have := Hs.out; omega)], by (repeat (first | exact bl_refl | assumption | (apply bl_then; assumption) | refine bl_alloc ?_ _ | refine bl_drew ?_ | refine bl_drewN ?_ _))⟩
          · have g2' : ((10 : Int) < (D.length : Int)) = False := by simp; omega
            by_cases g3 : 2 < m
            · have g3' : (2 < m) = True := by simp [g3]
              by_cases g4 : m ≤ 4
              · have g4' : (m ≤ 4) = True := by simp [g4]
                have Hs : Hid ((N.length ≤ 70 ∧ D.length ≤ 70) ∧ 30 < N.length ∧ ¬ N.length ≤ 64 ∧ ¬ 10 < D.length ∧ 2 < m ∧ m ≤ 4) := ⟨hsz, g0, g1, g2, g3, g4⟩
                clear g0 g1 g2 g3 g4
                go_wp2_with fail
                refine (hshort _ (hN.below (by (repeat (first | exact bl_refl | assumption | (apply bl_then; assumption) | refine bl_alloc ?_ _ | refine bl_drew ?_ | refine bl_drewN ?_ _)))) (hD.below (by (repeat (first | exact bl_refl | assumption | (apply bl_then; assumption) | refine bl_alloc ?_ _ | refine bl_drew ?_ | refine bl_drewN ?_ _))))).mono ?_
                rintro e w1 ⟨rfl, hb1⟩
                replace hB := hB.below (show Below _ _ w1 by (repeat (first | exact bl_refl | assumption | (apply bl_then; assumption) | refine bl_alloc ?_ _ | refine bl_drew ?_ | refine bl_drewN ?_ _)))
                replace fhB := hB.facts
                go_wp2_with fail
                go_meet
                case rel => first | exact ⟨by rw [show bad = true from HBAD.out.2 (by have := Hs.out; omega)], by (repeat (first | exact bl_refl | assumption | (apply bl_then; assumption) | refine bl_alloc ?_ _ | refine bl_drew ?_ | refine bl_drewN ?_ _))⟩ | exact ⟨by rw [show bad = false from HBF.out (by have := Hs.out; omega)], by (repeat (first | exact bl_refl | assumption | (apply bl_then; assumption) | refine bl_alloc ?_ _ | refine bl_drew ?_ | refine bl_drewN ?_ _))⟩
              · have g4' : (m ≤ 4) = False := by simp; omega
                by_cases g5 : 8 < l.length
                · have g5' : ((8 : Int) < (l.length : Int)) = True := by simp; omega
                  have Hs : Hid ((N.length ≤ 70 ∧ D.length ≤ 70) ∧ 30 < N.length ∧ ¬ N.length ≤ 64 ∧ ¬ 10 < D.length ∧ 2 < m ∧ ¬ m ≤ 4 ∧ 8 < l.length) := ⟨hsz, g0, g1, g2, g3, g4, g5⟩
                  clear g0 g1 g2 g3 g4 g5
                  go_wp2_with fail
                  refine (hshort _ (hN.below (by (repeat (first | exact bl_refl | assumption | (apply bl_then; assumption) | refine bl_alloc ?_ _ | refine bl_drew ?_ | refine bl_drewN ?_ _)))) (hD.below (by (repeat (first | exact bl_refl | assumption | (apply bl_then; assumption) | refine bl_alloc ?_ _ | refine bl_drew ?_ | refine bl_drewN ?_ _))))).mono ?_
                  rintro e w1 ⟨rfl, hb1⟩
                  replace hB := hB.below (show Below _ _ w1 by (repeat (first | exact bl_refl | assumption | (apply bl_then; assumption) | refine bl_alloc ?_ _ | refine bl_drew ?_ | refine bl_drewN ?_ _)))
                  replace fhB := hB.facts
                  go_wp2_with fail
                  go_meet
                  case rel => first | exact ⟨by rw [show bad = true from HBAD.out.2 (by have := Hs.out; omega)], by (repeat (first | exact bl_refl | assumption | (apply bl_then; assumption) | refine bl_alloc ?_ _ | refine bl_drew ?_ | refine bl_drewN ?_ _))⟩ | exact ⟨by rw [show bad = false from HBF.out (by have := Hs.out; omega)], by (repeat (first | exact bl_refl | assumption | (apply bl_then; assumption) | refine bl_alloc ?_ _ | refine bl_drew ?_ | refine bl_drewN ?_ _))⟩
                · have g5' : ((8 : Int) < (l.length : Int)) = False := by simp; omega
                  have Hs : Hid ((N.length ≤ 70 ∧ D.length ≤ 70) ∧ 30 < N.length ∧ ¬ N.length ≤ 64 ∧ ¬ 10 < D.length ∧ 2 < m ∧ ¬ m ≤ 4 ∧ ¬ 8 < l.length) := ⟨hsz, g0, g1, g2, g3, g4, g5⟩
                  clear g0 g1 g2 g3 g4 g5
                  go_wp2_with fail
                  refine (hshort _ (hN.below (by (repeat (first | exact bl_refl | assumption | (apply bl_then; assumption) | refine bl_alloc ?_ _ | refine bl_drew ?_ | refine bl_drewN ?_ _)))) (hD.below (by (repeat (first | exact bl_refl | assumption | (apply bl_then; assumption) | refine bl_alloc ?_ _ | refine bl_drew ?_ | refine bl_drewN ?_ _))))).mono ?_
                  rintro e w1 ⟨rfl, hb1⟩
                  replace hB := hB.below (show Below _ _ w1 by (repeat (first | exact bl_refl | assumption | (apply bl_then; assumption) | refine bl_alloc ?_ _ | refine bl_drew ?_ | refine bl_drewN ?_ _)))
                  replace fhB := hB.facts
                  go_wp2_with fail
                  go_meet
                  case rel => first | exact ⟨by rw [show bad = true from HBAD.out.2 (by have := Hs.out; omega)], by (repeat (first | exact bl_refl | assumption | (apply bl_then; assumption) | refine bl_alloc ?_ _ | refine bl_drew ?_ | refine bl_drewN ?_ _))⟩ | exact ⟨by rw [show bad = false from HBF.out (by have := Hs.out; omega)], by (repeat (first | exact bl_refl | assumption | (apply bl_then; assumption) | refine bl_alloc ?_ _ | refine bl_drew ?_ | refine bl_drewN ?_ _))⟩
            · have g3' : (2 < m) = False := by simp; omega
              by_cases g5 : 8 < l.length
              · have g5' : ((8 : Int) < (l.length : Int)) = True := by simp; omega
                have Hs : Hid ((N.length ≤ 70 ∧ D.length ≤ 70) ∧ 30 < N.length ∧ ¬ N.length ≤ 64 ∧ ¬ 10 < D.length ∧ ¬ 2 < m ∧ 8 < l.length) := ⟨hsz, g0, g1, g2, g3, g5⟩
                clear g0 g1 g2 g3 g5
                go_wp2_with fail
                refine (hshort _ (hN.below (by (repeat (first | exact bl_refl | assumption | (apply bl_then; assumption) | refine bl_alloc ?_ _ | refine bl_drew ?_ | refine bl_drewN ?_ _)))) (hD.below (by (repeat (first | exact bl_refl | assumption | (apply bl_then; assumption) | refine bl_alloc ?_ _ | refine bl_drew ?_ | refine bl_drewN ?_ _))))).mono ?_
                rintro e w1 ⟨rfl, hb1⟩
                replace hB := hB.below (show Below _ _ w1 by (repeat (first | exact bl_refl | assumption | (apply bl_then; assumption) | refine bl_alloc ?_ _ | refine bl_drew ?_ | refine bl_drewN ?_ _)))
                replace fhB := hB.facts
                go_wp2_with fail
                go_meet
                case rel => first | exact ⟨by rw [show bad = true from HBAD.out.2 (by have := Hs.out; omega)], by (repeat (first | exact bl_refl | assumption | (apply bl_then; assumption) | refine bl_alloc ?_ _ | refine bl_drew ?_ | refine bl_drewN ?_ _))⟩ | exact ⟨by rw [show bad = false from HBF.out (by have := Hs.out; omega)], by (repeat (first | exact bl_refl | assumption | (apply bl_then; assumption) | refine bl_alloc ?_ _ | refine bl_drew ?_ | refine bl_drewN ?_ _))⟩
              · have g5' : ((8 : Int) < (l.length : Int)) = False := by simp; omega
                have Hs : Hid ((N.length ≤ 70 ∧ D.length ≤ 70) ∧ 30 < N.length ∧ ¬ N.length ≤ 64 ∧ ¬ 10 < D.length ∧ ¬ 2 < m ∧ ¬ 8 < l.length) := ⟨hsz, g0, g1, g2, g3, g5⟩
                clear g0 g1 g2 g3 g5
                go_wp2_with fail
                refine (hshort _ (hN.below (by (repeat (first | exact bl_refl | assumption | (apply bl_then; assumption) | refine bl_alloc ?_ _ | refine bl_drew ?_ | refine bl_drewN ?_ _)))) (hD.below (by (repeat (first | exact bl_refl | assumption | (apply bl_then; assumption) | refine bl_alloc ?_ _ | refine bl_drew ?_ | refine bl_drewN ?_ _))))).mono ?_
                rintro e w1 ⟨rfl, hb1⟩
                replace hB := hB.below (show Below _ _ w1 by (repeat (first | exact bl_refl | assumption | (apply bl_then; assumption) | refine bl_alloc ?_ _ | refine bl_drew ?_ | refine bl_drewN ?_ _)))
                replace fhB := hB.facts
                go_wp2_with fail
                go_meet
                case rel => first | exact ⟨by rw [show bad = true from HBAD.out.2 (by have := Hs.out; omega)], by (repeat (first | exact bl_refl | assumption | (apply bl_then; assumption) | refine bl_alloc ?_ _ | refine bl_drew ?_ | refine bl_drewN ?_ _))⟩ | exact ⟨by rw [show bad = false from HBF.out (by have := Hs.out; omega)], by (repeat (first | exact bl_refl | assumption | (apply bl_then; assumption) | refine bl_alloc ?_ _ | refine bl_drew ?_ | refine bl_drewN ?_ _))⟩
      · have g0' : ((30 : Int) < (N.length : Int)) = False := by simp; omega
        by_cases g2 : 10 < D.length
        · have g2' : ((10 : Int) < (D.length : Int)) = True := by simp; omega
          have Hs : Hid ((N.length ≤ 70 ∧ D.length ≤ 70) ∧ ¬ 30 < N.length ∧ 10 < D.length) := ⟨hsz, g0, g2⟩
          clear g0 g2
          go_wp2_with fail
          refine (hshort _ (hN.below (by (repeat (first | exact bl_refl | assumption | (apply bl_then; assumption) | refine bl_alloc ?_ _ | refine bl_drew ?_ | refine bl_drewN ?_ _)))) (hD.below (by (repeat (first | exact bl_refl | assumption | (apply bl_then; assumption) | refine bl_alloc ?_ _ | refine bl_drew ?_ | refine bl_drewN ?_ _))))).mono ?_
          rintro e w1 ⟨rfl, hb1⟩
          replace hB := hB.below (show Below _ _ w1 by (repeat (first | exact bl_refl | assumption | (apply bl_then; assumption) | refine bl_alloc ?_ _ | refine bl_drew ?_ | refine bl_drewN ?_ _)))
          replace fhB := hB.facts
          go_wp2_with fail
          go_meet
          case rel => first | exact ⟨by rw [show bad = true from HBAD.out.2 (by have := Hs.out; omega)], by (repeat (first | exact bl_refl | assumption | (apply bl_then; assumption) | refine bl_alloc ?_ _ | refine bl_drew ?_ | refine bl_drewN ?_ _))⟩ | exact ⟨by rw [show bad = false from HBF.out (by have := Hs.out; omega)], by (repeat (first | exact bl_refl | assumption | (apply bl_then; assumption) | refine bl_alloc ?_ _ | refine bl_drew ?_ | refine bl_drewN ?_ _))⟩
        · have g2' : ((10 : Int) < (D.length : Int)) = False := by simp; omega
          by_cases g3 : 2 < m
          · have g3' : (2 < m) = True := by simp [g3]
            by_cases g4 : m ≤ 4
            · have g4' : (m ≤ 4) = True := by simp [g4]
              have Hs : Hid ((N.length ≤ 70 ∧ D.length ≤ 70) ∧ ¬ 30 < N.length ∧ ¬ 10 < D.length ∧ 2 < m ∧ m ≤ 4) := ⟨hsz, g0, g2, g3, g4⟩
              clear g0 g2 g3 g4
              go_wp2_with fail
              refine (hshort _ (hN.below (by (repeat (first | exact bl_refl | assumption | (apply bl_then; assumption) | refine bl_alloc ?_ _ | refine bl_drew ?_ | refine bl_drewN ?_ _)))) (hD.below (by (repeat (first | exact bl_refl | assumption | (apply bl_then; assumption) | refine bl_alloc ?_ _ | refine bl_drew ?_ | refine bl_drewN ?_ _))))).mono ?_
              rintro e w1 ⟨rfl, hb1⟩
              replace hB := hB.below (show Below _ _ w1 by (repeat (first | exact bl_refl | assumption | (apply bl_then; assumption) | refine bl_alloc ?_ _ | refine bl_drew ?_ | refine bl_drewN ?_ _)))
              replace fhB := hB.facts
              go_wp2_with fail
              go_meet
              case rel => first | exact ⟨by rw [show bad = true from HBAD.out.2 (by have := Hs.out; omega)], by (repeat (first | exact bl_refl | assumption | (apply bl_then; assumption) | refine bl_alloc ?_ _ | refine bl_drew ?_ | refine bl_drewN ?_ _))⟩ | exact ⟨by rw [show bad = false from HBF.out (by have := Hs.out; omega)], by (repeat (first | exact bl_refl | assumption | (apply bl_then; assumption) | refine bl_alloc ?_ _ | refine bl_drew ?_ | refine bl_drewN ?_ _))⟩
            · have g4' : (m ≤ 4) = False := by simp; omega
              by_cases g5 : 8 < l.length
              · have g5' : ((8 : Int) < (l.length : Int)) = True := by simp; omega
                have Hs : Hid ((N.length ≤ 70 ∧ D.length ≤ 70) ∧ ¬ 30 < N.length ∧ ¬ 10 < D.length ∧ 2 < m ∧ ¬ m ≤ 4 ∧ 8 < l.length) := ⟨hsz, g0, g2, g3, g4, g5⟩
                clear g0 g2 g3 g4 g5
                go_wp2_with fail
                refine (hshort _ (hN.below (by (repeat (first | exact bl_refl | assumption | (apply bl_then; assumption) | refine bl_alloc ?_ _ | refine bl_drew ?_ | refine bl_drewN ?_ _)))) (hD.below (by (repeat (first | exact bl_refl | assumption | (apply bl_then; assumption) | refine bl_alloc ?_ _ | refine bl_drew ?_ | refine bl_drewN ?_ _))))).mono ?_
                rintro e w1 ⟨rfl, hb1⟩
                replace hB := hB.below (show Below _ _ w1 by (repeat (first | exact bl_refl | assumption | (apply bl_then; assumption) | refine bl_alloc ?_ _ | refine bl_drew ?_ | refine bl_drewN ?_ _)))
                replace fhB := hB.facts
                go_wp2_with fail
                go_meet
                case rel => first | exact ⟨by rw [show bad = true from HBAD.out.2 (by have := Hs.out; omega)], by (repeat (first | exact bl_refl | assumption | (apply bl_then; assumption) | refine bl_alloc ?_ _ | refine bl_drew ?_ | refine bl_drewN ?_ _))⟩ | exact ⟨by rw [show bad = false from HBF.out (by have := Hs.out; omega)], by (repeat (first | exact bl_refl | assumption | (apply bl_then; assumption) | refine bl_alloc ?_ _ | refine bl_drew ?_ | refine bl_drewN ?_ _))⟩
              · have g5' : ((8 : Int) < (l.length : Int)) = False := by simp; omega
                have Hs : Hid ((N.length ≤ 70 ∧ D.length ≤ 70) ∧ ¬ 30 < N.length ∧ ¬ 10 < D.length ∧ 2 < m ∧ ¬ m ≤ 4 ∧ ¬ 8 < l.length) := ⟨hsz, g0, g2, g3, g4, g5⟩
                clear g0 g2 g3 g4 g5
                go_wp2_with fail
                refine (hshort _ (hN.below (by (repeat (first | exact bl_refl | assumption | (apply bl_then; assumption) | refine bl_alloc ?_ _ | refine bl_drew ?_ | refine bl_drewN ?_ _)))) (hD.below (by (repeat (first | exact bl_refl | assumption | (apply bl_then; assumption) | refine bl_alloc ?_ _ | refine bl_drew ?_ | refine bl_drewN ?_ _))))).mono ?_
                rintro e w1 ⟨rfl, hb1⟩
                replace hB := hB.below (show Below _ _ w1 by (repeat (first | exact bl_refl | assumption | (apply bl_then; assumption) | refine bl_alloc ?_ _ | refine bl_drew ?_ | refine bl_drewN ?_ _)))
                replace fhB := hB.facts
                go_wp2_with fail
                go_meet
                case rel => first | exact ⟨by rw [show bad = true from HBAD.out.2 (by have := Hs.out; omega)], by (repeat (first | exact bl_refl | assumption | (apply bl_then; assumption) | refine bl_alloc ?_ _ | refine bl_drew ?_ | refine bl_drewN ?_ _))⟩ | exact ⟨by rw [show bad = false from HBF.out (by have := Hs.out; omega)], by (repeat (first | exact bl_refl | assumption | (apply bl_then; assumption) | refine bl_alloc ?_ _ | refine bl_drew ?_ | refine bl_drewN ?_ _))⟩
          · have g3' : (2 < m) = False := by simp; omega
            by_cases g5 : 8 < l.length
            · have g5' : ((8 : Int) < (l.length : Int)) = True := by simp; omega
              have Hs : Hid ((N.length ≤ 70 ∧ D.length ≤ 70) ∧ ¬ 30 < N.length ∧ ¬ 10 < D.length ∧ ¬ 2 < m ∧ 8 < l.length) := ⟨hsz, g0, g2, g3, g5⟩
              clear g0 g2 g3 g5
              go_wp2_with fail
              refine (hshort _ (hN.below (by (repeat (first | exact bl_refl | assumption | (apply bl_then; assumption) | refine bl_alloc ?_ _ | refine bl_drew ?_ | refine bl_drewN ?_ _)))) (hD.below (by (repeat (first | exact bl_refl | assumption | (apply bl_then; assumption) | refine bl_alloc ?_ _ | refine bl_drew ?_ | refine bl_drewN ?_ _))))).mono ?_
              rintro e w1 ⟨rfl, hb1⟩
              replace hB := hB.below (show Below _ _ w1 by (repeat (first | exact bl_refl | assumption | (apply bl_then; assumption) | refine bl_alloc ?_ _ | refine bl_drew ?_ | refine bl_drewN ?_ _)))
              replace fhB := hB.facts
              go_wp2_with fail
              go_meet
              case rel => first | exact ⟨by rw [show bad = true from HBAD.out.2 (by have := Hs.out; omega)], by (repeat (first | exact bl_refl | assumption | (apply bl_then; assumption) | refine bl_alloc ?_ _ | refine bl_drew ?_ | refine bl_drewN ?_ _))⟩ | exact ⟨by rw [show bad = false from HBF.out (by have := Hs.out; omega)], by (repeat (first | exact bl_refl | assumption | (apply bl_then; assumption) | refine bl_alloc ?_ _ | refine bl_drew ?_ | refine bl_drewN ?_ _))⟩
            · have g5' : ((8 : Int) < (l.length : Int)) = False := by simp; omega
              have Hs : Hid ((N.length ≤ 70 ∧ D.length ≤ 70) ∧ ¬ 30 < N.length ∧ ¬ 10 < D.length ∧ ¬ 2 < m ∧ ¬ 8 < l.length) := ⟨hsz, g0, g2, g3, g5⟩
              clear g0 g2 g3 g5
              go_wp2_with fail
              refine (hshort _ (hN.below (by (repeat (first | exact bl_refl | assumption | (apply bl_then; assumption) | refine bl_alloc ?_ _ | refine bl_drew ?_ | refine bl_drewN ?_ _)))) (hD.below (by (repeat (first | exact bl_refl | assumption | (apply bl_then; assumption) | refine bl_alloc ?_ _ | refine bl_drew ?_ | refine bl_drewN ?_ _))))).mono ?_
              rintro e w1 ⟨rfl, hb1⟩
              replace hB := hB.below (show Below _ _ w1 by (repeat (first | exact bl_refl | assumption | (apply bl_then; assumption) | refine bl_alloc ?_ _ | refine bl_drew ?_ | refine bl_drewN ?_ _)))
              replace fhB := hB.facts
              go_wp2_with fail
              go_meet
              case rel => first | exact ⟨by rw [show bad = true from HBAD.out.2 (by have := Hs.out; omega)], by (repeat (first | exact bl_refl | assumption | (apply bl_then; assumption) | refine bl_alloc ?_ _ | refine bl_drew ?_ | refine bl_drewN ?_ _))⟩ | exact ⟨by rw [show bad = false from HBF.out (by have := Hs.out; omega)], by (repeat (first | exact bl_refl | assumption | (apply bl_then; assumption) | refine bl_alloc ?_ _ | refine bl_drew ?_ | refine bl_drewN ?_ _))⟩
  case rest =>
    obtain ⟨rfl, hbc⟩ := hcut
    replace hB := hB.below hbc
    replace fhB := hB.facts
    have hbwc : Below w.heap.size w wc := bl_then hbc hb0
    clear hbc hb0 hshort HS0 HS1
    cases bad
    · have hsz : N.length ≤ 70 ∧ D.length ≤ 10 ∧ l.length ≤ 8 ∧ (m ≤ 2 ∨ 4 < m) := by
        have h := HBAD.out
        have : ¬ (70 < N.length ∨ 70 < D.length ∨ (30 < N.length ∧ N.length ≤ 64) ∨ 10 < D.length ∨ (2 < m ∧ m ≤ 4) ∨ 8 < l.length) := fun x => by have := h.2 x; cases this
        omega
      clear HBAD HBF
      go_wp2_with fail
      refine (torn_any N D _ (hN.below (by (repeat (first | exact bl_refl | assumption | (apply bl_then; assumption) | refine bl_alloc ?_ _ | refine bl_drew ?_ | refine bl_drewN ?_ _)))) (hD.below (by (repeat (first | exact bl_refl | assumption | (apply bl_then; assumption) | refine bl_alloc ?_ _ | refine bl_drew ?_ | refine bl_drewN ?_ _)))) (by omega) (by omega)).mono ?_
      rintro e w2 ⟨v2, u2, rfl, hN2, hD2, hb2⟩
      replace hB := hB.below (show Below _ _ w2 by (repeat (first | exact bl_refl | assumption | (apply bl_then; assumption) | refine bl_alloc ?_ _ | refine bl_drew ?_ | refine bl_drewN ?_ _)))
      replace fhB := hB.facts
      go_wp2_with fail
      refine (trim_any N D m _ (hN2.rd bc_len) (hD2.rd bc_len)).mono ?_
      rintro e w3 ⟨v3, rfl, hL3, hb3⟩
      replace hB := hB.below (show Below _ _ w3 by (repeat (first | exact bl_refl | assumption | (apply bl_then; assumption) | refine bl_alloc ?_ _ | refine bl_drew ?_ | refine bl_drewN ?_ _)))
      replace fhB := hB.facts
      obtain ⟨A4, c4, rfl⟩ := hL3.shape
      have hbw3 : Below w.heap.size w w3 := by (repeat (first | exact bl_refl | assumption | (apply bl_then; assumption) | refine bl_alloc ?_ _ | refine bl_drew ?_ | refine bl_drewN ?_ _))
      clear hN2 hD2 hb2 hb3 hbwc
      go_wp2_with fail
      refine (torn_any N D _ (hN.below (by (repeat (first | exact bl_refl | assumption | (apply bl_then; assumption) | refine bl_alloc ?_ _ | refine bl_drew ?_ | refine bl_drewN ?_ _)))) (hD.below (by (repeat (first | exact bl_refl | assumption | (apply bl_then; assumption) | refine bl_alloc ?_ _ | refine bl_drew ?_ | refine bl_drewN ?_ _)))) (by omega) (by omega)).mono ?_
      rintro e w4 ⟨v4, u4, rfl, hN4, hD4, hb4⟩
      replace hB := hB.below (show Below _ _ w4 by (repeat (first | exact bl_refl | assumption | (apply bl_then; assumption) | refine bl_alloc ?_ _ | refine bl_drew ?_ | refine bl_drewN ?_ _)))
      replace fhB := hB.facts
      go_wp2_with fail
      refine (bars_any l _ (hl.below (by (repeat (first | exact bl_refl | assumption | (apply bl_then; assumption) | refine bl_alloc ?_ _ | refine bl_drew ?_ | refine bl_drewN ?_ _)))) (by omega)).mono ?_
      rintro e w5 ⟨v5, rfl, hP5, hb5⟩
      replace hB := hB.below (show Below _ _ w5 by (repeat (first | exact bl_refl | assumption | (apply bl_then; assumption) | refine bl_alloc ?_ _ | refine bl_drew ?_ | refine bl_drewN ?_ _)))
      replace fhB := hB.facts
      go_wp2_with fail
      refine (checkTrim_any N D l _ ((hN4.rd bc_len).below (by (repeat (first | exact bl_refl | assumption | (apply bl_then; assumption) | refine bl_alloc ?_ _ | refine bl_drew ?_ | refine bl_drewN ?_ _)))) ((hD4.rd bc_len).below (by (repeat (first | exact bl_refl | assumption | (apply bl_then; assumption) | refine bl_alloc ?_ _ | refine bl_drew ?_ | refine bl_drewN ?_ _)))) (hP5.rd bc_len)).mono ?_
      rintro e w6 ⟨rfl, hb6⟩
      replace hB := hB.below (show Below _ _ w6 by (repeat (first | exact bl_refl | assumption | (apply bl_then; assumption) | refine bl_alloc ?_ _ | refine bl_drew ?_ | refine bl_drewN ?_ _)))
      replace fhB := hB.facts
      clear hN4 hD4 hP5
      go_wp2_with fail
      refine (rtorn_any N D _ (hN.below (by (repeat (first | exact bl_refl | assumption | (apply bl_then; assumption) | refine bl_alloc ?_ _ | refine bl_drew ?_ | refine bl_drewN ?_ _)))) (hD.below (by (repeat (first | exact bl_refl | assumption | (apply bl_then; assumption) | refine bl_alloc ?_ _ | refine bl_drew ?_ | refine bl_drewN ?_ _))))).mono ?_
      rintro e w7 ⟨rfl, hb7⟩
      replace hB := hB.below (show Below _ _ w7 by (repeat (first | exact bl_refl | assumption | (apply bl_then; assumption) | refine bl_alloc ?_ _ | refine bl_drew ?_ | refine bl_drewN ?_ _)))
      replace fhB := hB.facts
      go_wp2_with fail
      refine wp_region_ords [0, 1, 4, 5, 6, 7] [(2, false), (3, false), (8, false)] [9, 10, 11] (by kernel_rfl) (by kernel_rfl) (fun d _ _ _ _ h => by cases d <;> exact h) ?_
      simp only [List.map_cons, List.map_nil, List.getD_cons_zero, List.getD_cons_succ]
      repeat (go_big_quiet_step (fail))
      refine wpQuiet_nil ?_
      refine wpMid_run rfl (fun K hK => ?_)
      go_simp
      refine (outside_any m 0 4 _).mono ?_
      rintro e w8 ⟨rfl, hb8⟩
      refine hK _ _ (by (repeat (first | exact bl_refl | assumption | (apply bl_then; assumption) | refine bl_alloc ?_ _ | refine bl_drew ?_ | refine bl_drewN ?_ _))) ?_
      clear hK K
      refine wpMid_run rfl (fun K hK => ?_)
      go_simp
      refine (lwhen_any _ 3 _).mono ?_
      rintro e w9 ⟨rfl, hb9⟩
      refine hK _ _ (by (repeat (first | exact bl_refl | assumption | (apply bl_then; assumption) | refine bl_alloc ?_ _ | refine bl_drew ?_ | refine bl_drewN ?_ _))) ?_
      clear hK K
      refine wpMid_run rfl (fun K hK => ?_)
      go_simp
      refine (lwhen_any _ 22 _).mono ?_
      rintro e w10 ⟨rfl, hb10⟩
      refine hK _ _ (by (repeat (first | exact bl_refl | assumption | (apply bl_then; assumption) | refine bl_alloc ?_ _ | refine bl_drew ?_ | refine bl_drewN ?_ _))) ?_
      clear hK K
      refine wpMid_nil ?_
      go_wp2_with fail
      refine (first3_any (tornE N D) _ _ _).mono ?_
      rintro e w11 ⟨rfl, hb11⟩
      rw [show firstI [tornE N D, whenI (decide (m < 0) || decide (4 < m)) 3, whenI (decide ((64 : Int) < (N.length : Int))) 22] = leastP N D m from rfl]
      have hL11 : SlB w11 _ _ := (hL3.rd bc_len).below (by (repeat (first | exact bl_refl | assumption | (apply bl_then; assumption) | refine bl_alloc ?_ _ | refine bl_drew ?_ | refine bl_drewN ?_ _)))
      replace hB := hB.below (show Below _ _ w11 by (repeat (first | exact bl_refl | assumption | (apply bl_then; assumption) | refine bl_alloc ?_ _ | refine bl_drew ?_ | refine bl_drewN ?_ _)))
      replace fhB := hB.facts
      have hbw11 : Below w.heap.size w w11 := by (repeat (first | exact bl_refl | assumption | (apply bl_then; assumption) | refine bl_alloc ?_ _ | refine bl_drew ?_ | refine bl_drewN ?_ _))
      clear hL3 hb4 hb5 hb6 hb7 hb8 hb9 hb10 hb11 hbw3
      go_upto_if 78 with fail
      go_cut [11, 13] from 16 (fun s11 s13 wx => s11 = .int .i64 (leastE N D m) ∧ SlB wx s13 (leastL N D m) ∧ Below w11.heap.size w11 wx)
      case first =>
        by_cases hE : leastP N D m = 0
        · have hE' : (leastP N D m == 0) = true := by rw [hE]; rfl
          obtain ⟨z1, z2, _⟩ := firstI_zero3 hE
          have hok := torn_ok z1
          obtain ⟨m1, m2⟩ := within_zero z2
          obtain ⟨k, rfl⟩ : ∃ k : Nat, m = k := ⟨m.toNat, by omega⟩
          have HO : Hid (leastO N D k = rtrF D (wout N D) (k + 1) 0) := by
            unfold Hid leastO
            rw [Int.toNat_natCast, trimF_rtrF hok]
          have HL : Hid (leastE N D k = whenI (rtrF D (wout N D) (k + 1) 0).isNone 23 ∧ leastL N D k = (rtrF D (wout N D) (k + 1) 0).getD []) := by
            have h1 : leastE N D k = whenI (rtrF D (wout N D) (k + 1) 0).isNone 23 := by
              unfold leastE
              rw [if_pos hE, HO.out]
              cases rtrF D (wout N D) (k + 1) 0 <;> rfl
            refine ⟨h1, ?_⟩
            unfold leastL
            rw [h1, HO.out]
            cases rtrF D (wout N D) (k + 1) 0 <;> rfl
          clear hE z1 z2
          go_wp2_with fail
          refine (rtrim_any N D k (by omega) _ (hN.below (by (repeat (first | exact bl_refl | assumption | (apply bl_then; assumption) | refine bl_alloc ?_ _ | refine bl_drew ?_ | refine bl_drewN ?_ _)))) (hD.below (by (repeat (first | exact bl_refl | assumption | (apply bl_then; assumption) | refine bl_alloc ?_ _ | refine bl_drew ?_ | refine bl_drewN ?_ _)))) hok.net.ok hok.dam.ok (by omega) (by omega)).mono ?_
          rintro e w12 ⟨v12, rfl, hX12, hb12⟩
          obtain ⟨A5, c5, rfl⟩ := hX12.shape
          go_wp2_with fail
          refine (lwhen_any (rtrF D (wout N D) (k + 1) 0).isNone 23 _).mono ?_
          rintro e w13 ⟨rfl, hb13⟩
          go_wp2_with fail
          go_meet
          case rel => exact ⟨by rw [HL.out.1], by rw [HL.out.2]; exact (hX12.rd bc_len).below (by (repeat (first | exact bl_refl | assumption | (apply bl_then; assumption) | refine bl_alloc ?_ _ | refine bl_drew ?_ | refine bl_drewN ?_ _))), by (repeat (first | exact bl_refl | assumption | (apply bl_then; assumption) | refine bl_alloc ?_ _ | refine bl_drew ?_ | refine bl_drewN ?_ _))⟩
        · have hE' : (leastP N D m == 0) = false := by simpa using hE
          have HL : Hid (leastE N D m = leastP N D m ∧ leastL N D m = []) := by
            have h1 : leastE N D m = leastP N D m := by unfold leastE; rw [if_neg hE]
            refine ⟨h1, ?_⟩
            unfold leastL
            rw [h1, if_neg hE]
          clear hE
          go_wp2_with fail
          go_meet
          case rel => exact ⟨by rw [HL.out.1], by rw [HL.out.2]; exact Sl.nil_, by (repeat (first | exact bl_refl | assumption | (apply bl_then; assumption) | refine bl_alloc ?_ _ | refine bl_drew ?_ | refine bl_drewN ?_ _))⟩
      case rest =>
        obtain ⟨rfl, hX, hbd⟩ := hcut
        replace hB := hB.below hbd
        replace fhB := hB.facts
        replace hL11 := hL11.below hbd
        replace hbw11 : Below w.heap.size w wc := bl_then hbd hbw11
        clear hbd
        go_upto_if 90 with fail
        go_cut [12] from 16 (fun s12 wx => s12 = .int .i64 (trimE N D l) ∧ Below wc.heap.size wc wx)
        case first =>
          by_cases hE : tornE N D = 0
          · have hE' : (tornE N D == 0) = true := by rw [hE]; rfl
            have hok := torn_ok hE
            have HT : Hid (trimE N D l = if someE l (wout N D) = 0 then whenI (!rdyB (addAll D l)) 21 else someE l (wout N D)) := by unfold Hid; rw [trimE_some, if_pos hE]
            have HRD : Hid (rdyB (tog D l) = rdyB (addAll D l)) := rdy_tog hok.dam.sorted
            clear hE
            go_wp2_with fail
            refine (rsound_any N D _ (hN.below (by (repeat (first | exact bl_refl | assumption | (apply bl_then; assumption) | refine bl_alloc ?_ _ | refine bl_drew ?_ | refine bl_drewN ?_ _)))) (hD.below (by (repeat (first | exact bl_refl | assumption | (apply bl_then; assumption) | refine bl_alloc ?_ _ | refine bl_drew ?_ | refine bl_drewN ?_ _)))) (by omega)).mono ?_
            rintro e w12 ⟨v12, rfl, hX12, hb12⟩
            replace hB := hB.below (show Below _ _ w12 by (repeat (first | exact bl_refl | assumption | (apply bl_then; assumption) | refine bl_alloc ?_ _ | refine bl_drew ?_ | refine bl_drewN ?_ _)))
            replace fhB := hB.facts
            go_wp2_with fail
            refine (rsome_any l (wout N D) _ (hl.below (by (repeat (first | exact bl_refl | assumption | (apply bl_then; assumption) | refine bl_alloc ?_ _ | refine bl_drew ?_ | refine bl_drewN ?_ _)))) (hX12.rd bc_len)).mono ?_
            rintro e w13 ⟨rfl, hb13⟩
            replace hB := hB.below (show Below _ _ w13 by (repeat (first | exact bl_refl | assumption | (apply bl_then; assumption) | refine bl_alloc ?_ _ | refine bl_drew ?_ | refine bl_drewN ?_ _)))
            replace fhB := hB.facts
            by_cases h2 : someE l (wout N D) = 0
            · have h2' : (someE l (wout N D) == 0) = true := by rw [h2]; rfl
              have hln := (someE_ok h2).1
              have HT2 : Hid (trimE N D l = whenI (!rdyB (tog D l)) 21) := by unfold Hid; rw [HT.out, if_pos h2, HRD.out]
              have htk : ∀ b ∈ tog D l, BarOk b := fun b hb => by
                rcases (tog_mem b l D).1 hb with h | h
                · exact hok.dam.ok b h
                · exact hln.ok b h
              have htl := tog_len l D
              clear h2 HT HRD
              go_wp2_with fail
              refine (rcut_any N D l _ (hN.below (by (repeat (first | exact bl_refl | assumption | (apply bl_then; assumption) | refine bl_alloc ?_ _ | refine bl_drew ?_ | refine bl_drewN ?_ _)))) (hD.below (by (repeat (first | exact bl_refl | assumption | (apply bl_then; assumption) | refine bl_alloc ?_ _ | refine bl_drew ?_ | refine bl_drewN ?_ _)))) (hl.below (by (repeat (first | exact bl_refl | assumption | (apply bl_then; assumption) | refine bl_alloc ?_ _ | refine bl_drew ?_ | refine bl_drewN ?_ _)))) (by omega)).mono ?_
              rintro e w14 ⟨v14, rfl, hX14, hb14⟩
              go_wp2_with fail
              refine (rready_any (tog D l) _ (hX14.rd bc_len) htk (by omega)).mono ?_
              rintro e w15 ⟨rfl, hb15⟩
              go_wp2_with fail
              refine (lwhen_any (!rdyB (tog D l)) 21 _).mono ?_
              rintro e w16 ⟨rfl, hb16⟩
              go_wp2_with fail
              go_meet
              case rel => exact ⟨by rw [HT2.out], by (repeat (first | exact bl_refl | assumption | (apply bl_then; assumption) | refine bl_alloc ?_ _ | refine bl_drew ?_ | refine bl_drewN ?_ _))⟩
            · have h2' : (someE l (wout N D) == 0) = false := by simpa using h2
              have HT2 : Hid (trimE N D l = someE l (wout N D)) := by unfold Hid; rw [HT.out, if_neg h2]
              clear h2 HT HRD
              go_wp2_with fail
              go_meet
              case rel => exact ⟨by rw [HT2.out], by (repeat (first | exact bl_refl | assumption | (apply bl_then; assumption) | refine bl_alloc ?_ _ | refine bl_drew ?_ | refine bl_drewN ?_ _))⟩
          · have hE' : (tornE N D == 0) = false := by simpa using hE
            have HT : Hid (trimE N D l = tornE N D) := by unfold Hid; rw [trimE_some, if_neg hE]
            clear hE
            go_wp2_with fail
            go_meet
            case rel => exact ⟨by rw [HT.out], by (repeat (first | exact bl_refl | assumption | (apply bl_then; assumption) | refine bl_alloc ?_ _ | refine bl_drew ?_ | refine bl_drewN ?_ _))⟩
        case rest =>
          obtain ⟨rfl, hbe⟩ := hcut
          go_wp2_with fail
          refine (sameBars_any _ _ _ ((hL11.below hbe).below (by (repeat (first | exact bl_refl | assumption | (apply bl_then; assumption) | refine bl_alloc ?_ _ | refine bl_drew ?_ | refine bl_drewN ?_ _)))) ((hX.below hbe).below (by (repeat (first | exact bl_refl | assumption | (apply bl_then; assumption) | refine bl_alloc ?_ _ | refine bl_drew ?_ | refine bl_drewN ?_ _))))).mono ?_
          rintro e w16 ⟨rfl, hb16⟩
          go_wp2_with fail
          refine (awake_any _).mono ?_
          rintro e w18 ⟨rfl, hb18⟩
          go_wp2
          go_ret
          exact ⟨rfl, by (repeat (first | exact bl_refl | assumption | (apply bl_then; assumption) | refine bl_alloc ?_ _ | refine bl_drew ?_ | refine bl_drewN ?_ _))⟩
    · go_wp2_with fail
      refine (awake_any _).mono ?_
      rintro e w2 ⟨rfl, hb2⟩
      go_wp2
      go_ret
      exact ⟨rfl, by (repeat (first | exact bl_refl | assumption | (apply bl_then; assumption) | refine bl_alloc ?_ _ | refine bl_drew ?_ | refine bl_drewN ?_ _))⟩
end Go.Proofs.YthcnngoaijgnoaaGreat

/- The statement MendRuns, walked. Conditions: slices that read as lists. -/
import Derived.Test.YthcnngoaijgnoaaGreatK11
import Derived.Deep.Cut
namespace Go.Proofs.YthcnngoaijgnoaaGreat
open Go.RowKit Go.ChangeMaps
set_option maxHeartbeats 8000000
set_option maxRecDepth 100000

theorem first2_any (a b : Int) (w : World) : Calls Tryz.prog 22 #[.slice (some ⟨w.heap.size, 0, none⟩) 2 2] (w.alloc (.cells #[.int .i64 a, .int .i64 b] 3)) (RV (w.alloc (.cells #[.int .i64 a, .int .i64 b] 3)) (.int .i64 (firstI [a, b]))) := by
  have hB := Blk.new w 3 #[.int .i64 a, .int .i64 b]
  exact lfirst_any [a, b] (some ⟨w.heap.size, 0, none⟩) 2 _ (by simp [maxLen]) (Rd.ints2 hB.lt (hB.cell 0) (hB.cell 1))
theorem miss_int {D : List Bar} {k : Knot} {q : Bool} (h : (missN D k == 1) = q) : (((missN D k : Nat) : Int) != 1) = !q := by
  rw [← h, Bool.eq_iff_iff]
  simp
  omega
theorem when0_any (n : Int) (w : World) : Calls Tryz.prog 24 #[.bool false, .int .i64 n] w (RV w (.int .i64 0)) := lwhen_any false n w
theorem when1_any (n : Int) (w : World) : Calls Tryz.prog 24 #[.bool true, .int .i64 n] w (RV w (.int .i64 n)) := lwhen_any true n w
theorem mendRuns_any {v u : Value} (N D : List Bar) (x y : Int) (w : World) (hN : SlB w v N) (hD : SlB w u D) : Calls Tryz.prog 3 #[.agg #[v, u], .agg #[.int .i64 x, .int .i64 y]] w (RV w (.bool true)) := by
  have hD' := hD
  obtain ⟨A2, c2, rfl, hlc2, hcm2, hr2⟩ := hD'
  clear hr2
  have hl2 : D.length ≤ maxLen := Nat.le_trans hlc2 hcm2
  unfold maxLen at hl2
  have hB := (Blk.new w 24 #[v, .slice A2 D.length c2]).alloc (.cells #[.int .i64 x, .int .i64 y] 26)
  have hBk := Blk.new1 w (.cells #[v, .slice A2 D.length c2] 24) 26 #[.int .i64 x, .int .i64 y]
  have fhB := hB.facts
  have fhBk := hBk.facts
  by_cases hs : N.length ≤ 40 ∧ D.length ≤ 40
  · have hsh : ∀ W (hN : SlB W v N) (hD : SlB W (.slice A2 D.length c2) D), Calls Tryz.prog 15 #[.agg #[v, .slice A2 D.length c2], .int .i64 40] W (RV W (.bool true)) := fun W hN hD => by
      have := short_any N D 40 W hN hD
      rwa [show (decide ((N.length : Int) ≤ 40) && decide ((D.length : Int) ≤ 40)) = true by simp; omega] at this
    go_enter Tryz.func3, Tryz.ntmps3
    go_wp2_with fail
    refine (hsh _ (hN.below (by (repeat (first | exact bl_refl | assumption | (apply bl_then; assumption) | refine bl_alloc ?_ _ | refine bl_drew ?_ | refine bl_drewN ?_ _)))) (hD.below (by (repeat (first | exact bl_refl | assumption | (apply bl_then; assumption) | refine bl_alloc ?_ _ | refine bl_drew ?_ | refine bl_drewN ?_ _))))).mono ?_
    rintro e w1 ⟨rfl, hb1⟩
    replace hB := hB.below (show Below _ _ w1 by (repeat (first | exact bl_refl | assumption | (apply bl_then; assumption) | refine bl_alloc ?_ _ | refine bl_drew ?_ | refine bl_drewN ?_ _)))
    replace fhB := hB.facts
    replace hBk := hBk.below (show Below _ _ w1 by (repeat (first | exact bl_refl | assumption | (apply bl_then; assumption) | refine bl_alloc ?_ _ | refine bl_drew ?_ | refine bl_drewN ?_ _)))
    replace fhBk := hBk.facts
    clear hsh
    go_wp2_with fail
    refine (torn_any N D _ (hN.below (by (repeat (first | exact bl_refl | assumption | (apply bl_then; assumption) | refine bl_alloc ?_ _ | refine bl_drew ?_ | refine bl_drewN ?_ _)))) (hD.below (by (repeat (first | exact bl_refl | assumption | (apply bl_then; assumption) | refine bl_alloc ?_ _ | refine bl_drew ?_ | refine bl_drewN ?_ _)))) (by omega) (by omega)).mono ?_
    rintro e w2 ⟨v2, u2, rfl, hN2, hD2, hb2⟩
    replace hB := hB.below (show Below _ _ w2 by (repeat (first | exact bl_refl | assumption | (apply bl_then; assumption) | refine bl_alloc ?_ _ | refine bl_drew ?_ | refine bl_drewN ?_ _)))
    replace fhB := hB.facts
    replace hBk := hBk.below (show Below _ _ w2 by (repeat (first | exact bl_refl | assumption | (apply bl_then; assumption) | refine bl_alloc ?_ _ | refine bl_drew ?_ | refine bl_drewN ?_ _)))
    replace fhBk := hBk.facts
    go_wp2_with fail
    refine (pready_any N D _ (hN2.rd bc_len) (hD2.rd bc_len)).mono ?_
    rintro e w3 ⟨rfl, hb3⟩
    replace hB := hB.below (show Below _ _ w3 by (repeat (first | exact bl_refl | assumption | (apply bl_then; assumption) | refine bl_alloc ?_ _ | refine bl_drew ?_ | refine bl_drewN ?_ _)))
    replace fhB := hB.facts
    replace hBk := hBk.below (show Below _ _ w3 by (repeat (first | exact bl_refl | assumption | (apply bl_then; assumption) | refine bl_alloc ?_ _ | refine bl_drew ?_ | refine bl_drewN ?_ _)))
    replace fhBk := hBk.facts
    have hbw3 : Below w.heap.size w w3 := by (repeat (first | exact bl_refl | assumption | (apply bl_then; assumption) | refine bl_alloc ?_ _ | refine bl_drew ?_ | refine bl_drewN ?_ _))
    clear hN2 hD2 hb1 hb2 hb3
    go_wp2_with fail
    refine wp_region_ords [0, 2] [(1, false), (3, false), (4, false), (5, true), (6, true), (7, false)] [8] (by kernel_rfl) (by kernel_rfl) (fun d _ _ _ _ h => by cases d <;> exact h) ?_
    simp only [List.map_cons, List.map_nil, List.getD_cons_zero, List.getD_cons_succ]
    repeat (go_big_quiet_step (fail))
    refine wpQuiet_nil ?_
    refine wpMid_run rfl (fun K hK => ?_)
    go_simp
    refine (torn_any N D _ (hN.below (by (repeat (first | exact bl_refl | assumption | (apply bl_then; assumption) | refine bl_alloc ?_ _ | refine bl_drew ?_ | refine bl_drewN ?_ _)))) (hD.below (by (repeat (first | exact bl_refl | assumption | (apply bl_then; assumption) | refine bl_alloc ?_ _ | refine bl_drew ?_ | refine bl_drewN ?_ _)))) (by omega) (by omega)).mono ?_
    rintro e w4 ⟨v4, u4, rfl, hN4, hD4, hb4⟩
    refine hK _ _ (by (repeat (first | exact bl_refl | assumption | (apply bl_then; assumption) | refine bl_alloc ?_ _ | refine bl_drew ?_ | refine bl_drewN ?_ _))) ?_
    clear hK K
    refine wpMid_run rfl (fun K hK => ?_)
    go_simp
    refine (pwalk_any N D x y _ (hN4.rd bc_len) (hD4.rd bc_len)).mono ?_
    rintro e w5 ⟨v5, rfl, hW5, hb5⟩
    refine hK _ _ (by (repeat (first | exact bl_refl | assumption | (apply bl_then; assumption) | refine bl_alloc ?_ _ | refine bl_drew ?_ | refine bl_drewN ?_ _))) ?_
    clear hK K
    obtain ⟨A5, c5, rfl⟩ := hW5.shape
    refine wpMid_run rfl (fun K hK => ?_)
    go_simp
    refine hK _ _ (by (repeat (first | exact bl_refl | assumption | (apply bl_then; assumption) | refine bl_alloc ?_ _ | refine bl_drew ?_ | refine bl_drewN ?_ _))) ?_
    clear hK K
    refine wpMid_take rfl ?_
    intro K hK
    go_big_quiet_op
    go_big_quiet_on
    refine wpMid_take rfl ?_
    intro K hK
    go_big_quiet_op
    go_big_quiet_on
    refine wpMid_run rfl (fun K hK => ?_)
    go_simp
    refine hK _ _ (by (repeat (first | exact bl_refl | assumption | (apply bl_then; assumption) | refine bl_alloc ?_ _ | refine bl_drew ?_ | refine bl_drewN ?_ _))) ?_
    clear hK K
    refine wpMid_nil ?_
    have hbw5 : Below w3.heap.size w3 w5 := by (repeat (first | exact bl_refl | assumption | (apply bl_then; assumption) | refine bl_alloc ?_ _ | refine bl_drew ?_ | refine bl_drewN ?_ _))
    replace hB := hB.below hbw5
    replace hBk := hBk.below hbw5
    replace fhB := hB.facts
    replace fhBk := hBk.facts
    clear hN4 hD4 hb4 hb5
    go_wp2_with fail
    refine (torn_any N D _ (hN.below (by (repeat (first | exact bl_refl | assumption | (apply bl_then; assumption) | refine bl_alloc ?_ _ | refine bl_drew ?_ | refine bl_drewN ?_ _)))) (hD.below (by (repeat (first | exact bl_refl | assumption | (apply bl_then; assumption) | refine bl_alloc ?_ _ | refine bl_drew ?_ | refine bl_drewN ?_ _)))) (by omega) (by omega)).mono ?_
    rintro e w6 ⟨v6, u6, rfl, hN6, hD6, hb6⟩
    replace hB := hB.below (show Below _ _ w6 by (repeat (first | exact bl_refl | assumption | (apply bl_then; assumption) | refine bl_alloc ?_ _ | refine bl_drew ?_ | refine bl_drewN ?_ _)))
    replace fhB := hB.facts
    replace hBk := hBk.below (show Below _ _ w6 by (repeat (first | exact bl_refl | assumption | (apply bl_then; assumption) | refine bl_alloc ?_ _ | refine bl_drew ?_ | refine bl_drewN ?_ _)))
    replace fhBk := hBk.facts
    go_wp2_with fail
    refine (prun_any N D _ (hN6.rd bc_len) (hD6.rd bc_len)).mono ?_
    rintro e w7 ⟨v7, rfl, hR7, hb7⟩
    replace hB := hB.below (show Below _ _ w7 by (repeat (first | exact bl_refl | assumption | (apply bl_then; assumption) | refine bl_alloc ?_ _ | refine bl_drew ?_ | refine bl_drewN ?_ _)))
    replace fhB := hB.facts
    replace hBk := hBk.below (show Below _ _ w7 by (repeat (first | exact bl_refl | assumption | (apply bl_then; assumption) | refine bl_alloc ?_ _ | refine bl_drew ?_ | refine bl_drewN ?_ _)))
    replace fhBk := hBk.facts
    obtain ⟨A7, c7, rfl⟩ := hR7.shape
    have hW7 : SlK w7 _ _ := (hW5.rd kc_len).below (by (repeat (first | exact bl_refl | assumption | (apply bl_then; assumption) | refine bl_alloc ?_ _ | refine bl_drew ?_ | refine bl_drewN ?_ _)))
    have hbw7 : Below w.heap.size w w7 := by (repeat (first | exact bl_refl | assumption | (apply bl_then; assumption) | refine bl_alloc ?_ _ | refine bl_drew ?_ | refine bl_drewN ?_ _))
    clear hN6 hD6 hW5 hb6 hb7 hbw5 hbw3
    go_wp2_with fail
    refine (rtorn_any N D _ (hN.below (by (repeat (first | exact bl_refl | assumption | (apply bl_then; assumption) | refine bl_alloc ?_ _ | refine bl_drew ?_ | refine bl_drewN ?_ _)))) (hD.below (by (repeat (first | exact bl_refl | assumption | (apply bl_then; assumption) | refine bl_alloc ?_ _ | refine bl_drew ?_ | refine bl_drewN ?_ _))))).mono ?_
    rintro e w8 ⟨rfl, hb8⟩
    replace hB := hB.below (show Below _ _ w8 by (repeat (first | exact bl_refl | assumption | (apply bl_then; assumption) | refine bl_alloc ?_ _ | refine bl_drew ?_ | refine bl_drewN ?_ _)))
    replace fhB := hB.facts
    replace hBk := hBk.below (show Below _ _ w8 by (repeat (first | exact bl_refl | assumption | (apply bl_then; assumption) | refine bl_alloc ?_ _ | refine bl_drew ?_ | refine bl_drewN ?_ _)))
    replace fhBk := hBk.facts
    go_wp2_with fail
    refine (rknot_any x y _).mono ?_
    rintro e w9 ⟨rfl, hb9⟩
    replace hB := hB.below (show Below _ _ w9 by (repeat (first | exact bl_refl | assumption | (apply bl_then; assumption) | refine bl_alloc ?_ _ | refine bl_drew ?_ | refine bl_drewN ?_ _)))
    replace fhB := hB.facts
    replace hBk := hBk.below (show Below _ _ w9 by (repeat (first | exact bl_refl | assumption | (apply bl_then; assumption) | refine bl_alloc ?_ _ | refine bl_drew ?_ | refine bl_drewN ?_ _)))
    replace fhBk := hBk.facts
    go_wp2_with fail
    refine (first2_any (tornE N D) (knotE x y) _).mono ?_
    rintro e w10 ⟨rfl, hb10⟩
    replace hB := hB.below (show Below _ _ w10 by (repeat (first | exact bl_refl | assumption | (apply bl_then; assumption) | refine bl_alloc ?_ _ | refine bl_drew ?_ | refine bl_drewN ?_ _)))
    replace fhB := hB.facts
    replace hBk := hBk.below (show Below _ _ w10 by (repeat (first | exact bl_refl | assumption | (apply bl_then; assumption) | refine bl_alloc ?_ _ | refine bl_drew ?_ | refine bl_drewN ?_ _)))
    replace fhBk := hBk.facts
    go_wp2_with fail
    refine (lwhen_any _ 7 _).mono ?_
    rintro e w11 ⟨rfl, hb11⟩
    replace hB := hB.below (show Below _ _ w11 by (repeat (first | exact bl_refl | assumption | (apply bl_then; assumption) | refine bl_alloc ?_ _ | refine bl_drew ?_ | refine bl_drewN ?_ _)))
    replace fhB := hB.facts
    replace hBk := hBk.below (show Below _ _ w11 by (repeat (first | exact bl_refl | assumption | (apply bl_then; assumption) | refine bl_alloc ?_ _ | refine bl_drew ?_ | refine bl_drewN ?_ _)))
    replace fhBk := hBk.facts
    go_wp2_with fail
    refine (first2_any (tornE N D) _ _).mono ?_
    rintro e w12 ⟨rfl, hb12⟩
    replace hB := hB.below (show Below _ _ w12 by (repeat (first | exact bl_refl | assumption | (apply bl_then; assumption) | refine bl_alloc ?_ _ | refine bl_drew ?_ | refine bl_drewN ?_ _)))
    replace fhB := hB.facts
    replace hBk := hBk.below (show Below _ _ w12 by (repeat (first | exact bl_refl | assumption | (apply bl_then; assumption) | refine bl_alloc ?_ _ | refine bl_drew ?_ | refine bl_drewN ?_ _)))
    replace fhBk := hBk.facts
    rw [none_form, show firstI [tornE N D, knotE x y] = twoE N D (x, y) from rfl]
    have hW12 : SlK w12 _ _ := hW7.below (by (repeat (first | exact bl_refl | assumption | (apply bl_then; assumption) | refine bl_alloc ?_ _ | refine bl_drew ?_ | refine bl_drewN ?_ _)))
    have hR12 : SlK w12 _ _ := (hR7.rd kc_len).below (by (repeat (first | exact bl_refl | assumption | (apply bl_then; assumption) | refine bl_alloc ?_ _ | refine bl_drew ?_ | refine bl_drewN ?_ _)))
    have hbw12 : Below w.heap.size w w12 := by (repeat (first | exact bl_refl | assumption | (apply bl_then; assumption) | refine bl_alloc ?_ _ | refine bl_drew ?_ | refine bl_drewN ?_ _))
    clear hR7 hW7 hb8 hb9 hb10 hb11 hb12 hbw7
    go_upto_if 56 with fail
    go_cut [14] from 17 (fun s wx => s = .bool (readyR N D) ∧ Below w12.heap.size w12 wx)
    case first =>
      by_cases hE : tornE N D = 0
      · have hE' : (tornE N D == 0) = true := by rw [hE]; rfl
        have hok := torn_ok hE
        have HR : Hid (readyR N D = rdyB D) := by unfold Hid readyR; rw [if_pos hE]
        clear hE
        go_wp2_with fail
        refine (rready_any D _ (hD.below (by (repeat (first | exact bl_refl | assumption | (apply bl_then; assumption) | refine bl_alloc ?_ _ | refine bl_drew ?_ | refine bl_drewN ?_ _)))) hok.dam.ok (by omega)).mono ?_
        rintro e w13 ⟨rfl, hb13⟩
        go_wp2_with fail
        go_meet
        case rel => exact ⟨by rw [HR.out], by (repeat (first | exact bl_refl | assumption | (apply bl_then; assumption) | refine bl_alloc ?_ _ | refine bl_drew ?_ | refine bl_drewN ?_ _))⟩
      · have hE' : (tornE N D == 0) = false := by simpa using hE
        have HR : Hid (readyR N D = false) := by unfold Hid readyR; rw [if_neg hE]
        clear hE
        go_wp2_with fail
        go_meet
        case rel => exact ⟨by rw [HR.out], by (repeat (first | exact bl_refl | assumption | (apply bl_then; assumption) | refine bl_alloc ?_ _ | refine bl_drew ?_ | refine bl_drewN ?_ _))⟩
    case rest =>
      obtain ⟨rfl, hbc⟩ := hcut
      replace hB := hB.below hbc
      replace hBk := hBk.below hbc
      replace fhB := hB.facts
      replace fhBk := hBk.facts
      have hWc := hW12.below hbc
      have hRc := hR12.below hbc
      have hNc : SlB wc _ _ := hN.below (by (repeat (first | exact bl_refl | assumption | (apply bl_then; assumption) | refine bl_alloc ?_ _ | refine bl_drew ?_ | refine bl_drewN ?_ _)))
      have hDc : SlB wc _ _ := hD.below (by (repeat (first | exact bl_refl | assumption | (apply bl_then; assumption) | refine bl_alloc ?_ _ | refine bl_drew ?_ | refine bl_drewN ?_ _)))
      have hbwc : Below w.heap.size w wc := by (repeat (first | exact bl_refl | assumption | (apply bl_then; assumption) | refine bl_alloc ?_ _ | refine bl_drew ?_ | refine bl_drewN ?_ _))
      clear hW12 hR12 hbc hbw12
      go_upto_if 60 with fail
      go_cut [12, 15] from 17 (fun s12 s15 wx => s12 = .int .i64 (walkE N D (x, y)) ∧ SlK wx s15 (walkR N D (x, y)) ∧ Below wc.heap.size wc wx)
      case first =>
        by_cases h2 : twoE N D (x, y) = 0
        · have h2' : (twoE N D (x, y) == 0) = true := by rw [h2]; rfl
          obtain ⟨hok, hkn⟩ := twoE_ok h2
          obtain ⟨kx1, kx2, ky1, ky2, _⟩ := knotE_zero hkn
          obtain ⟨q, hq⟩ : ∃ q, (missN D (x, y) == 1) = q := ⟨_, rfl⟩
          have hqi := miss_int hq
          have HW : Hid (walkE N D (x, y) = whenI (!q) 18) := by unfold Hid walkE; rw [if_pos h2, hq]
          have HQ := Lib.hid hq
          clear h2 hkn hq
          cases q
          · have HR : Hid (walkR N D (x, y) = []) := by unfold Hid walkR; rw [HW.out]; rfl
            go_wp2_with fail
            refine (missing_any D x y _ (hDc.below (by (repeat (first | exact bl_refl | assumption | (apply bl_then; assumption) | refine bl_alloc ?_ _ | refine bl_drew ?_ | refine bl_drewN ?_ _)))) (by omega) (by omega)).mono ?_
            rintro e w13 ⟨rfl, hb13⟩
            go_wp2_with fail
            refine (when1_any 18 _).mono ?_
            rintro e w14 ⟨rfl, hb14⟩
            go_wp2_with fail
            go_meet
            case rel => exact ⟨by rw [HW.out]; rfl, by rw [HR.out]; exact Sl.nil_, by (repeat (first | exact bl_refl | assumption | (apply bl_then; assumption) | refine bl_alloc ?_ _ | refine bl_drew ?_ | refine bl_drewN ?_ _))⟩
          · have h1 : cnt (legsAt D (x, y)) = 1 := by
              have := HQ.out
              unfold missN at this
              simpa using this
            have HR : Hid (walkR N D (x, y) = rwalkL D (x, y)) := by unfold Hid walkR; rw [HW.out, rwalk_one h1]; rfl
            have hne : legsAt D (x, y) ≠ noLegs := fun e => by rw [e] at h1; cases h1
            clear h1
            go_wp2_with fail
            refine (missing_any D x y _ (hDc.below (by (repeat (first | exact bl_refl | assumption | (apply bl_then; assumption) | refine bl_alloc ?_ _ | refine bl_drew ?_ | refine bl_drewN ?_ _)))) (by omega) (by omega)).mono ?_
            rintro e w13 ⟨rfl, hb13⟩
            replace hB := hB.below (show Below _ _ w13 by (repeat (first | exact bl_refl | assumption | (apply bl_then; assumption) | refine bl_alloc ?_ _ | refine bl_drew ?_ | refine bl_drewN ?_ _)))
            replace fhB := hB.facts
            replace hBk := hBk.below (show Below _ _ w13 by (repeat (first | exact bl_refl | assumption | (apply bl_then; assumption) | refine bl_alloc ?_ _ | refine bl_drew ?_ | refine bl_drewN ?_ _)))
            replace fhBk := hBk.facts
            go_wp2_with fail
            refine (when0_any 18 _).mono ?_
            rintro e w14 ⟨rfl, hb14⟩
            replace hB := hB.below (show Below _ _ w14 by (repeat (first | exact bl_refl | assumption | (apply bl_then; assumption) | refine bl_alloc ?_ _ | refine bl_drew ?_ | refine bl_drewN ?_ _)))
            replace fhB := hB.facts
            replace hBk := hBk.below (show Below _ _ w14 by (repeat (first | exact bl_refl | assumption | (apply bl_then; assumption) | refine bl_alloc ?_ _ | refine bl_drew ?_ | refine bl_drewN ?_ _)))
            replace fhBk := hBk.facts
            go_wp2_with fail
            refine (rwalk_any D x y _ (hDc.below (by (repeat (first | exact bl_refl | assumption | (apply bl_then; assumption) | refine bl_alloc ?_ _ | refine bl_drew ?_ | refine bl_drewN ?_ _)))) hok.dam.ok (by omega) hne).mono ?_
            rintro e w15 ⟨v15, rfl, hX15, hb15⟩
            go_wp2_with fail
            go_meet
            case rel => exact ⟨by rw [HW.out]; rfl, by rw [HR.out]; exact hX15.rd kc_len, by (repeat (first | exact bl_refl | assumption | (apply bl_then; assumption) | refine bl_alloc ?_ _ | refine bl_drew ?_ | refine bl_drewN ?_ _))⟩
        · have h2' : (twoE N D (x, y) == 0) = false := by simpa using h2
          have HW : Hid (walkE N D (x, y) = twoE N D (x, y)) := by unfold Hid walkE; rw [if_neg h2]
          have HR : Hid (walkR N D (x, y) = []) := by unfold Hid walkR; rw [HW.out, if_neg h2]
          clear h2
          go_wp2_with fail
          go_meet
          case rel => exact ⟨by rw [HW.out], by rw [HR.out]; exact Sl.nil_, by (repeat (first | exact bl_refl | assumption | (apply bl_then; assumption) | refine bl_alloc ?_ _ | refine bl_drew ?_ | refine bl_drewN ?_ _))⟩
      case rest =>
        obtain ⟨rfl, hX, hbd⟩ := hcut
        replace hB := hB.below hbd
        replace hBk := hBk.below hbd
        replace fhB := hB.facts
        replace fhBk := hBk.facts
        replace hWc := hWc.below hbd
        replace hRc := hRc.below hbd
        replace hDc := hDc.below hbd
        replace hbwc : Below w.heap.size w wc := bl_then hbd hbwc
        clear hbd hNc
        go_upto_if 72 with fail
        go_cut [5, 13, 14, 16] from 17 (fun s5 s13 s14 s16 wx => s5 = .bool (readyR N D) ∧ s13 = .int .i64 (runE N D) ∧ s14 = .bool (readyR N D) ∧ SlK wx s16 (runL N D) ∧ Below wc.heap.size wc wx)
        case first =>
          by_cases h3 : noneE N D = 0
          · have h3' : (noneE N D == 0) = true := by rw [h3]; rfl
            obtain ⟨hok, _⟩ := noneE_ok h3
            have ht0 := (firstI_zero h3).1
            obtain ⟨q, hq⟩ : ∃ q, rdyB D = q := ⟨_, rfl⟩
            have hrq : readyR N D = q := by unfold readyR; rw [if_pos ht0, hq]
            have HE : Hid (runE N D = whenI (!q) 18) := by unfold Hid runE; rw [if_pos h3, hq]
            have HL : Hid (runL N D = (runO D).getD []) := by unfold Hid runL; rw [if_pos h3]
            have HQ := Lib.hid hq
            clear h3 ht0 hq
            cases q
            · have hn : Hid (runO D = none) := by
                have := HQ.out
                unfold rdyB at this
                unfold Hid
                simpa using this
              go_wp2_with fail
              refine (when1_any 18 _).mono ?_
              rintro e w13 ⟨rfl, hb13⟩
              replace hB := hB.below (show Below _ _ w13 by (repeat (first | exact bl_refl | assumption | (apply bl_then; assumption) | refine bl_alloc ?_ _ | refine bl_drew ?_ | refine bl_drewN ?_ _)))
              replace fhB := hB.facts
              replace hBk := hBk.below (show Below _ _ w13 by (repeat (first | exact bl_refl | assumption | (apply bl_then; assumption) | refine bl_alloc ?_ _ | refine bl_drew ?_ | refine bl_drewN ?_ _)))
              replace fhBk := hBk.facts
              go_wp2_with fail
              go_meet
              case rel => exact ⟨by rw [hrq], by rw [HE.out]; rfl, by rw [hrq], by rw [HL.out, hn.out]; exact Sl.nil_, by (repeat (first | exact bl_refl | assumption | (apply bl_then; assumption) | refine bl_alloc ?_ _ | refine bl_drew ?_ | refine bl_drewN ?_ _))⟩
            · go_wp2_with fail
              refine (when0_any 18 _).mono ?_
              rintro e w13 ⟨rfl, hb13⟩
              replace hB := hB.below (show Below _ _ w13 by (repeat (first | exact bl_refl | assumption | (apply bl_then; assumption) | refine bl_alloc ?_ _ | refine bl_drew ?_ | refine bl_drewN ?_ _)))
              replace fhB := hB.facts
              replace hBk := hBk.below (show Below _ _ w13 by (repeat (first | exact bl_refl | assumption | (apply bl_then; assumption) | refine bl_alloc ?_ _ | refine bl_drew ?_ | refine bl_drewN ?_ _)))
              replace fhBk := hBk.facts
              go_wp2_with fail
              refine (rrun_any D _ (hDc.below (by (repeat (first | exact bl_refl | assumption | (apply bl_then; assumption) | refine bl_alloc ?_ _ | refine bl_drew ?_ | refine bl_drewN ?_ _)))) hok.dam.ok (by omega)).mono ?_
              rintro e w14 ⟨v14, rfl, hX14, hb14⟩
              go_wp2_with fail
              go_meet
              case rel => exact ⟨by rw [hrq], by rw [HE.out]; rfl, by rw [hrq], by rw [HL.out]; exact hX14.rd kc_len, by (repeat (first | exact bl_refl | assumption | (apply bl_then; assumption) | refine bl_alloc ?_ _ | refine bl_drew ?_ | refine bl_drewN ?_ _))⟩
          · have h3' : (noneE N D == 0) = false := by simpa using h3
            have HE : Hid (runE N D = noneE N D) := by unfold Hid runE; rw [if_neg h3]
            have HL : Hid (runL N D = []) := by unfold Hid runL; rw [if_neg h3]
            clear h3
            go_wp2_with fail
            go_meet
            case rel => exact ⟨rfl, by rw [HE.out], rfl, by rw [HL.out]; exact Sl.nil_, by (repeat (first | exact bl_refl | assumption | (apply bl_then; assumption) | refine bl_alloc ?_ _ | refine bl_drew ?_ | refine bl_drewN ?_ _))⟩
        case rest =>
          obtain ⟨rfl, rfl, rfl, hY, hbe⟩ := hcut
          go_wp2_with fail
          refine (sameKnots_any _ _ _ ((hWc.below hbe).below (by (repeat (first | exact bl_refl | assumption | (apply bl_then; assumption) | refine bl_alloc ?_ _ | refine bl_drew ?_ | refine bl_drewN ?_ _)))) ((hX.below hbe).below (by (repeat (first | exact bl_refl | assumption | (apply bl_then; assumption) | refine bl_alloc ?_ _ | refine bl_drew ?_ | refine bl_drewN ?_ _))))).mono ?_
          rintro e w16 ⟨rfl, hb16⟩
          go_wp2_with fail
          refine (sameKnots_any _ _ _ (((hRc.below hbe).below (show Below _ _ w16 by (repeat (first | exact bl_refl | assumption | (apply bl_then; assumption) | refine bl_alloc ?_ _ | refine bl_drew ?_ | refine bl_drewN ?_ _)))).below (by (repeat (first | exact bl_refl | assumption | (apply bl_then; assumption) | refine bl_alloc ?_ _ | refine bl_drew ?_ | refine bl_drewN ?_ _)))) ((hY.below (show Below _ _ w16 by (repeat (first | exact bl_refl | assumption | (apply bl_then; assumption) | refine bl_alloc ?_ _ | refine bl_drew ?_ | refine bl_drewN ?_ _)))).below (by (repeat (first | exact bl_refl | assumption | (apply bl_then; assumption) | refine bl_alloc ?_ _ | refine bl_drew ?_ | refine bl_drewN ?_ _))))).mono ?_
          rintro e w17 ⟨rfl, hb17⟩
          go_wp2_with fail
          refine (awake_any _).mono ?_
          rintro e w18 ⟨rfl, hb18⟩
          go_wp2
          go_ret
          exact ⟨rfl, by (repeat (first | exact bl_refl | assumption | (apply bl_then; assumption) | refine bl_alloc ?_ _ | refine bl_drew ?_ | refine bl_drewN ?_ _))⟩
  · have hsh : ∀ W (hN : SlB W v N) (hD : SlB W (.slice A2 D.length c2) D), Calls Tryz.prog 15 #[.agg #[v, .slice A2 D.length c2], .int .i64 40] W (RV W (.bool false)) := fun W hN hD => by
      have := short_any N D 40 W hN hD
      rwa [show (decide ((N.length : Int) ≤ 40) && decide ((D.length : Int) ≤ 40)) = false by simp; omega] at this
    go_enter Tryz.func3, Tryz.ntmps3
    go_wp2_with fail
    refine (hsh _ (hN.below (by (repeat (first | exact bl_refl | assumption | (apply bl_then; assumption) | refine bl_alloc ?_ _ | refine bl_drew ?_ | refine bl_drewN ?_ _)))) (hD.below (by (repeat (first | exact bl_refl | assumption | (apply bl_then; assumption) | refine bl_alloc ?_ _ | refine bl_drew ?_ | refine bl_drewN ?_ _))))).mono ?_
    rintro e w1 ⟨rfl, hb1⟩
    replace hB := hB.below (show Below _ _ w1 by (repeat (first | exact bl_refl | assumption | (apply bl_then; assumption) | refine bl_alloc ?_ _ | refine bl_drew ?_ | refine bl_drewN ?_ _)))
    replace fhB := hB.facts
    replace hBk := hBk.below (show Below _ _ w1 by (repeat (first | exact bl_refl | assumption | (apply bl_then; assumption) | refine bl_alloc ?_ _ | refine bl_drew ?_ | refine bl_drewN ?_ _)))
    replace fhBk := hBk.facts
    go_wp2_with fail
    refine (awake_any _).mono ?_
    rintro e w2 ⟨rfl, hb2⟩
    go_wp2
    go_ret
    exact ⟨rfl, by (repeat (first | exact bl_refl | assumption | (apply bl_then; assumption) | refine bl_alloc ?_ _ | refine bl_drew ?_ | refine bl_drewN ?_ _))⟩
end Go.Proofs.YthcnngoaijgnoaaGreat

/- The statement MendHoles, walked. Conditions: slices that read as lists. -/
import Derived.Test.YthcnngoaijgnoaaGreatK11
import Derived.Test.YthcnngoaijgnoaaGreatRklJ
import Derived.Test.YthcnngoaijgnoaaGreatLw5J
namespace Go.Proofs.YthcnngoaijgnoaaGreat
open Go.RowKit Go.ChangeMaps
set_option maxHeartbeats 16000000
set_option maxRecDepth 100000

theorem mendHoles_any {v u : Value} (N D : List Bar) (x y : Int) (w : World) (hN : SlB w v N) (hD : SlB w u D) : Calls Tryz.prog 9 #[.agg #[v, u], .agg #[.int .i64 x, .int .i64 y]] w (RV w (.bool true)) := by
  have hD' := hD
  obtain ⟨A2, c2, rfl, hlc2, hcm2, hr2⟩ := hD'
  clear hr2
  have hl2 : D.length ≤ maxLen := Nat.le_trans hlc2 hcm2
  unfold maxLen at hl2
  have hB := (Blk.new w 24 #[v, .slice A2 D.length c2]).alloc (.cells #[.int .i64 x, .int .i64 y] 26)
  have hBk := Blk.new1 w (.cells #[v, .slice A2 D.length c2] 24) 26 #[.int .i64 x, .int .i64 y]
  have fhB := hB.facts
  have fhBk := hBk.facts
  by_cases hs : N.length ≤ 40 ∧ D.length ≤ 40
  · have hsh : ∀ W (hN : SlB W v N) (hD : SlB W (.slice A2 D.length c2) D), Calls Tryz.prog 15 #[.agg #[v, .slice A2 D.length c2], .int .i64 40] W (RV W (.bool true)) := fun W hN hD => by
      have := short_any N D 40 W hN hD
      rwa [show (decide ((N.length : Int) ≤ 40) && decide ((D.length : Int) ≤ 40)) = true by simp; omega] at this
    go_enter Tryz.func9, Tryz.ntmps9
    go_wp2_with fail
    refine (hsh _ (hN.below (by (repeat (first | exact bl_refl | assumption | (apply bl_then; assumption) | refine bl_alloc ?_ _ | refine bl_drew ?_ | refine bl_drewN ?_ _)))) (hD.below (by (repeat (first | exact bl_refl | assumption | (apply bl_then; assumption) | refine bl_alloc ?_ _ | refine bl_drew ?_ | refine bl_drewN ?_ _))))).mono ?_
    rintro e w1 ⟨rfl, hb1⟩
    replace hB := hB.below (show Below _ _ w1 by (repeat (first | exact bl_refl | assumption | (apply bl_then; assumption) | refine bl_alloc ?_ _ | refine bl_drew ?_ | refine bl_drewN ?_ _)))
    replace fhB := hB.facts
    replace hBk := hBk.below (show Below _ _ w1 by (repeat (first | exact bl_refl | assumption | (apply bl_then; assumption) | refine bl_alloc ?_ _ | refine bl_drew ?_ | refine bl_drewN ?_ _)))
    replace fhBk := hBk.facts
    clear hsh
    go_wp2_with fail
    refine (torn_any N D _ (hN.below (by (repeat (first | exact bl_refl | assumption | (apply bl_then; assumption) | refine bl_alloc ?_ _ | refine bl_drew ?_ | refine bl_drewN ?_ _)))) (hD.below (by (repeat (first | exact bl_refl | assumption | (apply bl_then; assumption) | refine bl_alloc ?_ _ | refine bl_drew ?_ | refine bl_drewN ?_ _)))) (by omega) (by omega)).mono ?_
    rintro e w2 ⟨v2, u2, rfl, hN2, hD2, hb2⟩
    replace hB := hB.below (show Below _ _ w2 by (repeat (first | exact bl_refl | assumption | (apply bl_then; assumption) | refine bl_alloc ?_ _ | refine bl_drew ?_ | refine bl_drewN ?_ _)))
    replace fhB := hB.facts
    replace hBk := hBk.below (show Below _ _ w2 by (repeat (first | exact bl_refl | assumption | (apply bl_then; assumption) | refine bl_alloc ?_ _ | refine bl_drew ?_ | refine bl_drewN ?_ _)))
    replace fhBk := hBk.facts
    go_wp2_with fail
    refine (sound_any N D _ (hN2.rd bc_len) (hD2.rd bc_len)).mono ?_
    rintro e w3 ⟨v3, rfl, hS3, hb3⟩
    replace hB := hB.below (show Below _ _ w3 by (repeat (first | exact bl_refl | assumption | (apply bl_then; assumption) | refine bl_alloc ?_ _ | refine bl_drew ?_ | refine bl_drewN ?_ _)))
    replace fhB := hB.facts
    replace hBk := hBk.below (show Below _ _ w3 by (repeat (first | exact bl_refl | assumption | (apply bl_then; assumption) | refine bl_alloc ?_ _ | refine bl_drew ?_ | refine bl_drewN ?_ _)))
    replace fhBk := hBk.facts
    obtain ⟨A3, c3, rfl⟩ := hS3.shape
    have hbw3 : Below w.heap.size w w3 := by (repeat (first | exact bl_refl | assumption | (apply bl_then; assumption) | refine bl_alloc ?_ _ | refine bl_drew ?_ | refine bl_drewN ?_ _))
    clear hN2 hD2 hb1 hb2 hb3
    go_wp2_with fail
    refine wp_region_ords [0, 2] [(1, false), (3, false), (4, false), (5, true), (6, true), (7, false)] [8] (by kernel_rfl) (by kernel_rfl) (fun d _ _ _ _ h => by cases d <;> exact h) ?_
    simp only [List.map_cons, List.map_nil, List.getD_cons_zero, List.getD_cons_succ]
    repeat (go_big_quiet_step (fail))
    refine wpQuiet_nil ?_
    refine wpMid_run rfl (fun K hK => ?_)
    go_simp
    refine (torn_any N D _ (hN.below (by (repeat (first | exact bl_refl | assumption | (apply bl_then; assumption) | refine bl_alloc ?_ _ | refine bl_drew ?_ | refine bl_drewN ?_ _)))) (hD.below (by (repeat (first | exact bl_refl | assumption | (apply bl_then; assumption) | refine bl_alloc ?_ _ | refine bl_drew ?_ | refine bl_drewN ?_ _)))) (by omega) (by omega)).mono ?_
    rintro e w4 ⟨v4, u4, rfl, hN4, hD4, hb4⟩
    refine hK _ _ (by (repeat (first | exact bl_refl | assumption | (apply bl_then; assumption) | refine bl_alloc ?_ _ | refine bl_drew ?_ | refine bl_drewN ?_ _))) ?_
    clear hK K
    refine wpMid_run rfl (fun K hK => ?_)
    go_simp
    refine (pmissing_any N D x y _ (hN4.rd bc_len) (hD4.rd bc_len)).mono ?_
    rintro e w5 ⟨rfl, hb5⟩
    refine hK _ _ (by (repeat (first | exact bl_refl | assumption | (apply bl_then; assumption) | refine bl_alloc ?_ _ | refine bl_drew ?_ | refine bl_drewN ?_ _))) ?_
    clear hK K
    refine wpMid_run rfl (fun K hK => ?_)
    go_simp
    refine hK _ _ (by (repeat (first | exact bl_refl | assumption | (apply bl_then; assumption) | refine bl_alloc ?_ _ | refine bl_drew ?_ | refine bl_drewN ?_ _))) ?_
    clear hK K
    refine wpMid_take rfl ?_
    intro K hK
    go_big_quiet_op
    go_big_quiet_on
    refine wpMid_take rfl ?_
    intro K hK
    go_big_quiet_op
    go_big_quiet_on
    refine wpMid_run rfl (fun K hK => ?_)
    go_simp
    refine hK _ _ (by (repeat (first | exact bl_refl | assumption | (apply bl_then; assumption) | refine bl_alloc ?_ _ | refine bl_drew ?_ | refine bl_drewN ?_ _))) ?_
    clear hK K
    refine wpMid_nil ?_
    have hbw5 : Below w3.heap.size w3 w5 := by (repeat (first | exact bl_refl | assumption | (apply bl_then; assumption) | refine bl_alloc ?_ _ | refine bl_drew ?_ | refine bl_drewN ?_ _))
    replace hB := hB.below hbw5
    replace hBk := hBk.below hbw5
    replace fhB := hB.facts
    replace fhBk := hBk.facts
    have hS5 : SlB w5 _ _ := (hS3.rd bc_len).below hbw5
    replace hbw5 : Below w.heap.size w w5 := by (repeat (first | exact bl_refl | assumption | (apply bl_then; assumption) | refine bl_alloc ?_ _ | refine bl_drew ?_ | refine bl_drewN ?_ _))
    clear hN4 hD4 hb4 hb5 hbw3 hS3
    go_wp2_with fail
    refine (torn_any N D _ (hN.below (by (repeat (first | exact bl_refl | assumption | (apply bl_then; assumption) | refine bl_alloc ?_ _ | refine bl_drew ?_ | refine bl_drewN ?_ _)))) (hD.below (by (repeat (first | exact bl_refl | assumption | (apply bl_then; assumption) | refine bl_alloc ?_ _ | refine bl_drew ?_ | refine bl_drewN ?_ _)))) (by omega) (by omega)).mono ?_
    rintro e w6 ⟨v6, u6, rfl, hN6, hD6, hb6⟩
    replace hB := hB.below (show Below _ _ w6 by (repeat (first | exact bl_refl | assumption | (apply bl_then; assumption) | refine bl_alloc ?_ _ | refine bl_drew ?_ | refine bl_drewN ?_ _)))
    replace fhB := hB.facts
    replace hBk := hBk.below (show Below _ _ w6 by (repeat (first | exact bl_refl | assumption | (apply bl_then; assumption) | refine bl_alloc ?_ _ | refine bl_drew ?_ | refine bl_drewN ?_ _)))
    replace fhBk := hBk.facts
    go_wp2_with fail
    refine (pkinds_any N D _ (hN6.rd bc_len) (hD6.rd bc_len)).mono ?_
    rintro e w7 ⟨v7, rfl, hL7, hb7⟩
    replace hB := hB.below (show Below _ _ w7 by (repeat (first | exact bl_refl | assumption | (apply bl_then; assumption) | refine bl_alloc ?_ _ | refine bl_drew ?_ | refine bl_drewN ?_ _)))
    replace fhB := hB.facts
    replace hBk := hBk.below (show Below _ _ w7 by (repeat (first | exact bl_refl | assumption | (apply bl_then; assumption) | refine bl_alloc ?_ _ | refine bl_drew ?_ | refine bl_drewN ?_ _)))
    replace fhBk := hBk.facts
    obtain ⟨A7, c7, rfl⟩ := hL7.shape
    have hS7 : SlB w7 _ _ := hS5.below (by (repeat (first | exact bl_refl | assumption | (apply bl_then; assumption) | refine bl_alloc ?_ _ | refine bl_drew ?_ | refine bl_drewN ?_ _)))
    have hL7' : SlL w7 _ _ := hL7.rd lc_len
    have hbw7 : Below w.heap.size w w7 := by (repeat (first | exact bl_refl | assumption | (apply bl_then; assumption) | refine bl_alloc ?_ _ | refine bl_drew ?_ | refine bl_drewN ?_ _))
    clear hN6 hD6 hS5 hL7 hb6 hb7 hbw5
    go_wp2_with fail
    refine (torn_any N D _ (hN.below (by (repeat (first | exact bl_refl | assumption | (apply bl_then; assumption) | refine bl_alloc ?_ _ | refine bl_drew ?_ | refine bl_drewN ?_ _)))) (hD.below (by (repeat (first | exact bl_refl | assumption | (apply bl_then; assumption) | refine bl_alloc ?_ _ | refine bl_drew ?_ | refine bl_drewN ?_ _)))) (by omega) (by omega)).mono ?_
    rintro e w8 ⟨v8, u8, rfl, hN8, hD8, hb8⟩
    replace hB := hB.below (show Below _ _ w8 by (repeat (first | exact bl_refl | assumption | (apply bl_then; assumption) | refine bl_alloc ?_ _ | refine bl_drew ?_ | refine bl_drewN ?_ _)))
    replace fhB := hB.facts
    replace hBk := hBk.below (show Below _ _ w8 by (repeat (first | exact bl_refl | assumption | (apply bl_then; assumption) | refine bl_alloc ?_ _ | refine bl_drew ?_ | refine bl_drewN ?_ _)))
    replace fhBk := hBk.facts
    go_wp2_with fail
    refine (podd_any N D _ (hN8.rd bc_len) (hD8.rd bc_len)).mono ?_
    rintro e w9 ⟨v9, rfl, hO9, hb9⟩
    replace hB := hB.below (show Below _ _ w9 by (repeat (first | exact bl_refl | assumption | (apply bl_then; assumption) | refine bl_alloc ?_ _ | refine bl_drew ?_ | refine bl_drewN ?_ _)))
    replace fhB := hB.facts
    replace hBk := hBk.below (show Below _ _ w9 by (repeat (first | exact bl_refl | assumption | (apply bl_then; assumption) | refine bl_alloc ?_ _ | refine bl_drew ?_ | refine bl_drewN ?_ _)))
    replace fhBk := hBk.facts
    obtain ⟨A9, c9, rfl⟩ := hO9.shape
    have hS9 : SlB w9 _ _ := hS7.below (by (repeat (first | exact bl_refl | assumption | (apply bl_then; assumption) | refine bl_alloc ?_ _ | refine bl_drew ?_ | refine bl_drewN ?_ _)))
    have hL9 : SlL w9 _ _ := hL7'.below (by (repeat (first | exact bl_refl | assumption | (apply bl_then; assumption) | refine bl_alloc ?_ _ | refine bl_drew ?_ | refine bl_drewN ?_ _)))
    have hO9' : SlK w9 _ _ := hO9.rd kc_len
    have hbw9 : Below w.heap.size w w9 := by (repeat (first | exact bl_refl | assumption | (apply bl_then; assumption) | refine bl_alloc ?_ _ | refine bl_drew ?_ | refine bl_drewN ?_ _))
    clear hN8 hD8 hS7 hL7' hO9 hb8 hb9 hbw7
    go_wp2_with fail
    refine (torn_any N D _ (hN.below (by (repeat (first | exact bl_refl | assumption | (apply bl_then; assumption) | refine bl_alloc ?_ _ | refine bl_drew ?_ | refine bl_drewN ?_ _)))) (hD.below (by (repeat (first | exact bl_refl | assumption | (apply bl_then; assumption) | refine bl_alloc ?_ _ | refine bl_drew ?_ | refine bl_drewN ?_ _)))) (by omega) (by omega)).mono ?_
    rintro e w10 ⟨v10, u10, rfl, hN10, hD10, hb10⟩
    replace hB := hB.below (show Below _ _ w10 by (repeat (first | exact bl_refl | assumption | (apply bl_then; assumption) | refine bl_alloc ?_ _ | refine bl_drew ?_ | refine bl_drewN ?_ _)))
    replace fhB := hB.facts
    replace hBk := hBk.below (show Below _ _ w10 by (repeat (first | exact bl_refl | assumption | (apply bl_then; assumption) | refine bl_alloc ?_ _ | refine bl_drew ?_ | refine bl_drewN ?_ _)))
    replace fhBk := hBk.facts
    go_wp2_with fail
    refine (pbound_any N D _ (hN10.rd bc_len) (hD10.rd bc_len)).mono ?_
    rintro e w11 ⟨rfl, hb11⟩
    replace hB := hB.below (show Below _ _ w11 by (repeat (first | exact bl_refl | assumption | (apply bl_then; assumption) | refine bl_alloc ?_ _ | refine bl_drew ?_ | refine bl_drewN ?_ _)))
    replace fhB := hB.facts
    replace hBk := hBk.below (show Below _ _ w11 by (repeat (first | exact bl_refl | assumption | (apply bl_then; assumption) | refine bl_alloc ?_ _ | refine bl_drew ?_ | refine bl_drewN ?_ _)))
    replace fhBk := hBk.facts
    clear hN10 hD10
    go_wp2_with fail
    refine (rtorn_any N D _ (hN.below (by (repeat (first | exact bl_refl | assumption | (apply bl_then; assumption) | refine bl_alloc ?_ _ | refine bl_drew ?_ | refine bl_drewN ?_ _)))) (hD.below (by (repeat (first | exact bl_refl | assumption | (apply bl_then; assumption) | refine bl_alloc ?_ _ | refine bl_drew ?_ | refine bl_drewN ?_ _))))).mono ?_
    rintro e w12 ⟨rfl, hb12⟩
    replace hB := hB.below (show Below _ _ w12 by (repeat (first | exact bl_refl | assumption | (apply bl_then; assumption) | refine bl_alloc ?_ _ | refine bl_drew ?_ | refine bl_drewN ?_ _)))
    replace fhB := hB.facts
    replace hBk := hBk.below (show Below _ _ w12 by (repeat (first | exact bl_refl | assumption | (apply bl_then; assumption) | refine bl_alloc ?_ _ | refine bl_drew ?_ | refine bl_drewN ?_ _)))
    replace fhBk := hBk.facts
    go_wp2_with fail
    refine (rknot_any x y _).mono ?_
    rintro e w13 ⟨rfl, hb13⟩
    replace hB := hB.below (show Below _ _ w13 by (repeat (first | exact bl_refl | assumption | (apply bl_then; assumption) | refine bl_alloc ?_ _ | refine bl_drew ?_ | refine bl_drewN ?_ _)))
    replace fhB := hB.facts
    replace hBk := hBk.below (show Below _ _ w13 by (repeat (first | exact bl_refl | assumption | (apply bl_then; assumption) | refine bl_alloc ?_ _ | refine bl_drew ?_ | refine bl_drewN ?_ _)))
    replace fhBk := hBk.facts
    go_wp2_with fail
    refine (first2_any (tornE N D) (knotE x y) _).mono ?_
    rintro e w14 ⟨rfl, hb14⟩
    replace hB := hB.below (show Below _ _ w14 by (repeat (first | exact bl_refl | assumption | (apply bl_then; assumption) | refine bl_alloc ?_ _ | refine bl_drew ?_ | refine bl_drewN ?_ _)))
    replace fhB := hB.facts
    replace hBk := hBk.below (show Below _ _ w14 by (repeat (first | exact bl_refl | assumption | (apply bl_then; assumption) | refine bl_alloc ?_ _ | refine bl_drew ?_ | refine bl_drewN ?_ _)))
    replace fhBk := hBk.facts
    go_wp2_with fail
    refine (lwhen_any _ 7 _).mono ?_
    rintro e w15 ⟨rfl, hb15⟩
    replace hB := hB.below (show Below _ _ w15 by (repeat (first | exact bl_refl | assumption | (apply bl_then; assumption) | refine bl_alloc ?_ _ | refine bl_drew ?_ | refine bl_drewN ?_ _)))
    replace fhB := hB.facts
    replace hBk := hBk.below (show Below _ _ w15 by (repeat (first | exact bl_refl | assumption | (apply bl_then; assumption) | refine bl_alloc ?_ _ | refine bl_drew ?_ | refine bl_drewN ?_ _)))
    replace fhBk := hBk.facts
    go_wp2_with fail
    refine (first2_any (tornE N D) _ _).mono ?_
    rintro e w16 ⟨rfl, hb16⟩
    replace hB := hB.below (show Below _ _ w16 by (repeat (first | exact bl_refl | assumption | (apply bl_then; assumption) | refine bl_alloc ?_ _ | refine bl_drew ?_ | refine bl_drewN ?_ _)))
    replace fhB := hB.facts
    replace hBk := hBk.below (show Below _ _ w16 by (repeat (first | exact bl_refl | assumption | (apply bl_then; assumption) | refine bl_alloc ?_ _ | refine bl_drew ?_ | refine bl_drewN ?_ _)))
    replace fhBk := hBk.facts
    rw [none_form, show firstI [tornE N D, knotE x y] = twoE N D (x, y) from rfl]
    have hS16 : SlB w16 _ _ := hS9.below (by (repeat (first | exact bl_refl | assumption | (apply bl_then; assumption) | refine bl_alloc ?_ _ | refine bl_drew ?_ | refine bl_drewN ?_ _)))
    have hL16 : SlL w16 _ _ := hL9.below (by (repeat (first | exact bl_refl | assumption | (apply bl_then; assumption) | refine bl_alloc ?_ _ | refine bl_drew ?_ | refine bl_drewN ?_ _)))
    have hO16 : SlK w16 _ _ := hO9'.below (by (repeat (first | exact bl_refl | assumption | (apply bl_then; assumption) | refine bl_alloc ?_ _ | refine bl_drew ?_ | refine bl_drewN ?_ _)))
    have hbw16 : Below w.heap.size w w16 := by (repeat (first | exact bl_refl | assumption | (apply bl_then; assumption) | refine bl_alloc ?_ _ | refine bl_drew ?_ | refine bl_drewN ?_ _))
    clear hS9 hL9 hO9' hb10 hb11 hb12 hb13 hb14 hb15 hb16 hbw9
    go_upto_if 74 with fail
    go_cut [18, 19, 20] from 23 (fun s18 s19 s20 wx => SlB wx s18 (soundL N D) ∧ SlL wx s19 (kindsL N D) ∧ SlK wx s20 (oddR N D) ∧ Below w16.heap.size w16 wx)
    case first =>
      by_cases hE : tornE N D = 0
      · have hE' : (tornE N D == 0) = true := by rw [hE]; rfl
        have hok := torn_ok hE
        have HR : Hid (soundL N D = wout N D ∧ kindsL N D = (holeK D).map (legOf D) ∧ oddR N D = oddK D) := by unfold Hid soundL kindsL oddR; rw [if_pos hE, if_pos hE, if_pos hE]; exact ⟨rfl, rfl, rfl⟩
        clear hE
        go_wp2_with fail
        refine wp_region_ords [0, 2, 4] [(1, false), (3, false)] [5, 6, 7, 8] (by kernel_rfl) (by kernel_rfl) (fun d _ _ _ _ h => by cases d <;> exact h) ?_
        simp only [List.map_cons, List.map_nil, List.getD_cons_zero, List.getD_cons_succ]
        repeat (go_big_quiet_step (fail))
        refine wpQuiet_nil ?_
        refine wpMid_run rfl (fun K hK => ?_)
        go_simp
        refine (rsound_any N D _ (hN.below (by (repeat (first | exact bl_refl | assumption | (apply bl_then; assumption) | refine bl_alloc ?_ _ | refine bl_drew ?_ | refine bl_drewN ?_ _)))) (hD.below (by (repeat (first | exact bl_refl | assumption | (apply bl_then; assumption) | refine bl_alloc ?_ _ | refine bl_drew ?_ | refine bl_drewN ?_ _)))) (by omega)).mono ?_
        rintro e w17 ⟨v17, rfl, hX17, hb17⟩
        refine hK _ _ (by (repeat (first | exact bl_refl | assumption | (apply bl_then; assumption) | refine bl_alloc ?_ _ | refine bl_drew ?_ | refine bl_drewN ?_ _))) ?_
        clear hK K
        refine wpMid_run rfl (fun K hK => ?_)
        go_simp
        refine (rkinds_any D _ (hD.below (by (repeat (first | exact bl_refl | assumption | (apply bl_then; assumption) | refine bl_alloc ?_ _ | refine bl_drew ?_ | refine bl_drewN ?_ _)))) hok.dam.ok (by omega)).mono ?_
        rintro e w18 ⟨v18, rfl, hX18, hb18⟩
        refine hK _ _ (by (repeat (first | exact bl_refl | assumption | (apply bl_then; assumption) | refine bl_alloc ?_ _ | refine bl_drew ?_ | refine bl_drewN ?_ _))) ?_
        clear hK K
        refine wpMid_nil ?_
        have hbw18 : Below w16.heap.size w16 w18 := by (repeat (first | exact bl_refl | assumption | (apply bl_then; assumption) | refine bl_alloc ?_ _ | refine bl_drew ?_ | refine bl_drewN ?_ _))
        replace fhB := (hB.below hbw18).facts
        go_wp2_with fail
        refine (rodd_any D _ (hD.below (by (repeat (first | exact bl_refl | assumption | (apply bl_then; assumption) | refine bl_alloc ?_ _ | refine bl_drew ?_ | refine bl_drewN ?_ _)))) hok.dam.ok (by omega)).mono ?_
        rintro e w19 ⟨v19, rfl, hX19, hb19⟩
        go_wp2_with fail
        go_meet
        case rel => exact ⟨by rw [HR.out.1]; exact ((hX17.rd bc_len).below (by (repeat (first | exact bl_refl | assumption | (apply bl_then; assumption) | refine bl_alloc ?_ _ | refine bl_drew ?_ | refine bl_drewN ?_ _)))).below (by (repeat (first | exact bl_refl | assumption | (apply bl_then; assumption) | refine bl_alloc ?_ _ | refine bl_drew ?_ | refine bl_drewN ?_ _))), by rw [HR.out.2.1]; exact (hX18.rd lc_len).below (by (repeat (first | exact bl_refl | assumption | (apply bl_then; assumption) | refine bl_alloc ?_ _ | refine bl_drew ?_ | refine bl_drewN ?_ _))), by rw [HR.out.2.2]; exact hX19.rd kc_len, by (repeat (first | exact bl_refl | assumption | (apply bl_then; assumption) | refine bl_alloc ?_ _ | refine bl_drew ?_ | refine bl_drewN ?_ _))⟩
      · have hE' : (tornE N D == 0) = false := by simpa using hE
        have HR : Hid (soundL N D = [] ∧ kindsL N D = [] ∧ oddR N D = []) := by unfold Hid soundL kindsL oddR; rw [if_neg hE, if_neg hE, if_neg hE]; exact ⟨rfl, rfl, rfl⟩
        clear hE
        go_wp2_with fail
        go_meet
        case rel => exact ⟨by rw [HR.out.1]; exact Sl.nil_, by rw [HR.out.2.1]; exact Sl.nil_, by rw [HR.out.2.2]; exact Sl.nil_, by (repeat (first | exact bl_refl | assumption | (apply bl_then; assumption) | refine bl_alloc ?_ _ | refine bl_drew ?_ | refine bl_drewN ?_ _))⟩
    case rest =>
      obtain ⟨hX, hY, hZ, hbc⟩ := hcut
      replace hB := hB.below hbc
      replace hBk := hBk.below hbc
      replace fhB := hB.facts
      replace fhBk := hBk.facts
      have hSc := hS16.below hbc
      have hLc := hL16.below hbc
      have hOc := hO16.below hbc
      have hbwc : Below w.heap.size w wc := bl_then hbc hbw16
      clear hS16 hL16 hO16 hbc hbw16
      go_upto_if 82 with fail
      go_cut [21] from 23 (fun s21 wx => s21 = .int .i64 (missR N D (x, y)) ∧ Below wc.heap.size wc wx)
      case first =>
        by_cases h2 : twoE N D (x, y) = 0
        · have h2' : (twoE N D (x, y) == 0) = true := by rw [h2]; rfl
          obtain ⟨hok, hkn⟩ := twoE_ok h2
          obtain ⟨kx1, kx2, ky1, ky2, _⟩ := knotE_zero hkn
          have HR : Hid (missR N D (x, y) = (missN D (x, y) : Int)) := by unfold Hid missR; rw [if_pos h2]
          clear h2 hkn
          go_wp2_with fail
          refine (missing_any D x y _ (hD.below (by (repeat (first | exact bl_refl | assumption | (apply bl_then; assumption) | refine bl_alloc ?_ _ | refine bl_drew ?_ | refine bl_drewN ?_ _)))) (by omega) (by omega)).mono ?_
          rintro e w17 ⟨rfl, hb17⟩
          go_wp2_with fail
          go_meet
          case rel => exact ⟨by rw [HR.out], by (repeat (first | exact bl_refl | assumption | (apply bl_then; assumption) | refine bl_alloc ?_ _ | refine bl_drew ?_ | refine bl_drewN ?_ _))⟩
        · have h2' : (twoE N D (x, y) == 0) = false := by simpa using h2
          have HR : Hid (missR N D (x, y) = 0) := by unfold Hid missR; rw [if_neg h2]
          clear h2
          go_wp2_with fail
          go_meet
          case rel => exact ⟨by rw [HR.out], by (repeat (first | exact bl_refl | assumption | (apply bl_then; assumption) | refine bl_alloc ?_ _ | refine bl_drew ?_ | refine bl_drewN ?_ _))⟩
      case rest =>
        obtain ⟨rfl, hbd⟩ := hcut
        replace hB := hB.below hbd
        replace hBk := hBk.below hbd
        replace fhB := hB.facts
        replace fhBk := hBk.facts
        replace hX := hX.below hbd
        replace hY := hY.below hbd
        replace hZ := hZ.below hbd
        replace hSc := hSc.below hbd
        replace hLc := hLc.below hbd
        replace hOc := hOc.below hbd
        replace hbwc : Below w.heap.size w wc := bl_then hbd hbwc
        clear hbd
        go_upto_if 87 with fail
        go_cut [22] from 23 (fun s22 wx => s22 = .int .i64 (boundR N D) ∧ Below wc.heap.size wc wx)
        case first =>
          by_cases h3 : noneE N D = 0
          · have h3' : (noneE N D == 0) = true := by rw [h3]; rfl
            obtain ⟨hok, _⟩ := noneE_ok h3
            have HR : Hid (boundR N D = boundN D) := by unfold Hid boundR; rw [if_pos h3]
            clear h3
            go_wp2_with fail
            refine (rbound_any D _ (hD.below (by (repeat (first | exact bl_refl | assumption | (apply bl_then; assumption) | refine bl_alloc ?_ _ | refine bl_drew ?_ | refine bl_drewN ?_ _)))) hok.dam.ok (by omega)).mono ?_
            rintro e w17 ⟨rfl, hb17⟩
            go_wp2_with fail
            go_meet
            case rel => exact ⟨by rw [HR.out], by (repeat (first | exact bl_refl | assumption | (apply bl_then; assumption) | refine bl_alloc ?_ _ | refine bl_drew ?_ | refine bl_drewN ?_ _))⟩
          · have h3' : (noneE N D == 0) = false := by simpa using h3
            have HR : Hid (boundR N D = 0) := by unfold Hid boundR; rw [if_neg h3]
            clear h3
            go_wp2_with fail
            go_meet
            case rel => exact ⟨by rw [HR.out], by (repeat (first | exact bl_refl | assumption | (apply bl_then; assumption) | refine bl_alloc ?_ _ | refine bl_drew ?_ | refine bl_drewN ?_ _))⟩
        case rest =>
          obtain ⟨rfl, hbe⟩ := hcut
          replace hB := hB.below hbe
          replace fhB := hB.facts
          replace hX := hX.below hbe
          replace hY := hY.below hbe
          replace hZ := hZ.below hbe
          replace hSc := hSc.below hbe
          replace hLc := hLc.below hbe
          replace hOc := hOc.below hbe
          replace hbwc : Below w.heap.size w wc := bl_then hbe hbwc
          clear hbe
          have hkl : (kindsL N D).length ≤ 300000 := by
            unfold kindsL
            split
            · rw [List.length_map]; have := hole_len (D := D); omega
            · simp
          have HSS := Lib.hid (sameL_self (kindsL N D))
          go_wp2_with fail
          refine (torn_any N D _ (hN.below (by (repeat (first | exact bl_refl | assumption | (apply bl_then; assumption) | refine bl_alloc ?_ _ | refine bl_drew ?_ | refine bl_drewN ?_ _)))) (hD.below (by (repeat (first | exact bl_refl | assumption | (apply bl_then; assumption) | refine bl_alloc ?_ _ | refine bl_drew ?_ | refine bl_drewN ?_ _)))) (by omega) (by omega)).mono ?_
          rintro e w18 ⟨v18, u18, rfl, hN18, hD18, hb18⟩
          go_wp2_with fail
          refine (mtorn_any N D _ (hN18.rd bc_len) (hD18.rd bc_len)).mono ?_
          rintro e w19 ⟨rfl, hb19⟩
          have hb19' : Below wc.heap.size wc w19 := by (repeat (first | exact bl_refl | assumption | (apply bl_then; assumption) | refine bl_alloc ?_ _ | refine bl_drew ?_ | refine bl_drewN ?_ _))
          clear hN18 hD18 hb18 hb19
          go_wp2_with fail
          refine (sameBars_any _ _ _ (hSc.below (by (repeat (first | exact bl_refl | assumption | (apply bl_then; assumption) | refine bl_alloc ?_ _ | refine bl_drew ?_ | refine bl_drewN ?_ _)))) (hX.below (by (repeat (first | exact bl_refl | assumption | (apply bl_then; assumption) | refine bl_alloc ?_ _ | refine bl_drew ?_ | refine bl_drewN ?_ _))))).mono ?_
          rintro e w20 ⟨rfl, hb20⟩
          go_wp2_with fail
          refine (llegs_any _ _ (hLc.below (by (repeat (first | exact bl_refl | assumption | (apply bl_then; assumption) | refine bl_alloc ?_ _ | refine bl_drew ?_ | refine bl_drewN ?_ _)))) hkl).mono ?_
          rintro e w21 ⟨v21, rfl, hM21, hb21⟩
          go_wp2_with fail
          refine (sameLegs_any _ _ _ (hM21.rd lc_len) (hY.below (by (repeat (first | exact bl_refl | assumption | (apply bl_then; assumption) | refine bl_alloc ?_ _ | refine bl_drew ?_ | refine bl_drewN ?_ _))))).mono ?_
          rintro e w22 ⟨rfl, hb22⟩
          rw [HSS.out]
          go_wp2_with fail
          refine (sameKnots_any _ _ _ (hOc.below (by (repeat (first | exact bl_refl | assumption | (apply bl_then; assumption) | refine bl_alloc ?_ _ | refine bl_drew ?_ | refine bl_drewN ?_ _)))) (hZ.below (by (repeat (first | exact bl_refl | assumption | (apply bl_then; assumption) | refine bl_alloc ?_ _ | refine bl_drew ?_ | refine bl_drewN ?_ _))))).mono ?_
          rintro e w23 ⟨rfl, hb23⟩
          go_wp2_with fail
          refine (awake_any _).mono ?_
          rintro e w24 ⟨rfl, hb24⟩
          go_wp2
          go_ret
          exact ⟨rfl, by (repeat (first | exact bl_refl | assumption | (apply bl_then; assumption) | refine bl_alloc ?_ _ | refine bl_drew ?_ | refine bl_drewN ?_ _))⟩
  · have hsh : ∀ W (hN : SlB W v N) (hD : SlB W (.slice A2 D.length c2) D), Calls Tryz.prog 15 #[.agg #[v, .slice A2 D.length c2], .int .i64 40] W (RV W (.bool false)) := fun W hN hD => by
      have := short_any N D 40 W hN hD
      rwa [show (decide ((N.length : Int) ≤ 40) && decide ((D.length : Int) ≤ 40)) = false by simp; omega] at this
    go_enter Tryz.func9, Tryz.ntmps9
    go_wp2_with fail
    refine (hsh _ (hN.below (by (repeat (first | exact bl_refl | assumption | (apply bl_then; assumption) | refine bl_alloc ?_ _ | refine bl_drew ?_ | refine bl_drewN ?_ _)))) (hD.below (by (repeat (first | exact bl_refl | assumption | (apply bl_then; assumption) | refine bl_alloc ?_ _ | refine bl_drew ?_ | refine bl_drewN ?_ _))))).mono ?_
    rintro e w1 ⟨rfl, hb1⟩
    replace hB := hB.below (show Below _ _ w1 by (repeat (first | exact bl_refl | assumption | (apply bl_then; assumption) | refine bl_alloc ?_ _ | refine bl_drew ?_ | refine bl_drewN ?_ _)))
    replace fhB := hB.facts
    replace hBk := hBk.below (show Below _ _ w1 by (repeat (first | exact bl_refl | assumption | (apply bl_then; assumption) | refine bl_alloc ?_ _ | refine bl_drew ?_ | refine bl_drewN ?_ _)))
    replace fhBk := hBk.facts
    go_wp2_with fail
    refine (awake_any _).mono ?_
    rintro e w2 ⟨rfl, hb2⟩
    go_wp2
    go_ret
    exact ⟨rfl, by (repeat (first | exact bl_refl | assumption | (apply bl_then; assumption) | refine bl_alloc ?_ _ | refine bl_drew ?_ | refine bl_drewN ?_ _))⟩
end Go.Proofs.YthcnngoaijgnoaaGreat

/- The missing bars between full knots, and the bars of a walk, of the reference, walked. Conditions: bars within bounds. -/
import Derived.Test.YthcnngoaijgnoaaGreatK11
namespace Go.Proofs.YthcnngoaijgnoaaGreat
open Go.RowKit Go.ChangeMaps
set_option maxHeartbeats 4000000
set_option maxRecDepth 100000

theorem four_int {D : List Bar} {k : Knot} {q : Bool} (h : (cnt (legsAt D k) == 4) = q) : (((missN D k : Nat) : Int) == 4) = q := by
  rw [← h, Bool.eq_iff_iff]
  unfold missN
  simp
  omega
theorem rinner_any {v u : Value} (D : List Bar) (w : World) (hD : SlB w u D) (hk : ∀ b ∈ D, BarOk b) (hlen : D.length ≤ 100000) :
    Calls Tryz.prog 39 #[.agg #[v, u]] w (RB w (D.filter (inB D))) := by
  obtain ⟨A, c, rfl, hlc, hcm, h⟩ := hD
  have hB := Blk.new w 24 #[v, .slice A D.length c]
  have HK := Lib.hid hk
  clear hk
  go_enter Tryz.func39, Tryz.ntmps39
  go_wp2
  go_loopw [3, 4] (fun o i wr => ∃ k : Nat, k ≤ D.length ∧ i = .int .i64 k ∧ Blk wr w.heap.size 24 #[v, .slice A D.length c] ∧ OwB w.heap.size wr o ((D.take k).filter (inB D)) ∧ Below w.heap.size w wr) (fun _ i _ => D.length - (intOf i).toNat)
  case atStart => exact ⟨0, Nat.zero_le _, rfl, hB, Own.nil_, by (repeat (first | exact bl_refl | assumption | (apply bl_then; assumption) | refine bl_alloc ?_ _ | refine bl_drew ?_ | refine bl_drewN ?_ _))⟩
  case round =>
    clear hB
    obtain ⟨k, hkl, rfl, hT, hown, hbw⟩ := hrel
    have fT := hT.facts
    by_cases hlt : k < D.length
    · have hr := h.below hbw
      have hwl : ((D.take k).filter (inB D)).length ≤ 1000000 := Nat.le_trans (List.length_filter_le _ _) (by simp; omega)
      have hbo := HK.out _ (List.getElem_mem hlt)
      have HF := Lib.hid (filter_take (inB D) hlt)
      obtain ⟨b, off, rfl, hb, e0, e1, e2⟩ := hr.bar hlt
      obtain ⟨⟨x, y, s⟩, hx⟩ : ∃ z, D[k] = z := ⟨_, rfl⟩
      have HX := Lib.hid hx
      rw [hx] at e0 e1 e2 hbo HF
      obtain ⟨q1, q2, q3⟩ := hbo
      simp only at q1 q2 q3 e0 e1 e2
      have hDr : SlB wr (.slice (some ⟨b, off, none⟩) D.length c) D := ⟨_, c, rfl, hlc, hcm, hr⟩
      have hm1 := fun (v : Value) X (hX : SlB X (.slice (some ⟨b, off, none⟩) D.length c) D) => missing_any (v := v) D x y X hX (by omega) (by omega)
      have hm2 := fun (v : Value) X (hX : SlB X (.slice (some ⟨b, off, none⟩) D.length c) D) => missing_any (v := v) D (x + s) (y + 1) X hX (by omega) (by omega)
      obtain ⟨p1, hp1⟩ : ∃ q, (cnt (legsAt D (x, y)) == 4) = q := ⟨_, rfl⟩
      obtain ⟨p2, hp2⟩ : ∃ q, (cnt (legsAt D (x + s, y + 1)) == 4) = q := ⟨_, rfl⟩
      have hi1 := four_int hp1
      have hi2 := four_int hp2
      have HI : Hid (inB D (x, y, s) = (p1 && p2)) := by
        have h1 : (cnt (legsAt D (lowK (x, y, s))) == 4) = p1 := hp1
        have h2 : (cnt (legsAt D (uppK (x, y, s))) == 4) = p2 := hp2
        unfold Hid inB
        rw [h1, h2]
      clear hp1 hp2 hx
      cases p1
      · go_wp2
        refine wp_region_ords [0, 1, 2, 3, 4, 5] [(6, false), (7, false), (8, false), (9, false), (10, true), (11, true), (12, true), (13, false), (14, false), (15, false), (16, false)] [17, 18, 19] (by kernel_rfl) (by kernel_rfl) (fun d _ _ _ _ h => by cases d <;> exact h) ?_
        simp only [List.map_cons, List.map_nil, List.getD_cons_zero, List.getD_cons_succ]
        repeat (go_big_quiet_step (fail))
        refine wpQuiet_nil ?_
        refine wpMid_run rfl (fun K hK => ?_)
        go_simp
        refine (low_any x y s _).mono ?_
        rintro e w4 ⟨rfl, hb4⟩
        refine hK _ _ (by (repeat (first | exact bl_refl | assumption | (apply bl_then; assumption) | refine bl_alloc ?_ _ | refine bl_drew ?_ | refine bl_drewN ?_ _))) ?_
        clear hK K
        refine wpMid_run rfl (fun K hK => ?_)
        go_simp
        refine (hm1 _ _ (hDr.below (by (repeat (first | exact bl_refl | assumption | (apply bl_then; assumption) | refine bl_alloc ?_ _ | refine bl_drew ?_ | refine bl_drewN ?_ _))))).mono ?_
        rintro e w5 ⟨rfl, hb5⟩
        refine hK _ _ (by (repeat (first | exact bl_refl | assumption | (apply bl_then; assumption) | refine bl_alloc ?_ _ | refine bl_drew ?_ | refine bl_drewN ?_ _))) ?_
        clear hK K
        refine wpMid_run rfl (fun K hK => ?_)
        go_simp
        refine hK _ _ (by (repeat (first | exact bl_refl | assumption | (apply bl_then; assumption) | refine bl_alloc ?_ _ | refine bl_drew ?_ | refine bl_drewN ?_ _))) ?_
        clear hK K
        refine wpMid_run rfl (fun K hK => ?_)
        go_simp
        refine hK _ _ (by (repeat (first | exact bl_refl | assumption | (apply bl_then; assumption) | refine bl_alloc ?_ _ | refine bl_drew ?_ | refine bl_drewN ?_ _))) ?_
        clear hK K
        refine wpMid_skipT (by kernel_rfl) ?_
        intro K hK
        simp only [Act.put, List.setIfInBounds_toArray, List.set_cons_zero, List.set_cons_succ]
        refine hK _ ?_
        clear hK K
        refine wpMid_skipT (by kernel_rfl) ?_
        intro K hK
        simp only [Act.put, List.setIfInBounds_toArray, List.set_cons_zero, List.set_cons_succ]
        refine hK _ ?_
        clear hK K
        refine wpMid_skipT (by kernel_rfl) ?_
        intro K hK
        simp only [Act.put, List.setIfInBounds_toArray, List.set_cons_zero, List.set_cons_succ]
        refine hK _ ?_
        clear hK K
        refine wpMid_skipF (by kernel_rfl) ?_
        intro K hK
        simp only [Act.put, List.setIfInBounds_toArray, List.set_cons_zero, List.set_cons_succ]
        refine hK _ ?_
        clear hK K
        refine wpMid_skipF (by kernel_rfl) ?_
        intro K hK
        simp only [Act.put, List.setIfInBounds_toArray, List.set_cons_zero, List.set_cons_succ]
        refine hK _ ?_
        clear hK K
        refine wpMid_skipF (by kernel_rfl) ?_
        intro K hK
        simp only [Act.put, List.setIfInBounds_toArray, List.set_cons_zero, List.set_cons_succ]
        refine hK _ ?_
        clear hK K
        refine wpMid_skipF (by kernel_rfl) ?_
        intro K hK
        simp only [Act.put, List.setIfInBounds_toArray, List.set_cons_zero, List.set_cons_succ]
        refine hK _ ?_
        clear hK K
        refine wpMid_nil ?_
        go_wp2
        go_roundw
        case rel => exact ⟨k + 1, by omega, by go_num, hT.below (show Below wr.heap.size wr w5 by (repeat (first | exact bl_refl | assumption | (apply bl_then; assumption) | refine bl_alloc ?_ _ | refine bl_drew ?_ | refine bl_drewN ?_ _))), by rw [HF.out, HI.out]; simpa using hown.below (show Below wr.heap.size wr w5 by (repeat (first | exact bl_refl | assumption | (apply bl_then; assumption) | refine bl_alloc ?_ _ | refine bl_drew ?_ | refine bl_drewN ?_ _))), by (repeat (first | exact bl_refl | assumption | (apply bl_then; assumption) | refine bl_alloc ?_ _ | refine bl_drew ?_ | refine bl_drewN ?_ _))⟩
        case measure => simp [intOf]; omega
      · have hmid : ∀ p, p2 = p → True := fun _ _ => trivial
        cases p2
        · go_wp2
          refine wp_region_ords [0, 1, 2, 3, 4, 5] [(6, false), (7, false), (8, false), (9, false), (10, true), (11, true), (12, true), (13, false), (14, false), (15, false), (16, false)] [17, 18, 19] (by kernel_rfl) (by kernel_rfl) (fun d _ _ _ _ h => by cases d <;> exact h) ?_
          simp only [List.map_cons, List.map_nil, List.getD_cons_zero, List.getD_cons_succ]
          repeat (go_big_quiet_step (fail))
          refine wpQuiet_nil ?_
          refine wpMid_run rfl (fun K hK => ?_)
          go_simp
          refine (low_any x y s _).mono ?_
          rintro e w4 ⟨rfl, hb4⟩
          refine hK _ _ (by (repeat (first | exact bl_refl | assumption | (apply bl_then; assumption) | refine bl_alloc ?_ _ | refine bl_drew ?_ | refine bl_drewN ?_ _))) ?_
          clear hK K
          refine wpMid_run rfl (fun K hK => ?_)
          go_simp
          refine (hm1 _ _ (hDr.below (by (repeat (first | exact bl_refl | assumption | (apply bl_then; assumption) | refine bl_alloc ?_ _ | refine bl_drew ?_ | refine bl_drewN ?_ _))))).mono ?_
          rintro e w5 ⟨rfl, hb5⟩
          refine hK _ _ (by (repeat (first | exact bl_refl | assumption | (apply bl_then; assumption) | refine bl_alloc ?_ _ | refine bl_drew ?_ | refine bl_drewN ?_ _))) ?_
          clear hK K
          have hT5 := hT.below (show Below wr.heap.size wr w5 by (repeat (first | exact bl_refl | assumption | (apply bl_then; assumption) | refine bl_alloc ?_ _ | refine bl_drew ?_ | refine bl_drewN ?_ _)))
          have fT5 := hT5.facts
          obtain ⟨hb5', f0, f1, f2⟩ := (hr.below (show Below wr.heap.size wr w5 by (repeat (first | exact bl_refl | assumption | (apply bl_then; assumption) | refine bl_alloc ?_ _ | refine bl_drew ?_ | refine bl_drewN ?_ _)))).barAt hlt
          rw [HX.out] at f0 f1 f2
          simp only at f0 f1 f2
          refine wpMid_run rfl (fun K hK => ?_)
          go_simp
          refine hK _ _ (by (repeat (first | exact bl_refl | assumption | (apply bl_then; assumption) | refine bl_alloc ?_ _ | refine bl_drew ?_ | refine bl_drewN ?_ _))) ?_
          clear hK K
          refine wpMid_run rfl (fun K hK => ?_)
          go_simp
          refine hK _ _ (by (repeat (first | exact bl_refl | assumption | (apply bl_then; assumption) | refine bl_alloc ?_ _ | refine bl_drew ?_ | refine bl_drewN ?_ _))) ?_
          clear hK K
          refine wpMid_take rfl ?_
          intro K hK
          go_big_quiet_op
          go_big_quiet_on
          refine wpMid_take rfl ?_
          intro K hK
          go_big_quiet_op
          go_big_quiet_on
          refine wpMid_take rfl ?_
          intro K hK
          go_big_quiet_op
          go_big_quiet_on
          refine wpMid_run rfl (fun K hK => ?_)
          go_simp
          refine hK _ _ (by (repeat (first | exact bl_refl | assumption | (apply bl_then; assumption) | refine bl_alloc ?_ _ | refine bl_drew ?_ | refine bl_drewN ?_ _))) ?_
          clear hK K
          refine wpMid_run rfl (fun K hK => ?_)
          go_simp
          refine hK _ _ (by (repeat (first | exact bl_refl | assumption | (apply bl_then; assumption) | refine bl_alloc ?_ _ | refine bl_drew ?_ | refine bl_drewN ?_ _))) ?_
          clear hK K
          refine wpMid_run rfl (fun K hK => ?_)
          go_simp
          refine hK _ _ (by (repeat (first | exact bl_refl | assumption | (apply bl_then; assumption) | refine bl_alloc ?_ _ | refine bl_drew ?_ | refine bl_drewN ?_ _))) ?_
          clear hK K
          refine wpMid_run rfl (fun K hK => ?_)
          go_simp
          refine (high_any x y s (by omega) (by omega) (by omega) _).mono ?_
          rintro e w6 ⟨rfl, hb6⟩
          refine hK _ _ (by (repeat (first | exact bl_refl | assumption | (apply bl_then; assumption) | refine bl_alloc ?_ _ | refine bl_drew ?_ | refine bl_drewN ?_ _))) ?_
          clear hK K
          refine wpMid_nil ?_
          go_wp2_with (go_at_call 26; refine (hm2 _ _ (hDr.below (by (repeat (first | exact bl_refl | assumption | (apply bl_then; assumption) | refine bl_alloc ?_ _ | refine bl_drew ?_ | refine bl_drewN ?_ _))))).mono ?_; rintro e w7 ⟨rfl, hb7⟩)
          go_roundw
          case rel => exact ⟨k + 1, by omega, by go_num, hT.below (show Below wr.heap.size wr w7 by (repeat (first | exact bl_refl | assumption | (apply bl_then; assumption) | refine bl_alloc ?_ _ | refine bl_drew ?_ | refine bl_drewN ?_ _))), by rw [HF.out, HI.out]; simpa using hown.below (show Below wr.heap.size wr w7 by (repeat (first | exact bl_refl | assumption | (apply bl_then; assumption) | refine bl_alloc ?_ _ | refine bl_drew ?_ | refine bl_drewN ?_ _))), by (repeat (first | exact bl_refl | assumption | (apply bl_then; assumption) | refine bl_alloc ?_ _ | refine bl_drew ?_ | refine bl_drewN ?_ _))⟩
          case measure => simp [intOf]; omega
        · go_wp2
          refine wp_region_ords [0, 1, 2, 3, 4, 5] [(6, false), (7, false), (8, false), (9, false), (10, true), (11, true), (12, true), (13, false), (14, false), (15, false), (16, false)] [17, 18, 19] (by kernel_rfl) (by kernel_rfl) (fun d _ _ _ _ h => by cases d <;> exact h) ?_
          simp only [List.map_cons, List.map_nil, List.getD_cons_zero, List.getD_cons_succ]
          repeat (go_big_quiet_step (fail))
          refine wpQuiet_nil ?_
          refine wpMid_run rfl (fun K hK => ?_)
          go_simp
          refine (low_any x y s _).mono ?_
          rintro e w4 ⟨rfl, hb4⟩
          refine hK _ _ (by (repeat (first | exact bl_refl | assumption | (apply bl_then; assumption) | refine bl_alloc ?_ _ | refine bl_drew ?_ | refine bl_drewN ?_ _))) ?_
          clear hK K
          refine wpMid_run rfl (fun K hK => ?_)
          go_simp
          refine (hm1 _ _ (hDr.below (by (repeat (first | exact bl_refl | assumption | (apply bl_then; assumption) | refine bl_alloc ?_ _ | refine bl_drew ?_ | refine bl_drewN ?_ _))))).mono ?_
          rintro e w5 ⟨rfl, hb5⟩
          refine hK _ _ (by (repeat (first | exact bl_refl | assumption | (apply bl_then; assumption) | refine bl_alloc ?_ _ | refine bl_drew ?_ | refine bl_drewN ?_ _))) ?_
          clear hK K
          have hT5 := hT.below (show Below wr.heap.size wr w5 by (repeat (first | exact bl_refl | assumption | (apply bl_then; assumption) | refine bl_alloc ?_ _ | refine bl_drew ?_ | refine bl_drewN ?_ _)))
          have fT5 := hT5.facts
          obtain ⟨hb5', f0, f1, f2⟩ := (hr.below (show Below wr.heap.size wr w5 by (repeat (first | exact bl_refl | assumption | (apply bl_then; assumption) | refine bl_alloc ?_ _ | refine bl_drew ?_ | refine bl_drewN ?_ _)))).barAt hlt
          rw [HX.out] at f0 f1 f2
          simp only at f0 f1 f2
          refine wpMid_run rfl (fun K hK => ?_)
          go_simp
          refine hK _ _ (by (repeat (first | exact bl_refl | assumption | (apply bl_then; assumption) | refine bl_alloc ?_ _ | refine bl_drew ?_ | refine bl_drewN ?_ _))) ?_
          clear hK K
          refine wpMid_run rfl (fun K hK => ?_)
          go_simp
          refine hK _ _ (by (repeat (first | exact bl_refl | assumption | (apply bl_then; assumption) | refine bl_alloc ?_ _ | refine bl_drew ?_ | refine bl_drewN ?_ _))) ?_
          clear hK K
          refine wpMid_take rfl ?_
          intro K hK
          go_big_quiet_op
          go_big_quiet_on
          refine wpMid_take rfl ?_
          intro K hK
          go_big_quiet_op
          go_big_quiet_on
          refine wpMid_take rfl ?_
          intro K hK
          go_big_quiet_op
          go_big_quiet_on
          refine wpMid_run rfl (fun K hK => ?_)
          go_simp
          refine hK _ _ (by (repeat (first | exact bl_refl | assumption | (apply bl_then; assumption) | refine bl_alloc ?_ _ | refine bl_drew ?_ | refine bl_drewN ?_ _))) ?_
          clear hK K
          refine wpMid_run rfl (fun K hK => ?_)
          go_simp
          refine hK _ _ (by (repeat (first | exact bl_refl | assumption | (apply bl_then; assumption) | refine bl_alloc ?_ _ | refine bl_drew ?_ | refine bl_drewN ?_ _))) ?_
          clear hK K
          refine wpMid_run rfl (fun K hK => ?_)
          go_simp
          refine hK _ _ (by (repeat (first | exact bl_refl | assumption | (apply bl_then; assumption) | refine bl_alloc ?_ _ | refine bl_drew ?_ | refine bl_drewN ?_ _))) ?_
          clear hK K
          refine wpMid_run rfl (fun K hK => ?_)
          go_simp
          refine (high_any x y s (by omega) (by omega) (by omega) _).mono ?_
          rintro e w6 ⟨rfl, hb6⟩
          refine hK _ _ (by (repeat (first | exact bl_refl | assumption | (apply bl_then; assumption) | refine bl_alloc ?_ _ | refine bl_drew ?_ | refine bl_drewN ?_ _))) ?_
          clear hK K
          refine wpMid_nil ?_
          go_wp2_with (first | (go_at_call 26; refine (hm2 _ _ (hDr.below (by (repeat (first | exact bl_refl | assumption | (apply bl_then; assumption) | refine bl_alloc ?_ _ | refine bl_drew ?_ | refine bl_drewN ?_ _))))).mono ?_; rintro e w7 ⟨rfl, hb7⟩; have hT7 := hT.below (show Below wr.heap.size wr w7 by (repeat (first | exact bl_refl | assumption | (apply bl_then; assumption) | refine bl_alloc ?_ _ | refine bl_drew ?_ | refine bl_drewN ?_ _))); have fT7 := hT7.facts; have hown7 := hown.below (show Below wr.heap.size wr w7 by (repeat (first | exact bl_refl | assumption | (apply bl_then; assumption) | refine bl_alloc ?_ _ | refine bl_drew ?_ | refine bl_drewN ?_ _))); obtain ⟨_, g0, g1, g2⟩ := (hr.below (show Below wr.heap.size wr w7 by (repeat (first | exact bl_refl | assumption | (apply bl_then; assumption) | refine bl_alloc ?_ _ | refine bl_drew ?_ | refine bl_drewN ?_ _)))).barAt hlt; rw [HX.out] at g0 g1 g2; simp only at g0 g1 g2; have hbw7 : Below w.heap.size w w7 := (by (repeat (first | exact bl_refl | assumption | (apply bl_then; assumption) | refine bl_alloc ?_ _ | refine bl_drew ?_ | refine bl_drewN ?_ _)))) |
            (at_builtin; refine wpList_appB hown7 rfl _ _ rfl rfl rfl hwl hbw7.size ?_; intro v9 w9 hown9 hg9))
          have hbw9 := own_step hown7 hg9 (bl_alloc hbw7 _)
          have hT9 := (hT7.alloc (.cells #[.int .i64 x, .int .i64 y, .int .i64 s] 70)).grown hg9 ((hown7.alloc (.cells #[.int .i64 x, .int .i64 y, .int .i64 s] 70)).ne_blk (hT7.alloc (.cells #[.int .i64 x, .int .i64 y, .int .i64 s] 70)) (by decide))
          go_roundw
          case rel => exact ⟨k + 1, by omega, by go_num, hT9, by rw [HF.out, HI.out]; exact hown9, hbw9⟩
          case measure => simp [intOf]; omega
    · have HE : Hid (D.filter (inB D) = (D.take k).filter (inB D)) := by unfold Hid; rw [List.take_of_length_le (by omega)]
      obtain ⟨A2, c2, rfl⟩ := hown.shape
      go_wp2
      go_ret
      exact ⟨_, rfl, by rw [HE.out]; exact hown, by (repeat (first | exact bl_refl | assumption | (apply bl_then; assumption) | refine bl_alloc ?_ _ | refine bl_drew ?_ | refine bl_drewN ?_ _))⟩
end Go.Proofs.YthcnngoaijgnoaaGreat

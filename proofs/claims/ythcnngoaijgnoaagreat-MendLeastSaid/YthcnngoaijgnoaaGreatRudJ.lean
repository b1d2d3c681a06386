/- The bar that is trimmed next by rule, of the program, walked. Conditions: the hole at its block, bars within bounds, no sound bar is missing. -/
import Derived.Test.YthcnngoaijgnoaaGreatK11
import Derived.Test.YthcnngoaijgnoaaGreatLstJ
import Derived.Test.YthcnngoaijgnoaaGreatFibJ
import Derived.Test.YthcnngoaijgnoaaGreatValJ
namespace Go.Proofs.YthcnngoaijgnoaaGreat
open Go.RowKit Go.ChangeMaps
set_option maxHeartbeats 8000000
set_option maxRecDepth 100000

theorem optB_eq (o : Option Bar) : optB o = .tuple #[.agg #[.int .i64 (o.getD (0, 0, 0)).1, .int .i64 (o.getD (0, 0, 0)).2.1, .int .i64 (o.getD (0, 0, 0)).2.2], .bool o.isSome] := by
  cases o <;> rfl
theorem want_two (D : List Bar) (b : Bar) : wantB D 2 b = (oddL (legsAt D (b.1, b.2.1)) && oddL (legsAt D (b.1 + b.2.2, b.2.1 + 1))) := by
  unfold wantB oddL lowK uppK
  rw [Bool.eq_iff_iff]
  simp only [Bool.and_eq_true, Bool.or_eq_true, decide_eq_true_eq, beq_iff_eq]
  omega
theorem want_one (D : List Bar) (b : Bar) : wantB D 1 b = (oddL (legsAt D (b.1, b.2.1)) || oddL (legsAt D (b.1 + b.2.2, b.2.1 + 1))) := by
  unfold wantB oddL lowK uppK
  rw [Bool.eq_iff_iff]
  simp only [Bool.and_eq_true, Bool.or_eq_true, decide_eq_true_eq, beq_iff_eq]
  omega
theorem want_none (D : List Bar) (b : Bar) : wantB D 0 b = (decide (0 < cnt (legsAt D (b.1, b.2.1))) || decide (0 < cnt (legsAt D (b.1 + b.2.2, b.2.1 + 1)))) := by
  unfold wantB lowK uppK
  rw [Bool.eq_iff_iff]
  simp only [Bool.and_eq_true, Bool.or_eq_true, decide_eq_true_eq]
  omega
theorem wantF_step (D S : List Bar) (w : Nat) : wantF D S (w + 1) = match S.find? (wantB D w) with
    | some b => some b
    | none => wantF D S w := rfl

/-- the first half: the last bar of a knot that lacks three -/
theorem ruled_any {v : Value} (h rb rk : Nat) (D S : List Bar) (w : World) (H : HoleAt w h rb rk D) (hS : SlB w v S) (hk : ∀ b ∈ D, BarOk b) (hkS : ∀ b ∈ S, BarOk b) (hdis : ∀ b ∈ S, b ∉ D) (hlen : D.length ≤ 100000) :
    Calls Tryz.prog 119 #[.pointer (some ⟨h, 0, none⟩), v] w (RV w (optB (chosenB D S))) := by
  have hlast := fun g W (hH : HoleAt W h rb rk D) (hM : MemAt W g S) => last_any h rb rk g D S W hH hM hk hdis hlen
  have HC : Hid (chosenB D S = match lastK D S (holeK D) with | some b => some b | none => wantF D S 3) := rfl
  obtain ⟨o, ho⟩ : ∃ o, lastK D S (holeK D) = o := ⟨_, rfl⟩
  simp only [ho, optB_eq] at hlast HC
  obtain ⟨W, hW⟩ : ∃ W, (w.alloc (.cells #[.pointer (some ⟨h, 0, none⟩)] 102)).alloc (.cells #[.int .i64 0, .int .i64 0, .int .i64 0] 70) = W := ⟨_, rfl⟩
  have hbW : Below w.heap.size w W := by rw [← hW]; exact (by (repeat (first | exact bl_refl | assumption | (apply bl_then; assumption) | refine bl_alloc ?_ _ | refine bl_drew ?_ | refine bl_drewN ?_ _)))
  have hB : Blk W w.heap.size 102 #[.pointer (some ⟨h, 0, none⟩)] := by rw [← hW]; exact (Blk.new w _ _).alloc _
  have hR : Blk W (w.heap.size + 1) 70 #[.int .i64 0, .int .i64 0, .int .i64 0] := by rw [← hW]; exact Blk.new1 w _ _ _
  have hWs : w.heap.size + 2 ≤ W.heap.size := by rw [← hW]; simp
  go_enter Tryz.func119, Tryz.ntmps119
  go_upto_region 1 with fail
  clear hW
  have fB := hB.facts
  go_cut [6, 7] from 13 (fun s6 s7 wx => ∃ g, s6 = .pointer (some ⟨g, 0, none⟩) ∧ s7 = .bool o.isSome ∧ Blk wx g 70 #[.int .i64 (o.getD (0, 0, 0)).1, .int .i64 (o.getD (0, 0, 0)).2.1, .int .i64 (o.getD (0, 0, 0)).2.2] ∧ Below W.heap.size W wx ∧ w.heap.size + 2 ≤ g)
  case first =>
    refine wp_region_tree [0, 1] (.alt (.br 2 (.alt (.br 3 (.take 4 (.take 5 (.take 6 (.alt (.br 7 (.alt (.br 8 (.fin) (.stop))) (.stop)))))) (.br 7 (.alt (.br 3 (.take 4 (.take 5 (.take 6 (.alt (.br 8 (.fin) (.stop)))))) (.stop))) (.stop)))) (.br 7 (.alt (.br 2 (.alt (.br 3 (.take 4 (.take 5 (.take 6 (.alt (.br 8 (.fin) (.stop)))))) (.stop))) (.stop))) (.stop)))) [9] (by kernel_rfl) (by kernel_rfl) (fun d _ _ _ _ h => by cases d <;> exact h) ?_
    simp only [List.map_cons, List.map_nil, List.getD_cons_zero, List.getD_cons_succ]
    repeat (go_big_quiet_step (fail))
    refine wpQuiet_nil ?_
    refine wpTree_alt (wpTree_br rfl rfl ?_ (wpTree_br rfl rfl ?_ wpTree_stop))
    · intro K hK
      go_simp
      refine (member_any S _ (hS.below (by (repeat (first | exact bl_refl | assumption | (apply bl_then; assumption) | refine bl_alloc ?_ _ | refine bl_drew ?_ | refine bl_drewN ?_ _))))).mono ?_
      rintro e w4 ⟨g4, rfl, hg4, hM4, hb4⟩
      refine hK _ _ (by (repeat (first | exact bl_refl | assumption | (apply bl_then; assumption) | refine bl_alloc ?_ _ | refine bl_drew ?_ | refine bl_drewN ?_ _))) ?_
      clear hK K
      refine wpTree_alt (wpTree_br rfl rfl ?_ (wpTree_br rfl rfl ?_ wpTree_stop))
      · intro K hK
        go_simp
        refine (hlast g4 w4 (H.below (by (repeat (first | exact bl_refl | assumption | (apply bl_then; assumption) | refine bl_alloc ?_ _ | refine bl_drew ?_ | refine bl_drewN ?_ _)))) (hM4.below (by (repeat (first | exact bl_refl | assumption | (apply bl_then; assumption) | refine bl_alloc ?_ _ | refine bl_drew ?_ | refine bl_drewN ?_ _))))).mono ?_
        rintro e w5 ⟨rfl, hb5⟩
        refine hK _ _ (by (repeat (first | exact bl_refl | assumption | (apply bl_then; assumption) | refine bl_alloc ?_ _ | refine bl_drew ?_ | refine bl_drewN ?_ _))) ?_
        clear hK K
        refine wpTree_take rfl rfl ?_; intro K hK; simp only [Array.getD_eq_getD_getElem?, List.getElem?_toArray, List.getElem?_cons_succ, List.getElem?_cons_zero, Option.getD_some]; go_big_quiet_op; go_big_quiet_on
        refine wpTree_take rfl rfl ?_; intro K hK; simp only [Array.getD_eq_getD_getElem?, List.getElem?_toArray, List.getElem?_cons_succ, List.getElem?_cons_zero, Option.getD_some]; go_big_quiet_op; go_big_quiet_on
        refine wpTree_take rfl rfl ?_; intro K hK; simp only [Array.getD_eq_getD_getElem?, List.getElem?_toArray, List.getElem?_cons_succ, List.getElem?_cons_zero, Option.getD_some]; go_big_quiet_op; go_big_quiet_on
        refine wpTree_alt (wpTree_br rfl rfl ?_ wpTree_stop)
        have hS0 := Blk.new (w5) 70 #[.int .i64 0, .int .i64 0, .int .i64 0]
        intro K hK
        go_simp
        refine hK _ _ (by (repeat (first | exact bl_refl | assumption | (apply bl_then; assumption) | refine bl_alloc ?_ _ | refine bl_drew ?_ | refine bl_drewN ?_ _))) ?_
        clear hK K
        refine wpTree_alt (wpTree_br rfl rfl ?_ wpTree_stop)
        have hS1 := hS0.below (show Below _ _ (w5.alloc (.cells #[.int .i64 0, .int .i64 0, .int .i64 0] 70)) by (repeat (first | exact bl_refl | assumption | (apply bl_then; assumption) | refine bl_alloc ?_ _ | refine bl_drew ?_ | refine bl_drewN ?_ _)))
        intro K hK
        simp only [Array.getD_eq_getD_getElem?, List.getElem?_toArray, List.getElem?_cons_succ, List.getElem?_cons_zero, Option.getD_some]
        refine op_store_blk hS1 _ _ _ rfl rfl rfl rfl (by kernel_rfl) (by kernel_rfl) ?_
        intro w7 hS7 hc7
        have hg7 : W.heap.size ≤ w5.heap.size := Below.size (show Below W.heap.size W (w5) by (repeat (first | exact bl_refl | assumption | (apply bl_then; assumption) | refine bl_alloc ?_ _ | refine bl_drew ?_ | refine bl_drewN ?_ _)))
        refine hK _ _ (chg_bl (by (repeat (first | exact bl_refl | assumption | (apply bl_then; assumption) | refine bl_alloc ?_ _ | refine bl_drew ?_ | refine bl_drewN ?_ _))) hc7 hg7) ?_
        clear hK K
        refine wpTree_fin ?_
        have hbL : Below W.heap.size W w7 := chg_bl (by (repeat (first | exact bl_refl | assumption | (apply bl_then; assumption) | refine bl_alloc ?_ _ | refine bl_drew ?_ | refine bl_drewN ?_ _))) hc7 hg7
        go_wp2_with fail
        go_meet
        case rel => exact ⟨_, rfl, rfl, hS7, hbL, Nat.le_trans hWs hg7⟩
      · have hS0 := Blk.new (w4) 70 #[.int .i64 0, .int .i64 0, .int .i64 0]
        intro K hK
        go_simp
        refine hK _ _ (by (repeat (first | exact bl_refl | assumption | (apply bl_then; assumption) | refine bl_alloc ?_ _ | refine bl_drew ?_ | refine bl_drewN ?_ _))) ?_
        clear hK K
        refine wpTree_alt (wpTree_br rfl rfl ?_ wpTree_stop)
        intro K hK
        go_simp
        refine (hlast g4 (w4.alloc (.cells #[.int .i64 0, .int .i64 0, .int .i64 0] 70)) (H.below (by (repeat (first | exact bl_refl | assumption | (apply bl_then; assumption) | refine bl_alloc ?_ _ | refine bl_drew ?_ | refine bl_drewN ?_ _)))) (hM4.below (by (repeat (first | exact bl_refl | assumption | (apply bl_then; assumption) | refine bl_alloc ?_ _ | refine bl_drew ?_ | refine bl_drewN ?_ _))))).mono ?_
        rintro e w5 ⟨rfl, hb5⟩
        refine hK _ _ (by (repeat (first | exact bl_refl | assumption | (apply bl_then; assumption) | refine bl_alloc ?_ _ | refine bl_drew ?_ | refine bl_drewN ?_ _))) ?_
        clear hK K
        refine wpTree_take rfl rfl ?_; intro K hK; simp only [Array.getD_eq_getD_getElem?, List.getElem?_toArray, List.getElem?_cons_succ, List.getElem?_cons_zero, Option.getD_some]; go_big_quiet_op; go_big_quiet_on
        refine wpTree_take rfl rfl ?_; intro K hK; simp only [Array.getD_eq_getD_getElem?, List.getElem?_toArray, List.getElem?_cons_succ, List.getElem?_cons_zero, Option.getD_some]; go_big_quiet_op; go_big_quiet_on
        refine wpTree_take rfl rfl ?_; intro K hK; simp only [Array.getD_eq_getD_getElem?, List.getElem?_toArray, List.getElem?_cons_succ, List.getElem?_cons_zero, Option.getD_some]; go_big_quiet_op; go_big_quiet_on
        refine wpTree_alt (wpTree_br rfl rfl ?_ wpTree_stop)
        have hS1 := hS0.below (show Below _ _ (w5) by (repeat (first | exact bl_refl | assumption | (apply bl_then; assumption) | refine bl_alloc ?_ _ | refine bl_drew ?_ | refine bl_drewN ?_ _)))
        intro K hK
        simp only [Array.getD_eq_getD_getElem?, List.getElem?_toArray, List.getElem?_cons_succ, List.getElem?_cons_zero, Option.getD_some]
        refine op_store_blk hS1 _ _ _ rfl rfl rfl rfl (by kernel_rfl) (by kernel_rfl) ?_
        intro w7 hS7 hc7
        have hg7 : W.heap.size ≤ w4.heap.size := Below.size (show Below W.heap.size W (w4) by (repeat (first | exact bl_refl | assumption | (apply bl_then; assumption) | refine bl_alloc ?_ _ | refine bl_drew ?_ | refine bl_drewN ?_ _)))
        refine hK _ _ (chg_bl (by (repeat (first | exact bl_refl | assumption | (apply bl_then; assumption) | refine bl_alloc ?_ _ | refine bl_drew ?_ | refine bl_drewN ?_ _))) hc7 hg7) ?_
        clear hK K
        refine wpTree_fin ?_
        have hbL : Below W.heap.size W w7 := chg_bl (by (repeat (first | exact bl_refl | assumption | (apply bl_then; assumption) | refine bl_alloc ?_ _ | refine bl_drew ?_ | refine bl_drewN ?_ _))) hc7 hg7
        go_wp2_with fail
        go_meet
        case rel => exact ⟨_, rfl, rfl, hS7, hbL, Nat.le_trans hWs hg7⟩
    · have hS0 := Blk.new (W.drew) 70 #[.int .i64 0, .int .i64 0, .int .i64 0]
      intro K hK
      go_simp
      refine hK _ _ (by (repeat (first | exact bl_refl | assumption | (apply bl_then; assumption) | refine bl_alloc ?_ _ | refine bl_drew ?_ | refine bl_drewN ?_ _))) ?_
      clear hK K
      refine wpTree_alt (wpTree_br rfl rfl ?_ wpTree_stop)
      intro K hK
      go_simp
      refine (member_any S _ (hS.below (by (repeat (first | exact bl_refl | assumption | (apply bl_then; assumption) | refine bl_alloc ?_ _ | refine bl_drew ?_ | refine bl_drewN ?_ _))))).mono ?_
      rintro e w4 ⟨g4, rfl, hg4, hM4, hb4⟩
      refine hK _ _ (by (repeat (first | exact bl_refl | assumption | (apply bl_then; assumption) | refine bl_alloc ?_ _ | refine bl_drew ?_ | refine bl_drewN ?_ _))) ?_
      clear hK K
      refine wpTree_alt (wpTree_br rfl rfl ?_ wpTree_stop)
      intro K hK
      go_simp
      refine (hlast g4 w4 (H.below (by (repeat (first | exact bl_refl | assumption | (apply bl_then; assumption) | refine bl_alloc ?_ _ | refine bl_drew ?_ | refine bl_drewN ?_ _)))) (hM4.below (by (repeat (first | exact bl_refl | assumption | (apply bl_then; assumption) | refine bl_alloc ?_ _ | refine bl_drew ?_ | refine bl_drewN ?_ _))))).mono ?_
      rintro e w5 ⟨rfl, hb5⟩
      refine hK _ _ (by (repeat (first | exact bl_refl | assumption | (apply bl_then; assumption) | refine bl_alloc ?_ _ | refine bl_drew ?_ | refine bl_drewN ?_ _))) ?_
      clear hK K
      refine wpTree_take rfl rfl ?_; intro K hK; simp only [Array.getD_eq_getD_getElem?, List.getElem?_toArray, List.getElem?_cons_succ, List.getElem?_cons_zero, Option.getD_some]; go_big_quiet_op; go_big_quiet_on
      refine wpTree_take rfl rfl ?_; intro K hK; simp only [Array.getD_eq_getD_getElem?, List.getElem?_toArray, List.getElem?_cons_succ, List.getElem?_cons_zero, Option.getD_some]; go_big_quiet_op; go_big_quiet_on
      refine wpTree_take rfl rfl ?_; intro K hK; simp only [Array.getD_eq_getD_getElem?, List.getElem?_toArray, List.getElem?_cons_succ, List.getElem?_cons_zero, Option.getD_some]; go_big_quiet_op; go_big_quiet_on
      refine wpTree_alt (wpTree_br rfl rfl ?_ wpTree_stop)
      have hS1 := hS0.below (show Below _ _ (w5) by (repeat (first | exact bl_refl | assumption | (apply bl_then; assumption) | refine bl_alloc ?_ _ | refine bl_drew ?_ | refine bl_drewN ?_ _)))
      intro K hK
      simp only [Array.getD_eq_getD_getElem?, List.getElem?_toArray, List.getElem?_cons_succ, List.getElem?_cons_zero, Option.getD_some]
      refine op_store_blk hS1 _ _ _ rfl rfl rfl rfl (by kernel_rfl) (by kernel_rfl) ?_
      intro w7 hS7 hc7
      have hg7 : W.heap.size ≤ W.drew.heap.size := Below.size (show Below W.heap.size W (W.drew) by (repeat (first | exact bl_refl | assumption | (apply bl_then; assumption) | refine bl_alloc ?_ _ | refine bl_drew ?_ | refine bl_drewN ?_ _)))
      refine hK _ _ (chg_bl (by (repeat (first | exact bl_refl | assumption | (apply bl_then; assumption) | refine bl_alloc ?_ _ | refine bl_drew ?_ | refine bl_drewN ?_ _))) hc7 hg7) ?_
      clear hK K
      refine wpTree_fin ?_
      have hbL : Below W.heap.size W w7 := chg_bl (by (repeat (first | exact bl_refl | assumption | (apply bl_then; assumption) | refine bl_alloc ?_ _ | refine bl_drew ?_ | refine bl_drewN ?_ _))) hc7 hg7
      go_wp2_with fail
      go_meet
      case rel => exact ⟨_, rfl, rfl, hS7, hbL, Nat.le_trans hWs hg7⟩
  case rest =>
    obtain ⟨g6, rfl, rfl, hX, hbX, hg6⟩ := hcut
    have hBx := hB.below hbX
    have hRx := hR.below hbX
    have Hx := (H.below hbW).below hbX
    have hSx := (hS.below hbW).below hbX
    have hbwc := bl_then hbX hbW
    have fX := hX.facts
    have fRx := hRx.facts
    have fBx := hBx.facts
    cases o with
    | some b =>
      obtain ⟨x, y, t⟩ := b
      have HC2 : Hid (chosenB D S = some (x, y, t)) := HC.out
      simp only [Option.getD_some, Option.isSome_some] at hX fX ⊢
      go_wp2_with (refine wpList_store_blk hRx rfl _ _ _ rfl rfl rfl (by rfl) (by kernel_rfl) (by kernel_rfl) ?_; intro w8 hR8 hc8; have fR8 := hR8.facts)
      refine bodyPost_ret (v := .tuple #[.agg #[.int .i64 x, .int .i64 y, .int .i64 t], .bool true]) (by simp [results, Tryz.results119, go_sem, fR8]) rfl ?_
      exact ⟨by rw [HC2.out]; rfl, chg_bl hbwc hc8 (by omega)⟩
    | none =>
      have HC2 : Hid (chosenB D S = wantF D S 3) := HC.out
      clear hX fX hlast HC hbX hB hR
      simp only [Option.isSome_none]
      have hwcs := hBx.lt
      obtain ⟨w9, hw9⟩ : ∃ w9, (((wc.alloc (.cells #[.func (.func 154) #[] #[.pointer (some ⟨w.heap.size, 0, none⟩)]] 179)).alloc (.cells #[.func (.func 155) #[] #[.pointer (some ⟨w.heap.size, 0, none⟩)]] 179)).alloc (.cells #[.func (.func 156) #[] #[.pointer (some ⟨wc.heap.size, 0, none⟩)], .func (.func 157) #[] #[.pointer (some ⟨wc.heap.size, 0, none⟩)], .func (.func 158) #[] #[.pointer (some ⟨wc.heap.size + 1, 0, none⟩)]] 180)) = w9 := ⟨_, rfl⟩
      have hO : Blk w9 wc.heap.size 179 #[.func (.func 154) #[] #[.pointer (some ⟨w.heap.size, 0, none⟩)]] := by rw [← hw9]; exact ((Blk.new wc _ _).alloc _).alloc _
      have hL : Blk w9 (wc.heap.size + 1) 179 #[.func (.func 155) #[] #[.pointer (some ⟨w.heap.size, 0, none⟩)]] := by rw [← hw9]; exact (Blk.new1 wc _ _ _).alloc _
      have hA : Blk w9 (wc.heap.size + 1 + 1) 180 #[.func (.func 156) #[] #[.pointer (some ⟨wc.heap.size, 0, none⟩)], .func (.func 157) #[] #[.pointer (some ⟨wc.heap.size, 0, none⟩)], .func (.func 158) #[] #[.pointer (some ⟨wc.heap.size + 1, 0, none⟩)]] := by rw [← hw9]; exact Blk.new2 wc _ _ _ _
      have hbw9 : Below wc.heap.size wc w9 := by rw [← hw9]; exact (by (repeat (first | exact bl_refl | assumption | (apply bl_then; assumption) | refine bl_alloc ?_ _ | refine bl_drew ?_ | refine bl_drewN ?_ _)))
      go_wp2
      clear hw9
      replace hBx := hBx.below hbw9
      replace hRx := hRx.below hbw9
      replace Hx := Hx.below hbw9
      replace hSx := hSx.below hbw9
      have hbW9 := bl_then hbw9 hbwc
      clear fRx fBx hbw9
      go_loopw [29] (fun i wr => ∃ k : Nat, k ≤ 3 ∧ i = .int .i64 k ∧ Hid (wantF D S 3 = wantF D S (3 - k)) ∧ Below w9.heap.size w9 wr) (fun i _ => 3 - (intOf i).toNat)
      case atStart => exact ⟨0, by omega, rfl, rfl, bl_refl⟩
      case round =>
        obtain ⟨k, hk, rfl, HW, hbr⟩ := hrel
        have hBr := hBx.below hbr
        have hRr := hRx.below hbr
        have Hr := Hx.below hbr
        have hSr := hSx.below hbr
        have hOr := hO.below hbr
        have hLr := hL.below hbr
        have hAr := hA.below hbr
        have fA := hAr.facts
        have hbWr := bl_then hbr hbW9
        obtain rfl | rfl | rfl | rfl : k = 0 ∨ k = 1 ∨ k = 2 ∨ k = 3 := by omega
        · have hG := Blk.new wr 180 #[.func (.func 156) #[] #[.pointer (some ⟨wc.heap.size, 0, none⟩)]]
          have hbG : Below wr.heap.size wr (wr.alloc (.cells #[.func (.func 156) #[] #[.pointer (some ⟨wc.heap.size, 0, none⟩)]] 180)) := bl_alloc bl_refl _
          have hfi := findb_any (v := v) (.pointer (some ⟨wr.heap.size, 0, none⟩)) (wantB D 2) S _ (hSr.below hbG) (fun W b hb hW => by
            rw [want_two]
            exact look3_any wr.heap.size (wc.heap.size) w.heap.size h rb rk D b.1 b.2.1 b.2.2 W (hkS b hb) (hG.below hW) ((hOr.below hbG).below hW) ((hBr.below hbG).below hW) ((Hr.below hbG).below hW))
          rcases fidx_find (wantB D 2) S 0 with ⟨h1, h2⟩ | ⟨i, hi, h1, h2⟩
          · have HW' : Hid (wantF D S 3 = wantF D S 2) := by unfold Hid; rw [HW.out, show 3 - 0 = 2 + 1 from rfl, wantF_step, h2]
            rw [show ((0 : Nat) : Int) = 0 from rfl] at h1
            rw [h1] at hfi
            clear h1 h2
            go_wp2_with (go_at_call 159; refine hfi.mono ?_; rintro e w10 ⟨rfl, hb10⟩)
            go_roundw
            case rel => exact ⟨0+1, by omega, by go_num, HW', by (repeat (first | exact bl_refl | assumption | (apply bl_then; assumption) | refine bl_alloc ?_ _ | refine bl_drew ?_ | refine bl_drewN ?_ _))⟩
            case measure => simp [intOf]
          · have HW' : Hid (chosenB D S = some S[i]) := by unfold Hid; rw [HC2.out, HW.out, show 3 - 0 = 2 + 1 from rfl, wantF_step, h2]
            rw [show ((0 : Nat) : Int) = 0 from rfl, Int.zero_add] at h1
            rw [h1] at hfi
            clear h1 h2
            obtain ⟨⟨x, y, t⟩, hx⟩ : ∃ z, S[i] = z := ⟨_, rfl⟩
            rw [hx] at HW'
            obtain ⟨A, c, rfl, hlc, hcm, hrd⟩ := hSr
            go_wp2_with (first | (go_at_call 159; refine hfi.mono ?_; rintro e w10 ⟨rfl, hb10⟩; obtain ⟨bS, oS, rfl, hbS, e0, e1, e2⟩ := ((hrd.below hbG).below hb10).bar hi; rw [hx] at e0 e1 e2; simp only at e0 e1 e2; have hR10 := (hRr.below hbG).below hb10; have fR10 := hR10.facts) | (refine wpList_store_blk hR10 rfl _ _ _ rfl rfl rfl (by rfl) (by kernel_rfl) (by kernel_rfl) ?_; intro w8 hR8 hc8; have fR8 := hR8.facts))
            refine bodyPost_ret (v := .tuple #[.agg #[.int .i64 x, .int .i64 y, .int .i64 t], .bool true]) (by simp [results, Tryz.results119, go_sem, fR8]) rfl ?_
            exact ⟨by rw [HW'.out]; rfl, chg_bl (bl_then hb10 (bl_then hbG hbWr)) hc8 (by omega)⟩
        · have hG := Blk.new wr 180 #[.func (.func 157) #[] #[.pointer (some ⟨wc.heap.size, 0, none⟩)]]
          have hbG : Below wr.heap.size wr (wr.alloc (.cells #[.func (.func 157) #[] #[.pointer (some ⟨wc.heap.size, 0, none⟩)]] 180)) := bl_alloc bl_refl _
          have hfi := findb_any (v := v) (.pointer (some ⟨wr.heap.size, 0, none⟩)) (wantB D 1) S _ (hSr.below hbG) (fun W b hb hW => by
            rw [want_one]
            exact look4_any wr.heap.size (wc.heap.size) w.heap.size h rb rk D b.1 b.2.1 b.2.2 W (hkS b hb) (hG.below hW) ((hOr.below hbG).below hW) ((hBr.below hbG).below hW) ((Hr.below hbG).below hW))
          rcases fidx_find (wantB D 1) S 0 with ⟨h1, h2⟩ | ⟨i, hi, h1, h2⟩
          · have HW' : Hid (wantF D S 3 = wantF D S 1) := by unfold Hid; rw [HW.out, show 3 - 1 = 1 + 1 from rfl, wantF_step, h2]
            rw [show ((0 : Nat) : Int) = 0 from rfl] at h1
            rw [h1] at hfi
            clear h1 h2
            go_wp2_with (go_at_call 159; refine hfi.mono ?_; rintro e w10 ⟨rfl, hb10⟩)
            go_roundw
            case rel => exact ⟨1+1, by omega, by go_num, HW', by (repeat (first | exact bl_refl | assumption | (apply bl_then; assumption) | refine bl_alloc ?_ _ | refine bl_drew ?_ | refine bl_drewN ?_ _))⟩
            case measure => simp [intOf]
          · have HW' : Hid (chosenB D S = some S[i]) := by unfold Hid; rw [HC2.out, HW.out, show 3 - 1 = 1 + 1 from rfl, wantF_step, h2]
            rw [show ((0 : Nat) : Int) = 0 from rfl, Int.zero_add] at h1
            rw [h1] at hfi
            clear h1 h2
            obtain ⟨⟨x, y, t⟩, hx⟩ : ∃ z, S[i] = z := ⟨_, rfl⟩
            rw [hx] at HW'
            obtain ⟨A, c, rfl, hlc, hcm, hrd⟩ := hSr
            go_wp2_with (first | (go_at_call 159; refine hfi.mono ?_; rintro e w10 ⟨rfl, hb10⟩; obtain ⟨bS, oS, rfl, hbS, e0, e1, e2⟩ := ((hrd.below hbG).below hb10).bar hi; rw [hx] at e0 e1 e2; simp only at e0 e1 e2; have hR10 := (hRr.below hbG).below hb10; have fR10 := hR10.facts) | (refine wpList_store_blk hR10 rfl _ _ _ rfl rfl rfl (by rfl) (by kernel_rfl) (by kernel_rfl) ?_; intro w8 hR8 hc8; have fR8 := hR8.facts))
            refine bodyPost_ret (v := .tuple #[.agg #[.int .i64 x, .int .i64 y, .int .i64 t], .bool true]) (by simp [results, Tryz.results119, go_sem, fR8]) rfl ?_
            exact ⟨by rw [HW'.out]; rfl, chg_bl (bl_then hb10 (bl_then hbG hbWr)) hc8 (by omega)⟩
        · have hG := Blk.new wr 180 #[.func (.func 158) #[] #[.pointer (some ⟨wc.heap.size + 1, 0, none⟩)]]
          have hbG : Below wr.heap.size wr (wr.alloc (.cells #[.func (.func 158) #[] #[.pointer (some ⟨wc.heap.size + 1, 0, none⟩)]] 180)) := bl_alloc bl_refl _
          have hfi := findb_any (v := v) (.pointer (some ⟨wr.heap.size, 0, none⟩)) (wantB D 0) S _ (hSr.below hbG) (fun W b hb hW => by
            rw [want_none]
            exact look5_any wr.heap.size (wc.heap.size + 1) w.heap.size h rb rk D b.1 b.2.1 b.2.2 W (hkS b hb) (hG.below hW) ((hLr.below hbG).below hW) ((hBr.below hbG).below hW) ((Hr.below hbG).below hW))
          rcases fidx_find (wantB D 0) S 0 with ⟨h1, h2⟩ | ⟨i, hi, h1, h2⟩
          · have HW' : Hid (wantF D S 3 = wantF D S 0) := by unfold Hid; rw [HW.out, show 3 - 2 = 0 + 1 from rfl, wantF_step, h2]
            rw [show ((0 : Nat) : Int) = 0 from rfl] at h1
            rw [h1] at hfi
            clear h1 h2
            go_wp2_with (go_at_call 159; refine hfi.mono ?_; rintro e w10 ⟨rfl, hb10⟩)
            go_roundw
            case rel => exact ⟨2+1, by omega, by go_num, HW', by (repeat (first | exact bl_refl | assumption | (apply bl_then; assumption) | refine bl_alloc ?_ _ | refine bl_drew ?_ | refine bl_drewN ?_ _))⟩
            case measure => simp [intOf]
          · have HW' : Hid (chosenB D S = some S[i]) := by unfold Hid; rw [HC2.out, HW.out, show 3 - 2 = 0 + 1 from rfl, wantF_step, h2]
            rw [show ((0 : Nat) : Int) = 0 from rfl, Int.zero_add] at h1
            rw [h1] at hfi
            clear h1 h2
            obtain ⟨⟨x, y, t⟩, hx⟩ : ∃ z, S[i] = z := ⟨_, rfl⟩
            rw [hx] at HW'
            obtain ⟨A, c, rfl, hlc, hcm, hrd⟩ := hSr
            go_wp2_with (first | (go_at_call 159; refine hfi.mono ?_; rintro e w10 ⟨rfl, hb10⟩; obtain ⟨bS, oS, rfl, hbS, e0, e1, e2⟩ := ((hrd.below hbG).below hb10).bar hi; rw [hx] at e0 e1 e2; simp only at e0 e1 e2; have hR10 := (hRr.below hbG).below hb10; have fR10 := hR10.facts) | (refine wpList_store_blk hR10 rfl _ _ _ rfl rfl rfl (by rfl) (by kernel_rfl) (by kernel_rfl) ?_; intro w8 hR8 hc8; have fR8 := hR8.facts))
            refine bodyPost_ret (v := .tuple #[.agg #[.int .i64 x, .int .i64 y, .int .i64 t], .bool true]) (by simp [results, Tryz.results119, go_sem, fR8]) rfl ?_
            exact ⟨by rw [HW'.out]; rfl, chg_bl (bl_then hb10 (bl_then hbG hbWr)) hc8 (by omega)⟩
        · have HN : Hid (chosenB D S = none) := by unfold Hid; rw [HC2.out, HW.out]; rfl
          go_wp2_with (refine wpList_store_blk hRr rfl _ _ _ rfl rfl rfl (by rfl) (by kernel_rfl) (by kernel_rfl) ?_; intro w8 hR8 hc8; have fR8 := hR8.facts)
          refine bodyPost_ret (v := .tuple #[.agg #[.int .i64 0, .int .i64 0, .int .i64 0], .bool false]) (by simp [results, Tryz.results119, go_sem, fR8]) rfl ?_
          exact ⟨by rw [HN.out]; rfl, chg_bl hbWr hc8 (by omega)⟩
end Go.Proofs.YthcnngoaijgnoaaGreat

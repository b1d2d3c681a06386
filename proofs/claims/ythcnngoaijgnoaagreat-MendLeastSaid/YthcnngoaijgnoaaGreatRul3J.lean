/- The rule's look at a bar's two ends, walked. Conditions: a hole at its block, a bar within bounds. -/
import Derived.Test.YthcnngoaijgnoaaGreatK11
import Derived.Test.YthcnngoaijgnoaaGreatRul2J
namespace Go.Proofs.YthcnngoaijgnoaaGreat
open Go.RowKit Go.ChangeMaps
set_option maxHeartbeats 4000000
set_option maxRecDepth 100000

theorem look3_any (c b g h rb rk : Nat) (D : List Bar) (x y s : Int) (w : World) (hbo : BarOk (x, y, s)) (hG : Blk w c 180 #[.func (.func 156) #[] #[.pointer (some ⟨b, 0, none⟩)]]) (hF : Blk w b 179 #[.func (.func 154) #[] #[.pointer (some ⟨g, 0, none⟩)]]) (hB : Blk w g 102 #[.pointer (some ⟨h, 0, none⟩)]) (H : HoleAt w h rb rk D) :
    Calls Tryz.prog 160 #[.agg #[.int .i64 x, .int .i64 y, .int .i64 s], .pointer (some ⟨c, 0, none⟩)] w (RV w (.bool (oddL (legsAt D (x, y)) && oddL (legsAt D (x + s, y + 1))))) := by
  unfold BarOk at hbo
  simp only at hbo
  have hG0 := hG.alloc (.cells #[.int .i64 x, .int .i64 y, .int .i64 s] 70)
  have hF0 := hF.alloc (.cells #[.int .i64 x, .int .i64 y, .int .i64 s] 70)
  have hB0 := hB.alloc (.cells #[.int .i64 x, .int .i64 y, .int .i64 s] 70)
  have H0 := H.below (bl_alloc bl_refl (.cells #[.int .i64 x, .int .i64 y, .int .i64 s] 70))
  have hK := Blk.new w 70 #[.int .i64 x, .int .i64 y, .int .i64 s]
  have fG0 := hG0.facts
  have fG := hG.facts
  have fK := hK.facts
  go_enter Tryz.func160, Tryz.ntmps160
  go_wp2_with fail
  refine wp_region_ords [0, 1] [(2, false)] [3, 4] (by kernel_rfl) (by kernel_rfl) (fun d _ _ _ _ h => by cases d <;> exact h) ?_
  simp only [List.map_cons, List.map_nil, List.getD_cons_zero, List.getD_cons_succ]
  repeat (go_big_quiet_step (fail))
  refine wpQuiet_nil ?_
  refine wpMid_run rfl (fun K hK => ?_)
  go_simp
  refine (mends_any x y s (by omega) (by omega) (by omega) _).mono ?_
  rintro e w1 ⟨rfl, hb1⟩
  refine hK _ _ (by (repeat (first | exact bl_refl | assumption | (apply bl_then; assumption) | refine bl_alloc ?_ _ | refine bl_drew ?_ | refine bl_drewN ?_ _))) ?_
  clear hK K
  refine wpMid_nil ?_
  go_wp2_with fail
  refine (ruled3_any b g h rb rk D x y (x + s) (y + 1) _ (hF0.below (by (repeat (first | exact bl_refl | assumption | (apply bl_then; assumption) | refine bl_alloc ?_ _ | refine bl_drew ?_ | refine bl_drewN ?_ _)))) (hB0.below (by (repeat (first | exact bl_refl | assumption | (apply bl_then; assumption) | refine bl_alloc ?_ _ | refine bl_drew ?_ | refine bl_drewN ?_ _)))) (H0.below (by (repeat (first | exact bl_refl | assumption | (apply bl_then; assumption) | refine bl_alloc ?_ _ | refine bl_drew ?_ | refine bl_drewN ?_ _))))).mono ?_
  rintro e w2 ⟨rfl, hb2⟩
  go_wp2
  go_ret
  exact ⟨rfl, by (repeat (first | exact bl_refl | assumption | (apply bl_then; assumption) | refine bl_alloc ?_ _ | refine bl_drew ?_ | refine bl_drewN ?_ _))⟩
theorem look4_any (c b g h rb rk : Nat) (D : List Bar) (x y s : Int) (w : World) (hbo : BarOk (x, y, s)) (hG : Blk w c 180 #[.func (.func 157) #[] #[.pointer (some ⟨b, 0, none⟩)]]) (hF : Blk w b 179 #[.func (.func 154) #[] #[.pointer (some ⟨g, 0, none⟩)]]) (hB : Blk w g 102 #[.pointer (some ⟨h, 0, none⟩)]) (H : HoleAt w h rb rk D) :
    Calls Tryz.prog 160 #[.agg #[.int .i64 x, .int .i64 y, .int .i64 s], .pointer (some ⟨c, 0, none⟩)] w (RV w (.bool (oddL (legsAt D (x, y)) || oddL (legsAt D (x + s, y + 1))))) := by
  unfold BarOk at hbo
  simp only at hbo
  have hG0 := hG.alloc (.cells #[.int .i64 x, .int .i64 y, .int .i64 s] 70)
  have hF0 := hF.alloc (.cells #[.int .i64 x, .int .i64 y, .int .i64 s] 70)
  have hB0 := hB.alloc (.cells #[.int .i64 x, .int .i64 y, .int .i64 s] 70)
  have H0 := H.below (bl_alloc bl_refl (.cells #[.int .i64 x, .int .i64 y, .int .i64 s] 70))
  have hK := Blk.new w 70 #[.int .i64 x, .int .i64 y, .int .i64 s]
  have fG0 := hG0.facts
  have fG := hG.facts
  have fK := hK.facts
  go_enter Tryz.func160, Tryz.ntmps160
  go_wp2_with fail
  refine wp_region_ords [0, 1] [(2, false)] [3, 4] (by kernel_rfl) (by kernel_rfl) (fun d _ _ _ _ h => by cases d <;> exact h) ?_
  simp only [List.map_cons, List.map_nil, List.getD_cons_zero, List.getD_cons_succ]
  repeat (go_big_quiet_step (fail))
  refine wpQuiet_nil ?_
  refine wpMid_run rfl (fun K hK => ?_)
  go_simp
  refine (mends_any x y s (by omega) (by omega) (by omega) _).mono ?_
  rintro e w1 ⟨rfl, hb1⟩
  refine hK _ _ (by (repeat (first | exact bl_refl | assumption | (apply bl_then; assumption) | refine bl_alloc ?_ _ | refine bl_drew ?_ | refine bl_drewN ?_ _))) ?_
  clear hK K
  refine wpMid_nil ?_
  go_wp2_with fail
  refine (ruled4_any b g h rb rk D x y (x + s) (y + 1) _ (hF0.below (by (repeat (first | exact bl_refl | assumption | (apply bl_then; assumption) | refine bl_alloc ?_ _ | refine bl_drew ?_ | refine bl_drewN ?_ _)))) (hB0.below (by (repeat (first | exact bl_refl | assumption | (apply bl_then; assumption) | refine bl_alloc ?_ _ | refine bl_drew ?_ | refine bl_drewN ?_ _)))) (H0.below (by (repeat (first | exact bl_refl | assumption | (apply bl_then; assumption) | refine bl_alloc ?_ _ | refine bl_drew ?_ | refine bl_drewN ?_ _))))).mono ?_
  rintro e w2 ⟨rfl, hb2⟩
  go_wp2
  go_ret
  exact ⟨rfl, by (repeat (first | exact bl_refl | assumption | (apply bl_then; assumption) | refine bl_alloc ?_ _ | refine bl_drew ?_ | refine bl_drewN ?_ _))⟩
theorem look5_any (c b g h rb rk : Nat) (D : List Bar) (x y s : Int) (w : World) (hbo : BarOk (x, y, s)) (hG : Blk w c 180 #[.func (.func 158) #[] #[.pointer (some ⟨b, 0, none⟩)]]) (hF : Blk w b 179 #[.func (.func 155) #[] #[.pointer (some ⟨g, 0, none⟩)]]) (hB : Blk w g 102 #[.pointer (some ⟨h, 0, none⟩)]) (H : HoleAt w h rb rk D) :
    Calls Tryz.prog 160 #[.agg #[.int .i64 x, .int .i64 y, .int .i64 s], .pointer (some ⟨c, 0, none⟩)] w (RV w (.bool (decide (0 < cnt (legsAt D (x, y))) || decide (0 < cnt (legsAt D (x + s, y + 1)))))) := by
  unfold BarOk at hbo
  simp only at hbo
  have hG0 := hG.alloc (.cells #[.int .i64 x, .int .i64 y, .int .i64 s] 70)
  have hF0 := hF.alloc (.cells #[.int .i64 x, .int .i64 y, .int .i64 s] 70)
  have hB0 := hB.alloc (.cells #[.int .i64 x, .int .i64 y, .int .i64 s] 70)
  have H0 := H.below (bl_alloc bl_refl (.cells #[.int .i64 x, .int .i64 y, .int .i64 s] 70))
  have hK := Blk.new w 70 #[.int .i64 x, .int .i64 y, .int .i64 s]
  have fG0 := hG0.facts
  have fG := hG.facts
  have fK := hK.facts
  go_enter Tryz.func160, Tryz.ntmps160
  go_wp2_with fail
  refine wp_region_ords [0, 1] [(2, false)] [3, 4] (by kernel_rfl) (by kernel_rfl) (fun d _ _ _ _ h => by cases d <;> exact h) ?_
  simp only [List.map_cons, List.map_nil, List.getD_cons_zero, List.getD_cons_succ]
  repeat (go_big_quiet_step (fail))
  refine wpQuiet_nil ?_
  refine wpMid_run rfl (fun K hK => ?_)
  go_simp
  refine (mends_any x y s (by omega) (by omega) (by omega) _).mono ?_
  rintro e w1 ⟨rfl, hb1⟩
  refine hK _ _ (by (repeat (first | exact bl_refl | assumption | (apply bl_then; assumption) | refine bl_alloc ?_ _ | refine bl_drew ?_ | refine bl_drewN ?_ _))) ?_
  clear hK K
  refine wpMid_nil ?_
  go_wp2_with fail
  refine (ruled5_any b g h rb rk D x y (x + s) (y + 1) _ (hF0.below (by (repeat (first | exact bl_refl | assumption | (apply bl_then; assumption) | refine bl_alloc ?_ _ | refine bl_drew ?_ | refine bl_drewN ?_ _)))) (hB0.below (by (repeat (first | exact bl_refl | assumption | (apply bl_then; assumption) | refine bl_alloc ?_ _ | refine bl_drew ?_ | refine bl_drewN ?_ _)))) (H0.below (by (repeat (first | exact bl_refl | assumption | (apply bl_then; assumption) | refine bl_alloc ?_ _ | refine bl_drew ?_ | refine bl_drewN ?_ _))))).mono ?_
  rintro e w2 ⟨rfl, hb2⟩
  go_wp2
  go_ret
  exact ⟨rfl, by (repeat (first | exact bl_refl | assumption | (apply bl_then; assumption) | refine bl_alloc ?_ _ | refine bl_drew ?_ | refine bl_drewN ?_ _))⟩
end Go.Proofs.YthcnngoaijgnoaaGreat

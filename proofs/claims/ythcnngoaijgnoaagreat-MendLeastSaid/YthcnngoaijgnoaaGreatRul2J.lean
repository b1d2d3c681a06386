/- The bar that is trimmed next by rule, of the program: its small closures, walked. Conditions: a hole at its block. -/
import Derived.Test.YthcnngoaijgnoaaGreatK11
import Derived.Test.YthcnngoaijgnoaaGreatK07
import Derived.Test.YthcnngoaijgnoaaGreatRulJ
namespace Go.Proofs.YthcnngoaijgnoaaGreat
open Go.RowKit Go.ChangeMaps
set_option maxHeartbeats 4000000
set_option maxRecDepth 100000

theorem ruled3_any (b g h rb rk : Nat) (D : List Bar) (x y x1 y1 : Int) (w : World) (hF : Blk w b 179 #[.func (.func 154) #[] #[.pointer (some ⟨g, 0, none⟩)]]) (hB : Blk w g 102 #[.pointer (some ⟨h, 0, none⟩)]) (H : HoleAt w h rb rk D) :
    Calls Tryz.prog 156 #[.agg #[.int .i64 x, .int .i64 y, .int .i64 x1, .int .i64 y1], .pointer (some ⟨b, 0, none⟩)] w (RV w (.bool (oddL (legsAt D (x, y)) && oddL (legsAt D (x1, y1))))) := by
  have hF0 := hF.alloc (.cells #[.int .i64 x, .int .i64 y, .int .i64 x1, .int .i64 y1] 137)
  have hB0 := hB.alloc (.cells #[.int .i64 x, .int .i64 y, .int .i64 x1, .int .i64 y1] 137)
  have H0 := H.below (bl_alloc bl_refl (.cells #[.int .i64 x, .int .i64 y, .int .i64 x1, .int .i64 y1] 137))
  have hK := Blk.new w 137 #[.int .i64 x, .int .i64 y, .int .i64 x1, .int .i64 y1]
  have fhF0 := hF0.facts
  have fF := hF.facts
  have fhK := hK.facts
  have hc := fun x y W hB H => ruled1_any g h rb rk D x y W hB H
  obtain ⟨q, hq⟩ : ∃ q, (oddL (legsAt D (x, y))) = q := ⟨_, rfl⟩
  have hc1 := fun W hB H => hc x y W hB H
  simp only [hq] at hc1 ⊢
  clear hq
  cases q
  · go_enter Tryz.func156, Tryz.ntmps156
    go_wp2_with fail
    refine (hc1 _ hB0 H0).mono ?_
    rintro e w1 ⟨rfl, hb1⟩
    replace hF0 := hF0.below (show Below _ _ w1 by (repeat (first | exact bl_refl | assumption | (apply bl_then; assumption) | refine bl_alloc ?_ _ | refine bl_drew ?_ | refine bl_drewN ?_ _)))
    replace fhF0 := hF0.facts
    replace hK := hK.below (show Below _ _ w1 by (repeat (first | exact bl_refl | assumption | (apply bl_then; assumption) | refine bl_alloc ?_ _ | refine bl_drew ?_ | refine bl_drewN ?_ _)))
    replace fhK := hK.facts
    go_wp2
    go_ret
    exact ⟨ret_bool (by simp), by (repeat (first | exact bl_refl | assumption | (apply bl_then; assumption) | refine bl_alloc ?_ _ | refine bl_drew ?_ | refine bl_drewN ?_ _))⟩
  · go_enter Tryz.func156, Tryz.ntmps156
    go_wp2_with fail
    refine (hc1 _ hB0 H0).mono ?_
    rintro e w1 ⟨rfl, hb1⟩
    replace hF0 := hF0.below (show Below _ _ w1 by (repeat (first | exact bl_refl | assumption | (apply bl_then; assumption) | refine bl_alloc ?_ _ | refine bl_drew ?_ | refine bl_drewN ?_ _)))
    replace fhF0 := hF0.facts
    replace hK := hK.below (show Below _ _ w1 by (repeat (first | exact bl_refl | assumption | (apply bl_then; assumption) | refine bl_alloc ?_ _ | refine bl_drew ?_ | refine bl_drewN ?_ _)))
    replace fhK := hK.facts
    go_wp2_with fail
    refine (hc x1 y1 _ (hB0.below hb1) (H0.below hb1)).mono ?_
    rintro e w2 ⟨rfl, hb2⟩
    go_wp2
    go_ret
    exact ⟨ret_bool (by simp), by (repeat (first | exact bl_refl | assumption | (apply bl_then; assumption) | refine bl_alloc ?_ _ | refine bl_drew ?_ | refine bl_drewN ?_ _))⟩
theorem ruled4_any (b g h rb rk : Nat) (D : List Bar) (x y x1 y1 : Int) (w : World) (hF : Blk w b 179 #[.func (.func 154) #[] #[.pointer (some ⟨g, 0, none⟩)]]) (hB : Blk w g 102 #[.pointer (some ⟨h, 0, none⟩)]) (H : HoleAt w h rb rk D) :
    Calls Tryz.prog 157 #[.agg #[.int .i64 x, .int .i64 y, .int .i64 x1, .int .i64 y1], .pointer (some ⟨b, 0, none⟩)] w (RV w (.bool (oddL (legsAt D (x, y)) || oddL (legsAt D (x1, y1))))) := by
  have hF0 := hF.alloc (.cells #[.int .i64 x, .int .i64 y, .int .i64 x1, .int .i64 y1] 137)
  have hB0 := hB.alloc (.cells #[.int .i64 x, .int .i64 y, .int .i64 x1, .int .i64 y1] 137)
  have H0 := H.below (bl_alloc bl_refl (.cells #[.int .i64 x, .int .i64 y, .int .i64 x1, .int .i64 y1] 137))
  have hK := Blk.new w 137 #[.int .i64 x, .int .i64 y, .int .i64 x1, .int .i64 y1]
  have fhF0 := hF0.facts
  have fF := hF.facts
  have fhK := hK.facts
  have hc := fun x y W hB H => ruled1_any g h rb rk D x y W hB H
  obtain ⟨q, hq⟩ : ∃ q, (oddL (legsAt D (x, y))) = q := ⟨_, rfl⟩
  have hc1 := fun W hB H => hc x y W hB H
  simp only [hq] at hc1 ⊢
  clear hq
  cases q
  · go_enter Tryz.func157, Tryz.ntmps157
    go_wp2_with fail
    refine (hc1 _ hB0 H0).mono ?_
    rintro e w1 ⟨rfl, hb1⟩
    replace hF0 := hF0.below (show Below _ _ w1 by (repeat (first | exact bl_refl | assumption | (apply bl_then; assumption) | refine bl_alloc ?_ _ | refine bl_drew ?_ | refine bl_drewN ?_ _)))
    replace fhF0 := hF0.facts
    replace hK := hK.below (show Below _ _ w1 by (repeat (first | exact bl_refl | assumption | (apply bl_then; assumption) | refine bl_alloc ?_ _ | refine bl_drew ?_ | refine bl_drewN ?_ _)))
    replace fhK := hK.facts
    go_wp2_with fail
    refine (hc x1 y1 _ (hB0.below hb1) (H0.below hb1)).mono ?_
    rintro e w2 ⟨rfl, hb2⟩
    go_wp2
    go_ret
    exact ⟨ret_bool (by simp), by (repeat (first | exact bl_refl | assumption | (apply bl_then; assumption) | refine bl_alloc ?_ _ | refine bl_drew ?_ | refine bl_drewN ?_ _))⟩
  · go_enter Tryz.func157, Tryz.ntmps157
    go_wp2_with fail
    refine (hc1 _ hB0 H0).mono ?_
    rintro e w1 ⟨rfl, hb1⟩
    replace hF0 := hF0.below (show Below _ _ w1 by (repeat (first | exact bl_refl | assumption | (apply bl_then; assumption) | refine bl_alloc ?_ _ | refine bl_drew ?_ | refine bl_drewN ?_ _)))
    replace fhF0 := hF0.facts
    replace hK := hK.below (show Below _ _ w1 by (repeat (first | exact bl_refl | assumption | (apply bl_then; assumption) | refine bl_alloc ?_ _ | refine bl_drew ?_ | refine bl_drewN ?_ _)))
    replace fhK := hK.facts
    go_wp2
    go_ret
    exact ⟨ret_bool (by simp), by (repeat (first | exact bl_refl | assumption | (apply bl_then; assumption) | refine bl_alloc ?_ _ | refine bl_drew ?_ | refine bl_drewN ?_ _))⟩
theorem ruled5_any (b g h rb rk : Nat) (D : List Bar) (x y x1 y1 : Int) (w : World) (hF : Blk w b 179 #[.func (.func 155) #[] #[.pointer (some ⟨g, 0, none⟩)]]) (hB : Blk w g 102 #[.pointer (some ⟨h, 0, none⟩)]) (H : HoleAt w h rb rk D) :
    Calls Tryz.prog 158 #[.agg #[.int .i64 x, .int .i64 y, .int .i64 x1, .int .i64 y1], .pointer (some ⟨b, 0, none⟩)] w (RV w (.bool (decide (0 < cnt (legsAt D (x, y))) || decide (0 < cnt (legsAt D (x1, y1)))))) := by
  have hF0 := hF.alloc (.cells #[.int .i64 x, .int .i64 y, .int .i64 x1, .int .i64 y1] 137)
  have hB0 := hB.alloc (.cells #[.int .i64 x, .int .i64 y, .int .i64 x1, .int .i64 y1] 137)
  have H0 := H.below (bl_alloc bl_refl (.cells #[.int .i64 x, .int .i64 y, .int .i64 x1, .int .i64 y1] 137))
  have hK := Blk.new w 137 #[.int .i64 x, .int .i64 y, .int .i64 x1, .int .i64 y1]
  have fhF0 := hF0.facts
  have fF := hF.facts
  have fhK := hK.facts
  have hc := fun x y W hB H => ruled2_any g h rb rk D x y W hB H
  obtain ⟨q, hq⟩ : ∃ q, (decide (0 < cnt (legsAt D (x, y)))) = q := ⟨_, rfl⟩
  have hc1 := fun W hB H => hc x y W hB H
  simp only [hq] at hc1 ⊢
  clear hq
  cases q
  · go_enter Tryz.func158, Tryz.ntmps158
    go_wp2_with fail
    refine (hc1 _ hB0 H0).mono ?_
    rintro e w1 ⟨rfl, hb1⟩
    replace hF0 := hF0.below (show Below _ _ w1 by (repeat (first | exact bl_refl | assumption | (apply bl_then; assumption) | refine bl_alloc ?_ _ | refine bl_drew ?_ | refine bl_drewN ?_ _)))
    replace fhF0 := hF0.facts
    replace hK := hK.below (show Below _ _ w1 by (repeat (first | exact bl_refl | assumption | (apply bl_then; assumption) | refine bl_alloc ?_ _ | refine bl_drew ?_ | refine bl_drewN ?_ _)))
    replace fhK := hK.facts
    go_wp2_with fail
    refine (hc x1 y1 _ (hB0.below hb1) (H0.below hb1)).mono ?_
    rintro e w2 ⟨rfl, hb2⟩
    go_wp2
    go_ret
    exact ⟨ret_bool (by simp), by (repeat (first | exact bl_refl | assumption | (apply bl_then; assumption) | refine bl_alloc ?_ _ | refine bl_drew ?_ | refine bl_drewN ?_ _))⟩
  · go_enter Tryz.func158, Tryz.ntmps158
    go_wp2_with fail
    refine (hc1 _ hB0 H0).mono ?_
    rintro e w1 ⟨rfl, hb1⟩
    replace hF0 := hF0.below (show Below _ _ w1 by (repeat (first | exact bl_refl | assumption | (apply bl_then; assumption) | refine bl_alloc ?_ _ | refine bl_drew ?_ | refine bl_drewN ?_ _)))
    replace fhF0 := hF0.facts
    replace hK := hK.below (show Below _ _ w1 by (repeat (first | exact bl_refl | assumption | (apply bl_then; assumption) | refine bl_alloc ?_ _ | refine bl_drew ?_ | refine bl_drewN ?_ _)))
    replace fhK := hK.facts
    go_wp2
    go_ret
    exact ⟨ret_bool (by simp), by (repeat (first | exact bl_refl | assumption | (apply bl_then; assumption) | refine bl_alloc ?_ _ | refine bl_drew ?_ | refine bl_drewN ?_ _))⟩
end Go.Proofs.YthcnngoaijgnoaaGreat

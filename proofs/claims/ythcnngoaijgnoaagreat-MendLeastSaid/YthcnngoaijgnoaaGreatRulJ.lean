/- The bar that is trimmed next by rule, of the program: its small closures, walked. Conditions: a hole at its block. -/
import Derived.Test.YthcnngoaijgnoaaGreatK11
import Derived.Test.YthcnngoaijgnoaaGreatK07
import Derived.Test.YthcnngoaijgnoaaGreatPruJ
namespace Go.Proofs.YthcnngoaijgnoaaGreat
open Go.RowKit Go.ChangeMaps
set_option maxHeartbeats 4000000
set_option maxRecDepth 100000

theorem ruled1_any (g h rb rk : Nat) (D : List Bar) (x y : Int) (w : World) (hB : Blk w g 102 #[.pointer (some ⟨h, 0, none⟩)]) (H : HoleAt w h rb rk D) :
    Calls Tryz.prog 154 #[.agg #[.int .i64 x, .int .i64 y], .pointer (some ⟨g, 0, none⟩)] w (RV w (.bool (oddL (legsAt D (x, y))))) := by
  obtain ⟨⟨a, b, c, d⟩, hL⟩ : ∃ L, legsAt D (x, y) = L := ⟨_, rfl⟩
  have hlk := fun W (hW : HoleAt W h rb rk D) => hole_look hW x y
  rw [hL] at hlk
  rw [hL]
  clear hL
  have hB0 := hB.alloc (.cells #[.int .i64 x, .int .i64 y] 26)
  have fB0 := hB0.facts
  have fB := hB.facts
  have hK := Blk.new w 26 #[.int .i64 x, .int .i64 y]
  have fK := hK.facts
  have H0 := H.below (bl_alloc bl_refl (.cells #[.int .i64 x, .int .i64 y] 26))
  have f1 := H0.blk.facts
  have f2 := H.blk.facts
  have hlkA := fun g : Bel (w.alloc (.cells #[.int .i64 x, .int .i64 y] 26)).heap.size (w.alloc (.cells #[.int .i64 x, .int .i64 y] 26)) => hlk _ (H0.below g.below)
  go_enter Tryz.func154, Tryz.ntmps154
  go_wp2_with fail
  refine wp_region_ords [0, 1, 2, 3, 4, 5] [] [6, 7] (by kernel_rfl) (by kernel_rfl) (fun d _ _ _ _ h => by cases d <;> exact h) ?_
  simp only [List.map_cons, List.map_nil, List.getD_cons_zero, List.getD_cons_succ]
  repeat (go_big_quiet_step (fail))
  refine wpQuiet_nil ?_
  clear hlkA
  refine wpMid_nil ?_
  go_wp2_with fail
  refine (odd_any a b c d _).mono ?_
  rintro e w1 ⟨rfl, hb1⟩
  go_wp2
  go_ret
  exact ⟨rfl, by (repeat (first | exact bl_refl | assumption | (apply bl_then; assumption) | refine bl_alloc ?_ _ | refine bl_drew ?_ | refine bl_drewN ?_ _))⟩
@[go_sem high] theorem neq_legs (a b c d : Bool) (w : World) : (binOp .neq 107 (.agg #[.bool a, .bool b, .bool c, .bool d]) (.agg #[.bool false, .bool false, .bool false, .bool false])).run Tryz.prog w = .ok (.bool (decide (0 < cnt (a, b, c, d)))) w := by
  cases a <;> cases b <;> cases c <;> cases d <;> kernel_rfl
theorem ruled2_any (g h rb rk : Nat) (D : List Bar) (x y : Int) (w : World) (hB : Blk w g 102 #[.pointer (some ⟨h, 0, none⟩)]) (H : HoleAt w h rb rk D) :
    Calls Tryz.prog 155 #[.agg #[.int .i64 x, .int .i64 y], .pointer (some ⟨g, 0, none⟩)] w (RV w (.bool (decide (0 < cnt (legsAt D (x, y)))))) := by
  obtain ⟨⟨a, b, c, d⟩, hL⟩ : ∃ L, legsAt D (x, y) = L := ⟨_, rfl⟩
  have hlk := fun W (hW : HoleAt W h rb rk D) => hole_look hW x y
  rw [hL] at hlk
  rw [hL]
  clear hL
  have hB0 := hB.alloc (.cells #[.int .i64 x, .int .i64 y] 26)
  have fB0 := hB0.facts
  have fB := hB.facts
  have hK := Blk.new w 26 #[.int .i64 x, .int .i64 y]
  have fK := hK.facts
  have H0 := H.below (bl_alloc bl_refl (.cells #[.int .i64 x, .int .i64 y] 26))
  have f1 := H0.blk.facts
  have f2 := H.blk.facts
  have hlkA := fun g : Bel (w.alloc (.cells #[.int .i64 x, .int .i64 y] 26)).heap.size (w.alloc (.cells #[.int .i64 x, .int .i64 y] 26)) => hlk _ (H0.below g.below)
  go_enter Tryz.func155, Tryz.ntmps155
  go_wp2_with fail
  refine wp_region_ords [0, 1, 2, 3, 4, 5, 6, 7, 8] [] [] (by kernel_rfl) (by kernel_rfl) (fun d _ _ _ _ h => by cases d <;> exact h) ?_
  simp only [List.map_cons, List.map_nil, List.getD_cons_zero, List.getD_cons_succ]
  repeat (go_big_quiet_step (fail))
  refine wpQuiet_nil ?_
  clear hlkA
  refine wpMid_nil ?_
  go_wp2
  go_ret
  exact ⟨rfl, by (repeat (first | exact bl_refl | assumption | (apply bl_then; assumption) | refine bl_alloc ?_ _ | refine bl_drew ?_ | refine bl_drewN ?_ _))⟩
end Go.Proofs.YthcnngoaijgnoaaGreat

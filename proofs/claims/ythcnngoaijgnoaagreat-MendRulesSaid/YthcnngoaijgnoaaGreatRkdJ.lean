/- The kinds of a hole's knots, of the reference, walked. Conditions: bars within bounds. -/
import Derived.Test.YthcnngoaijgnoaaGreatK11
import Derived.Test.YthcnngoaijgnoaaGreatRcwJ
namespace Go.Proofs.YthcnngoaijgnoaaGreat
open Go.RowKit Go.ChangeMaps
set_option maxHeartbeats 8000000
set_option maxRecDepth 100000

def lcTo (L : Legs) (i : Nat) : Array Value := #[.bool (decide (0 < i) && L.1), .bool (decide (1 < i) && L.2.1), .bool (decide (2 < i) && L.2.2.1), .bool (decide (3 < i) && L.2.2.2)]
theorem lcTo_set (L : Legs) {i : Nat} (hi : i < 4) : (lcTo L i).setIfInBounds i (.bool (lget L i)) = lcTo L (i + 1) := by
  obtain ⟨a, b, c, d⟩ := L
  obtain rfl | rfl | rfl | rfl : i = 0 ∨ i = 1 ∨ i = 2 ∨ i = 3 := by omega
  all_goals (cases a <;> cases b <;> cases c <;> cases d <;> rfl)
theorem rkind_any {v u : Value} (D : List Bar) (x y : Int) (w : World) (hD : SlB w u D) (hx : -1000000 ≤ x ∧ x ≤ 1000000) (hy : -1000000 ≤ y ∧ y ≤ 1000000) (hne : legsAt D (x, y) ≠ noLegs) :
    Calls Tryz.prog 111 #[.agg #[v, u], .agg #[.int .i64 x, .int .i64 y]] w (RV w (kstr (kix (legsAt D (x, y))))) := by
  have hT0 := (Blk.new w 24 #[v, u]).alloc (.cells #[.int .i64 x, .int .i64 y] 26)
  have hK0 := Blk.new1 w (.cells #[v, u] 24) 26 #[.int .i64 x, .int .i64 y]
  have fhK0 := hK0.facts
  have hms := fun (v : Value) X (hX : SlB X u D) => missing_any (v := v) D x y X hX hx hy
  have HNE := Lib.hid hne
  clear hne
  go_enter Tryz.func111, Tryz.ntmps111
  go_wp2_with fail
  refine (four_any x y hx hy _).mono ?_
  rintro e w1 ⟨rfl, hb1⟩
  replace hT0 := hT0.below (show Below _ _ w1 by (repeat (first | exact bl_refl | assumption | (apply bl_then; assumption) | refine bl_alloc ?_ _ | refine bl_drew ?_ | refine bl_drewN ?_ _)))
  replace fhT0 := hT0.facts
  replace hK0 := hK0.below (show Below _ _ w1 by (repeat (first | exact bl_refl | assumption | (apply bl_then; assumption) | refine bl_alloc ?_ _ | refine bl_drew ?_ | refine bl_drewN ?_ _)))
  replace fhK0 := hK0.facts
  have hF := Blk.new w1 120 (fourA x y)
  have hG := Blk.new1 w1 (.cells (fourA x y) 120) 106 (lcTo (legsAt D (x, y)) 0)
  have hT1 := (hT0.alloc (.cells (fourA x y) 120)).alloc (.cells (lcTo (legsAt D (x, y)) 0) 106)
  have hK1 := (hK0.alloc (.cells (fourA x y) 120)).alloc (.cells (lcTo (legsAt D (x, y)) 0) 106)
  have hF1 := hF.alloc (.cells (lcTo (legsAt D (x, y)) 0) 106)
  have hbw1 : Below w.heap.size w ((w1.alloc (.cells (fourA x y) 120)).alloc (.cells (lcTo (legsAt D (x, y)) 0) 106)) := by (repeat (first | exact bl_refl | assumption | (apply bl_then; assumption) | refine bl_alloc ?_ _ | refine bl_drew ?_ | refine bl_drewN ?_ _))
  have hz1 := hb1.size
  simp only [World.size_alloc] at hz1
  obtain ⟨g5, hg5⟩ : ∃ g, w1.heap.size = g := ⟨_, rfl⟩
  rw [hg5] at hF1 hG hz1
  go_wp2
  go_loopw [7] (fun i wr => ∃ k : Nat, k ≤ 4 ∧ i = .int .i64 k ∧ Blk wr (g5 + 1) 106 (lcTo (legsAt D (x, y)) k) ∧ Blk wr g5 120 (fourA x y) ∧ Blk wr w.heap.size 24 #[v, u] ∧ Blk wr (w.heap.size + 1) 26 #[.int .i64 x, .int .i64 y] ∧ Below w.heap.size w wr) (fun i _ => 4 - (intOf i).toNat)
  case atStart => exact ⟨0, by omega, rfl, hG, hF1, hT1, hK1, hbw1⟩
  case round =>
    clear hG hF1 hT1 hK1 hbw1 hT0 hK0 fhK0 fhT0 hF
    obtain ⟨k, hk, rfl, hG, hF, hT, hK, hbw⟩ := hrel
    by_cases hlt : k < 4
    · have f4 := four_cells (x := x) (y := y) hF hlt
      have fF := hF.facts.2
      have fT := hT.facts
      have hlg := lget_legs D (x, y) hlt
      have HST := Lib.hid (lcTo_set (legsAt D (x, y)) hlt)
      obtain ⟨⟨px, py, ps⟩, hp⟩ : ∃ z, armB (x, y) k = z := ⟨_, rfl⟩
      rw [hp] at f4 hlg
      simp only at f4
      obtain ⟨g, hg⟩ : ∃ g, hasb D (px, py, ps) = g := ⟨_, rfl⟩
      have hh := fun X (hX : SlB X u D) => has_any D px py ps X hX
      rw [hg] at hh hlg
      rw [hlg] at HST
      have hDr := hD.below hbw
      clear hp hg hlg
      go_wp2
      refine wp_region_ords [0, 1, 2, 3, 4, 5] [(6, false)] [7, 8] (by kernel_rfl) (by kernel_rfl) (fun d _ _ _ _ h => by cases d <;> exact h) ?_
      simp only [List.map_cons, List.map_nil, List.getD_cons_zero, List.getD_cons_succ]
      repeat (go_big_quiet_step (fail))
      refine wpQuiet_nil ?_
      refine wpMid_run rfl (fun K hK => ?_)
      go_simp
      refine (hh _ (hDr.below (by (repeat (first | exact bl_refl | assumption | (apply bl_then; assumption) | refine bl_alloc ?_ _ | refine bl_drew ?_ | refine bl_drewN ?_ _))))).mono ?_
      rintro e w4 ⟨rfl, hb4⟩
      refine hK _ _ (by (repeat (first | exact bl_refl | assumption | (apply bl_then; assumption) | refine bl_alloc ?_ _ | refine bl_drew ?_ | refine bl_drewN ?_ _))) ?_
      clear hK K
      have hG4 := hG.below (bl_d hb4)
      have fG4 := hG4.facts.2
      obtain ⟨val, hval⟩ : ∃ val, (lcTo (legsAt D (x, y)) k)[k]? = some val := ⟨_, Array.getElem?_eq_getElem (by simp [lcTo]; omega)⟩
      have fc4 : w4.cell? ⟨g5 + 1, k, none⟩ = some val := (hG4.cell k).trans hval
      clear hval
      refine wpMid_nil ?_
      go_wp2
      go_roundw
      case rel => exact ⟨k + 1, by omega, by go_num, by rw [← HST.out]; exact hG4.set_ k (.bool g), (hF.below (bl_d hb4)).far (by simp) _, (hT.below (bl_d hb4)).far (by simp; omega) _, (hK.below (bl_d hb4)).far (by simp; omega) _, bl_set (by (repeat (first | exact bl_refl | assumption | (apply bl_then; assumption) | refine bl_alloc ?_ _ | refine bl_drew ?_ | refine bl_drewN ?_ _))) (by simp; omega) _⟩
      case measure => simp [intOf]; omega
    · rw [show k = 4 by omega] at hG
      obtain ⟨⟨a, b, c, d⟩, hL⟩ : ∃ L, legsAt D (x, y) = L := ⟨_, rfl⟩
      rw [hL] at hG
      have hG4 : Blk wr (g5 + 1) 106 #[.bool a, .bool b, .bool c, .bool d] := hG
      have HL := Lib.hid hL
      have hmn : missN D (x, y) = cnt (a, b, c, d) := by unfold missN; rw [hL]
      rw [hmn] at hms
      have hDr := hD.below hbw
      have fK := hK.facts
      have fT := hT.facts
      have hlt' : ((k : Int) < 4) = False := by simp; omega
      clear hG hL hmn hlt
      cases a <;> cases b <;> cases c <;> cases d
      · exact absurd HL.out HNE.out
      all_goals
        simp [cnt] at hms
        go_wp2_with fail
        refine (hms _ _ (hDr.below (by (repeat (first | exact bl_refl | assumption | (apply bl_then; assumption) | refine bl_alloc ?_ _ | refine bl_drew ?_ | refine bl_drewN ?_ _))))).mono ?_
        rintro e w4 ⟨rfl, hb4⟩
        replace hG4 := hG4.below (show Below _ _ w4 by (repeat (first | exact bl_refl | assumption | (apply bl_then; assumption) | refine bl_alloc ?_ _ | refine bl_drew ?_ | refine bl_drewN ?_ _)))
        replace fhG4 := hG4.facts
        go_wp2
        go_ret
        exact ⟨by rw [HL.out]; rfl, by (repeat (first | exact bl_refl | assumption | (apply bl_then; assumption) | refine bl_alloc ?_ _ | refine bl_drew ?_ | refine bl_drewN ?_ _))⟩
end Go.Proofs.YthcnngoaijgnoaaGreat

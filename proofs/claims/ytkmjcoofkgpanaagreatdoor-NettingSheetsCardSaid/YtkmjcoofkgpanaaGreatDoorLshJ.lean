/- NettingSheets: the law, walked. Conditions: the variables are laid. -/
import Derived.Test.YtkmjcoofkgpanaaGreatDoorB21
import Derived.Test.YtkmjcoofkgpanaaGreatDoorNrsJ
import Derived.Test.YtkmjcoofkgpanaaGreatDoorLmoJ
namespace Go.Proofs.YtkmjcoofkgpanaaGreatDoor
open Go.RowKit Go.ChangeMaps
set_option maxHeartbeats 4000000
set_option maxRecDepth 100000

theorem sheetE_zero {x y c r : Int} (h : sheetE x y c r = 0) : knotE x y = 0 ∧ (1 ≤ c ∧ c ≤ 256) ∧ (1 ≤ r ∧ r ≤ 256) := by
  have h1 : shE1 x y c r = 0 := by
    unfold sheetE at h
    split at h
    · rename_i h0; exact absurd h h0
    · rename_i h0; exact Decidable.byContradiction fun q => h0 q
  obtain ⟨a, b, c⟩ := firstI3_zero h1
  exact ⟨a, withinI_zero b, withinI_zero c⟩
theorem nettingSheets_any (x y c r : Int) (w : World) (hL : Lay w) : Calls Tryz.prog 3 #[.agg #[.int .i64 x, .int .i64 y], .int .i64 c, .int .i64 r] w (RV w (.bool true)) := by
  have ca := fun W (hb : Below w.heap.size w W) => awake_any W (hL.below hb)
  have hK := Blk.new w 23 #[.int .i64 x, .int .i64 y]
  have fhK := hK.facts
  have r1 := fun W => rchecksheet_any x y c r W
  have m1 := fun W => apiSheet_any x y c r W
  by_cases hE : sheetE x y c r = 0
  · obtain ⟨h1, h2, h3⟩ := sheetE_zero hE
    obtain ⟨z1, z2, z3, z4, z5⟩ := knotE_zero h1
    obtain ⟨cn, rfl⟩ : ∃ n : Nat, c = (n : Int) := ⟨c.toNat, by omega⟩
    obtain ⟨rn, rfl⟩ : ∃ n : Nat, r = (n : Int) := ⟨r.toNat, by omega⟩
    have hcn : cn ≤ 256 := by omega
    have hrn : rn ≤ 256 := by omega
    have hm1 : 2 * (cn : Int) * (rn : Int) ≤ 2 * 256 * 256 := by
      have := Nat.mul_le_mul (show 2 * cn ≤ 2 * 256 by omega) hrn
      have h2 : ((2 * cn * rn : Nat) : Int) ≤ ((2 * 256 * 256 : Nat) : Int) := Int.ofNat_le.2 this
      simpa using h2
    have hm0 : 0 ≤ 2 * (cn : Int) * (rn : Int) := Int.mul_nonneg (by omega) (by omega)
    have hl : sheetL x y cn rn = rsN x y cn rn := by
      unfold sheetL
      rw [if_pos hE, Int.toNat_natCast, Int.toNat_natCast, rsN_eq cn z5]
    rw [hE] at r1 m1
    rw [hl] at m1
    have rs := fun W => rsheet_any x y cn rn hcn hrn (by omega) (by omega) W
    clear hE h1 h2 h3 hl z5
    by_cases hm : 200 < 2 * (cn : Int) * (rn : Int)
    · have t1 : (200 < 2 * (cn : Int) * (rn : Int)) = True := eq_true hm
      clear hm
      go_enter Tryz.func3, Tryz.ntmps3
      go_wp2_with fail
      refine (r1 _).mono ?_
      rintro e w1 ⟨rfl, hb1⟩
      replace hK := hK.below (show Below _ _ w1 by (repeat (first | exact bl_refl | assumption | (apply bl_then; assumption) | refine bl_alloc ?_ _ | refine bl_drew ?_ | refine bl_drewN ?_ _)))
      replace fhK := hK.facts
      go_wp2_with fail
      refine (ca _ (by (repeat (first | exact bl_refl | assumption | (apply bl_then; assumption) | refine bl_alloc ?_ _ | refine bl_drew ?_ | refine bl_drewN ?_ _)))).mono ?_
      rintro e w2 ⟨rfl, hb2⟩
      go_wp2_with fail
      refine (ca _ (by (repeat (first | exact bl_refl | assumption | (apply bl_then; assumption) | refine bl_alloc ?_ _ | refine bl_drew ?_ | refine bl_drewN ?_ _)))).mono ?_
      rintro e w3 ⟨rfl, hb3⟩
      go_wp2
      go_ret
      exact ⟨rfl, by (repeat (first | exact bl_refl | assumption | (apply bl_then; assumption) | refine bl_alloc ?_ _ | refine bl_drew ?_ | refine bl_drewN ?_ _))⟩
    · have t1 : (200 < 2 * (cn : Int) * (rn : Int)) = False := eq_false hm
      clear hm
      go_enter Tryz.func3, Tryz.ntmps3
      go_wp2_with fail
      refine (r1 _).mono ?_
      rintro e w1 ⟨rfl, hb1⟩
      replace hK := hK.below (show Below _ _ w1 by (repeat (first | exact bl_refl | assumption | (apply bl_then; assumption) | refine bl_alloc ?_ _ | refine bl_drew ?_ | refine bl_drewN ?_ _)))
      replace fhK := hK.facts
      go_wp2_with fail
      refine (ca _ (by (repeat (first | exact bl_refl | assumption | (apply bl_then; assumption) | refine bl_alloc ?_ _ | refine bl_drew ?_ | refine bl_drewN ?_ _)))).mono ?_
      rintro e w2 ⟨rfl, hb2⟩
      replace hK := hK.below (show Below _ _ w2 by (repeat (first | exact bl_refl | assumption | (apply bl_then; assumption) | refine bl_alloc ?_ _ | refine bl_drew ?_ | refine bl_drewN ?_ _)))
      replace fhK := hK.facts
      go_wp2_with fail
      refine (m1 _).mono ?_
      rintro e w3 ⟨v3, rfl, hO3, hb3⟩
      replace hK := hK.below (show Below _ _ w3 by (repeat (first | exact bl_refl | assumption | (apply bl_then; assumption) | refine bl_alloc ?_ _ | refine bl_drew ?_ | refine bl_drewN ?_ _)))
      replace fhK := hK.facts
      go_wp2_with fail
      refine (rs _).mono ?_
      rintro e w4 ⟨v4, rfl, hO4, hb4⟩
      go_wp2_with fail
      refine (lnet_any _ _ _ _ _ ((hO3.rd bc_len).below (by (repeat (first | exact bl_refl | assumption | (apply bl_then; assumption) | refine bl_alloc ?_ _ | refine bl_drew ?_ | refine bl_drewN ?_ _)))) (hO4.rd bc_len)).mono ?_
      rintro e w5 ⟨rfl, hb5⟩
      rw [show ∀ L : List Bar, netB L 0 0 L = true from fun L => by simp [netB]]
      go_wp2
      go_ret
      exact ⟨rfl, by (repeat (first | exact bl_refl | assumption | (apply bl_then; assumption) | refine bl_alloc ?_ _ | refine bl_drew ?_ | refine bl_drewN ?_ _))⟩
  · have hl : sheetL x y c r = [] := by unfold sheetL; rw [if_neg hE]
    have t1 : (sheetE x y c r == 0) = false := beq_false_of_ne hE
    have hN := net_err hE
    rw [hl] at m1
    obtain ⟨E, hEE⟩ : ∃ E, sheetE x y c r = E := ⟨_, rfl⟩
    rw [hEE] at t1 m1 r1 hN
    clear hE hEE hl
    go_enter Tryz.func3, Tryz.ntmps3
    go_wp2_with fail
    refine (r1 _).mono ?_
    rintro e w1 ⟨rfl, hb1⟩
    replace hK := hK.below (show Below _ _ w1 by (repeat (first | exact bl_refl | assumption | (apply bl_then; assumption) | refine bl_alloc ?_ _ | refine bl_drew ?_ | refine bl_drewN ?_ _)))
    replace fhK := hK.facts
    go_wp2_with fail
    refine (ca _ (by (repeat (first | exact bl_refl | assumption | (apply bl_then; assumption) | refine bl_alloc ?_ _ | refine bl_drew ?_ | refine bl_drewN ?_ _)))).mono ?_
    rintro e w2 ⟨rfl, hb2⟩
    replace hK := hK.below (show Below _ _ w2 by (repeat (first | exact bl_refl | assumption | (apply bl_then; assumption) | refine bl_alloc ?_ _ | refine bl_drew ?_ | refine bl_drewN ?_ _)))
    replace fhK := hK.facts
    go_wp2_with fail
    refine (m1 _).mono ?_
    rintro e w3 ⟨v3, rfl, hO3, hb3⟩
    go_wp2_with fail
    refine (lnet_any [] [] E E _ (hO3.rd bc_len) Sl.nil_).mono ?_
    rintro e w5 ⟨rfl, hb5⟩
    rw [hN]
    go_wp2
    go_ret
    exact ⟨rfl, by (repeat (first | exact bl_refl | assumption | (apply bl_then; assumption) | refine bl_alloc ?_ _ | refine bl_drew ?_ | refine bl_drewN ?_ _))⟩
end Go.Proofs.YtkmjcoofkgpanaaGreatDoor

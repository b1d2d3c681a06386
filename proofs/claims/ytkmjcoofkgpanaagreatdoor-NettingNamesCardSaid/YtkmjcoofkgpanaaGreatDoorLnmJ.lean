/- NettingNames: the law, walked. Conditions: the variables are laid. -/
import Derived.Test.YtkmjcoofkgpanaaGreatDoorB21
import Derived.Test.YtkmjcoofkgpanaaGreatDoorNdrJ
import Derived.Test.YtkmjcoofkgpanaaGreatDoorNnmJ
import Derived.Test.YtkmjcoofkgpanaaGreatDoorLmoJ
namespace Go.Proofs.YtkmjcoofkgpanaaGreatDoor
open Go.RowKit Go.ChangeMaps
set_option maxHeartbeats 4000000
set_option maxRecDepth 100000

theorem drawE_zero {key n : Int} (h : drawE key n = 0) : (1 ≤ key ∧ key ≤ 2147483646) ∧ (0 ≤ n ∧ n ≤ 256) := by
  obtain ⟨h1, h2⟩ := firstI_zero h
  unfold withinI whenI at h1 h2
  split at h1 <;> split at h2
  all_goals simp_all
theorem nettingNames_any (s : Str) (key n : Int) (w : World) (hz : s.length ≤ maxLen) (hL : Lay w) : Calls Tryz.prog 13 #[.string ⟨s.toArray⟩, .int .i64 key, .int .i64 n] w (RV w (.bool true)) := by
  have ca := fun W (hb : Below w.heap.size w W) => awake_any W (hL.below hb)
  unfold maxLen at hz
  by_cases hl : 60 < s.length
  · have t1 : (60 < (s.length : Int)) = True := eq_true (by omega)
    clear hl
    go_enter Tryz.func13, Tryz.ntmps13
    go_wp2_with fail
    refine (ca _ (by (repeat (first | exact bl_refl | assumption | (apply bl_then; assumption) | refine bl_alloc ?_ _ | refine bl_drew ?_ | refine bl_drewN ?_ _)))).mono ?_
    rintro e w1 ⟨rfl, hb1⟩
    go_wp2_with fail
    refine (ca _ (by (repeat (first | exact bl_refl | assumption | (apply bl_then; assumption) | refine bl_alloc ?_ _ | refine bl_drew ?_ | refine bl_drewN ?_ _)))).mono ?_
    rintro e w2 ⟨rfl, hb2⟩
    go_wp2
    go_ret
    exact ⟨rfl, by (repeat (first | exact bl_refl | assumption | (apply bl_then; assumption) | refine bl_alloc ?_ _ | refine bl_drew ?_ | refine bl_drewN ?_ _))⟩
  have t1 : (60 < (s.length : Int)) = False := eq_false (by omega)
  have m1 := fun W => apiDraw_any key n W
  have r1 := fun W => rchkdraw_any key n W
  have n1 := fun W => nname_any s (by omega) W
  have n2 := fun W => rname_any s (by omega) W
  obtain ⟨nm, hnm⟩ : ∃ b, nameR s = b := ⟨_, rfl⟩
  rw [hnm] at n1 n2
  clear hnm hl
  by_cases hE : drawE key n = 0
  · obtain ⟨hk, hn⟩ := drawE_zero hE
    have hR : drawR key n = drawL key n.toNat := by unfold drawR; rw [if_pos hE]
    obtain ⟨m, rfl⟩ : ∃ m : Nat, n = (m : Int) := ⟨n.toNat, by omega⟩
    rw [Int.toNat_natCast] at hR
    rw [hE] at m1 r1
    rw [hR] at m1
    have rd := fun W => rdraw_any key m hk (by omega) W
    clear hE hR
    go_enter Tryz.func13, Tryz.ntmps13
    go_wp2_with fail
    refine (ca _ (by (repeat (first | exact bl_refl | assumption | (apply bl_then; assumption) | refine bl_alloc ?_ _ | refine bl_drew ?_ | refine bl_drewN ?_ _)))).mono ?_
    rintro e w1 ⟨rfl, hb1⟩
    go_wp2_with fail
    refine (m1 _).mono ?_
    rintro e w2 ⟨v2, rfl, hO2, hb2⟩
    go_wp2_with fail
    refine (r1 _).mono ?_
    rintro e w3 ⟨rfl, hb3⟩
    go_wp2_with fail
    refine (rd _).mono ?_
    rintro e w4 ⟨v4, rfl, hO4, hb4⟩
    go_wp2_with fail
    refine (n1 _).mono ?_
    rintro e w5 ⟨rfl, hb5⟩
    go_wp2_with fail
    refine (n2 _).mono ?_
    rintro e w6 ⟨rfl, hb6⟩
    go_wp2_with fail
    refine (llist_any _ _ _ _ _ ((hO2.rd ic_len).below (by (repeat (first | exact bl_refl | assumption | (apply bl_then; assumption) | refine bl_alloc ?_ _ | refine bl_drew ?_ | refine bl_drewN ?_ _)))) ((hO4.rd ic_len).below (by (repeat (first | exact bl_refl | assumption | (apply bl_then; assumption) | refine bl_alloc ?_ _ | refine bl_drew ?_ | refine bl_drewN ?_ _))))).mono ?_
    rintro e w7 ⟨rfl, hb7⟩
    rw [show ∀ L : List Int, lstB L 0 0 L = true from fun L => by simp [lstB]]
    go_wp2
    go_ret
    exact ⟨rfl, by (repeat (first | exact bl_refl | assumption | (apply bl_then; assumption) | refine bl_alloc ?_ _ | refine bl_drew ?_ | refine bl_drewN ?_ _))⟩
  · have hR : drawR key n = [] := by unfold drawR; rw [if_neg hE]
    have t2 : (drawE key n == 0) = false := beq_false_of_ne hE
    have hN : lstB [] (drawE key n) (drawE key n) [] = true := by unfold lstB; rw [if_pos hE]; simp
    rw [hR] at m1
    obtain ⟨E, hEE⟩ : ∃ E, drawE key n = E := ⟨_, rfl⟩
    rw [hEE] at t2 m1 r1 hN
    clear hE hEE hR
    go_enter Tryz.func13, Tryz.ntmps13
    go_wp2_with fail
    refine (ca _ (by (repeat (first | exact bl_refl | assumption | (apply bl_then; assumption) | refine bl_alloc ?_ _ | refine bl_drew ?_ | refine bl_drewN ?_ _)))).mono ?_
    rintro e w1 ⟨rfl, hb1⟩
    go_wp2_with fail
    refine (m1 _).mono ?_
    rintro e w2 ⟨v2, rfl, hO2, hb2⟩
    go_wp2_with fail
    refine (r1 _).mono ?_
    rintro e w3 ⟨rfl, hb3⟩
    go_wp2_with fail
    refine (n1 _).mono ?_
    rintro e w5 ⟨rfl, hb5⟩
    go_wp2_with fail
    refine (n2 _).mono ?_
    rintro e w6 ⟨rfl, hb6⟩
    go_wp2_with fail
    refine (llist_any [] [] E E _ ((hO2.rd ic_len).below (by (repeat (first | exact bl_refl | assumption | (apply bl_then; assumption) | refine bl_alloc ?_ _ | refine bl_drew ?_ | refine bl_drewN ?_ _)))) Sl.nil_).mono ?_
    rintro e w7 ⟨rfl, hb7⟩
    rw [hN]
    go_wp2
    go_ret
    exact ⟨rfl, by (repeat (first | exact bl_refl | assumption | (apply bl_then; assumption) | refine bl_alloc ?_ _ | refine bl_drew ?_ | refine bl_drewN ?_ _))⟩
end Go.Proofs.YtkmjcoofkgpanaaGreatDoor

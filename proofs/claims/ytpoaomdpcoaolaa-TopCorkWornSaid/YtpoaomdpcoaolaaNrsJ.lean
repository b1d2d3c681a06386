/- The reference: sheets, walked. Conditions: none. -/
import Derived.Test.YtpoaomdpcoaolaaC19
import Derived.Test.YtpoaomdpcoaolaaC14
import Derived.Test.YtpoaomdpcoaolaaC18
import Derived.Test.YtpoaomdpcoaolaaC05
namespace Go.Proofs.Ytpoaomdpcoaolaa
open Go.RowKit Go.ChangeMaps
set_option maxHeartbeats 4000000
set_option maxRecDepth 100000

attribute [local go_sem] Oper.semAt_some
theorem rchecksheet_any (x y c r : Int) (w : World) : Calls Try.prog 13 #[.agg #[.int .i64 x, .int .i64 y], .int .i64 c, .int .i64 r] w (RV w (.int .i64 (sheetE x y c r))) := by
  have hB := Blk.new w 30 #[.int .i64 x, .int .i64 y]
  have fB := hB.facts
  have hF : ∀ A c' W, Rd ic 1 W A [knotE x y, withinI c 1 256, withinI r 1 256] → Calls Try.prog 29 #[.slice A 3 c'] W (RV W (.int .i64 (shE1 x y c r))) := fun A c' W hr => rfirst_any [knotE x y, withinI c 1 256, withinI r 1 256] A c' W (by simp [maxLen]) hr
  by_cases hE : shE1 x y c r = 0
  · obtain ⟨hz1, hz2, hz3⟩ := firstI3_zero hE
    obtain ⟨z1, z2, z3, z4, z5⟩ := knotE_zero hz1
    obtain ⟨c1, c2⟩ := withinI_zero hz2
    obtain ⟨r1, r2⟩ := withinI_zero hz3
    rw [hE] at hF
    have HE : Hid (sheetE x y c r = shE2 x y c r) := by unfold Hid sheetE; rw [if_neg (by simp [hE])]
    obtain ⟨cn, rfl⟩ : ∃ n : Nat, c = (n : Int) := ⟨c.toNat, by omega⟩
    obtain ⟨rn, rfl⟩ : ∃ n : Nat, r = (n : Int) := ⟨r.toNat, by omega⟩
    have hcn : cn ≤ 256 := by omega
    have hrn : rn ≤ 256 := by omega
    have hm1 : 2 * (cn : Int) * (rn : Int) ≤ 2 * 256 * 256 := by
      have := Nat.mul_le_mul (show 2 * cn ≤ 2 * 256 by omega) hrn
      have h2 : ((2 * cn * rn : Nat) : Int) ≤ ((2 * 256 * 256 : Nat) : Int) := Int.ofNat_le.2 this
      simpa using h2
    have hm0 : 0 ≤ 2 * (cn : Int) * (rn : Int) := Int.mul_nonneg (by omega) (by omega)
    clear hz1 hz2 hz3 hE
    by_cases hm : 4096 < 2 * (cn : Int) * (rn : Int)
    · have HS : Hid (sheetE x y cn rn = 5) := by unfold Hid; rw [HE.out]; unfold shE2 whenI firstI; rw [if_pos (decide_eq_true hm), if_neg (by decide)]
      have t1 : (4096 < 2 * (cn : Int) * (rn : Int)) = True := eq_true hm
      clear hm
      go_enter Try.func13, Try.ntmps13
      go_wp2_with (first | (go_at_call 30; refine (rknot_any x y _).mono ?_; rintro e w1 ⟨rfl, hb1⟩; (first | replace hB := hB.st0 hb1 | replace hB := hB.st1 hb1 | replace hB := hB.std hb1 | replace hB := hB.std1 hb1 | replace hB := hB.st2 hb1 | replace hB := hB.std2 hb1 | replace hB := hB.st3 hb1); have kB := hB.facts) | (go_at_call 31; refine (rrange_any _ _ _ _).mono ?_; rintro e w1 ⟨rfl, hb1⟩; (first | replace hB := hB.st0 hb1 | replace hB := hB.st1 hb1 | replace hB := hB.std hb1 | replace hB := hB.std1 hb1 | replace hB := hB.st2 hb1 | replace hB := hB.std2 hb1 | replace hB := hB.st3 hb1); have kB := hB.facts) | (go_at_call 29; go_must (refine (hF _ _ _ (Rd.ints3 (by simp) (by go_simp) (by go_simp) (by go_simp))).mono ?_); rintro e w3 ⟨rfl, hb3⟩; have hB3 := (hB.alloc (.cells #[.int .i64 (knotE x y), .int .i64 (withinI cn 1 256), .int .i64 (withinI rn 1 256)] 3)).below hb3; have fB3 := hB3.facts))
      go_ret
      exact ⟨by rw [HS.out]; rfl, by (repeat (first | exact bl_refl | assumption | (apply bl_then; assumption) | refine bl_alloc ?_ _ | refine bl_drew ?_ | refine bl_drewN ?_ _))⟩
    · have t1 : (4096 < 2 * (cn : Int) * (rn : Int)) = False := eq_false hm
      have HS0 : Hid (sheetE x y cn rn = if farB (x + 2 * (cn : Int)) || farB (y + (rn : Int)) then 3 else 0) := by
        unfold Hid; rw [HE.out]; unfold shE2 whenI; rw [if_neg (by simpa using hm), reachI_far]; unfold firstI; rw [if_pos rfl]; unfold firstI
        split <;> rfl
      clear hm
      obtain ⟨f1, hf1⟩ : ∃ f, farB (x + 2 * (cn : Int)) = f := ⟨_, rfl⟩
      obtain ⟨f2, hf2⟩ : ∃ f, farB (y + (rn : Int)) = f := ⟨_, rfl⟩
      have k1 := fun W => far_any (x + 2 * (cn : Int)) W
      have k2 := fun W => far_any (y + (rn : Int)) W
      rw [hf1] at k1
      rw [hf2] at k2
      rw [hf1, hf2] at HS0
      clear hf1 hf2
      cases f1
      · cases f2
        · have HS : Hid (sheetE x y cn rn = 0) := by unfold Hid; rw [HS0.out]; rfl
          clear HS0
          go_enter Try.func13, Try.ntmps13
          go_wp2_with (first | (go_at_call 30; refine (rknot_any x y _).mono ?_; rintro e w1 ⟨rfl, hb1⟩; (first | replace hB := hB.st0 hb1 | replace hB := hB.st1 hb1 | replace hB := hB.std hb1 | replace hB := hB.std1 hb1 | replace hB := hB.st2 hb1 | replace hB := hB.std2 hb1 | replace hB := hB.st3 hb1); have kB := hB.facts) | (go_at_call 31; refine (rrange_any _ _ _ _).mono ?_; rintro e w1 ⟨rfl, hb1⟩; (first | replace hB := hB.st0 hb1 | replace hB := hB.st1 hb1 | replace hB := hB.std hb1 | replace hB := hB.std1 hb1 | replace hB := hB.st2 hb1 | replace hB := hB.std2 hb1 | replace hB := hB.st3 hb1); have kB := hB.facts) | (go_at_call 29; go_must (refine (hF _ _ _ (Rd.ints3 (by simp) (by go_simp) (by go_simp) (by go_simp))).mono ?_); rintro e w3 ⟨rfl, hb3⟩; have hB3 := (hB.alloc (.cells #[.int .i64 (knotE x y), .int .i64 (withinI cn 1 256), .int .i64 (withinI rn 1 256)] 3)).below hb3; have fhB3 := hB3.facts))
          go_wp2_with fail
          refine (k1 _).mono ?_
          rintro e w4 ⟨rfl, hb4⟩
          replace hB3 := hB3.below (show Below _ _ w4 by (repeat (first | exact bl_refl | assumption | (apply bl_then; assumption) | refine bl_alloc ?_ _ | refine bl_drew ?_ | refine bl_drewN ?_ _)))
          replace fhB3 := hB3.facts
          go_wp2_with fail
          refine (k2 _).mono ?_
          rintro e w5 ⟨rfl, hb5⟩
          go_wp2
          go_ret
          exact ⟨by rw [HS.out]; rfl, by (repeat (first | exact bl_refl | assumption | (apply bl_then; assumption) | refine bl_alloc ?_ _ | refine bl_drew ?_ | refine bl_drewN ?_ _))⟩
        · have HS : Hid (sheetE x y cn rn = 3) := by unfold Hid; rw [HS0.out]; rfl
          clear HS0
          go_enter Try.func13, Try.ntmps13
          go_wp2_with (first | (go_at_call 30; refine (rknot_any x y _).mono ?_; rintro e w1 ⟨rfl, hb1⟩; (first | replace hB := hB.st0 hb1 | replace hB := hB.st1 hb1 | replace hB := hB.std hb1 | replace hB := hB.std1 hb1 | replace hB := hB.st2 hb1 | replace hB := hB.std2 hb1 | replace hB := hB.st3 hb1); have kB := hB.facts) | (go_at_call 31; refine (rrange_any _ _ _ _).mono ?_; rintro e w1 ⟨rfl, hb1⟩; (first | replace hB := hB.st0 hb1 | replace hB := hB.st1 hb1 | replace hB := hB.std hb1 | replace hB := hB.std1 hb1 | replace hB := hB.st2 hb1 | replace hB := hB.std2 hb1 | replace hB := hB.st3 hb1); have kB := hB.facts) | (go_at_call 29; go_must (refine (hF _ _ _ (Rd.ints3 (by simp) (by go_simp) (by go_simp) (by go_simp))).mono ?_); rintro e w3 ⟨rfl, hb3⟩; have hB3 := (hB.alloc (.cells #[.int .i64 (knotE x y), .int .i64 (withinI cn 1 256), .int .i64 (withinI rn 1 256)] 3)).below hb3; have fhB3 := hB3.facts))
          go_wp2_with fail
          refine (k1 _).mono ?_
          rintro e w4 ⟨rfl, hb4⟩
          replace hB3 := hB3.below (show Below _ _ w4 by (repeat (first | exact bl_refl | assumption | (apply bl_then; assumption) | refine bl_alloc ?_ _ | refine bl_drew ?_ | refine bl_drewN ?_ _)))
          replace fhB3 := hB3.facts
          go_wp2_with fail
          refine (k2 _).mono ?_
          rintro e w5 ⟨rfl, hb5⟩
          go_wp2
          go_ret
          exact ⟨by rw [HS.out]; rfl, by (repeat (first | exact bl_refl | assumption | (apply bl_then; assumption) | refine bl_alloc ?_ _ | refine bl_drew ?_ | refine bl_drewN ?_ _))⟩
      · have HS : Hid (sheetE x y cn rn = 3) := by unfold Hid; rw [HS0.out]; rfl
        clear HS0
        go_enter Try.func13, Try.ntmps13
        go_wp2_with (first | (go_at_call 30; refine (rknot_any x y _).mono ?_; rintro e w1 ⟨rfl, hb1⟩; (first | replace hB := hB.st0 hb1 | replace hB := hB.st1 hb1 | replace hB := hB.std hb1 | replace hB := hB.std1 hb1 | replace hB := hB.st2 hb1 | replace hB := hB.std2 hb1 | replace hB := hB.st3 hb1); have kB := hB.facts) | (go_at_call 31; refine (rrange_any _ _ _ _).mono ?_; rintro e w1 ⟨rfl, hb1⟩; (first | replace hB := hB.st0 hb1 | replace hB := hB.st1 hb1 | replace hB := hB.std hb1 | replace hB := hB.std1 hb1 | replace hB := hB.st2 hb1 | replace hB := hB.std2 hb1 | replace hB := hB.st3 hb1); have kB := hB.facts) | (go_at_call 29; go_must (refine (hF _ _ _ (Rd.ints3 (by simp) (by go_simp) (by go_simp) (by go_simp))).mono ?_); rintro e w3 ⟨rfl, hb3⟩; have hB3 := (hB.alloc (.cells #[.int .i64 (knotE x y), .int .i64 (withinI cn 1 256), .int .i64 (withinI rn 1 256)] 3)).below hb3; have fhB3 := hB3.facts))
        go_wp2_with fail
        refine (k1 _).mono ?_
        rintro e w4 ⟨rfl, hb4⟩
        replace hB3 := hB3.below (show Below _ _ w4 by (repeat (first | exact bl_refl | assumption | (apply bl_then; assumption) | refine bl_alloc ?_ _ | refine bl_drew ?_ | refine bl_drewN ?_ _)))
        replace fhB3 := hB3.facts
        go_wp2
        go_ret
        exact ⟨by rw [HS.out]; rfl, by (repeat (first | exact bl_refl | assumption | (apply bl_then; assumption) | refine bl_alloc ?_ _ | refine bl_drew ?_ | refine bl_drewN ?_ _))⟩
  · have hE' : (shE1 x y c r == 0) = false := beq_false_of_ne hE
    have HS : Hid (sheetE x y c r = shE1 x y c r) := by unfold Hid sheetE; rw [if_pos hE]
    clear hE
    go_enter Try.func13, Try.ntmps13
    go_wp2_with (first | (go_at_call 30; refine (rknot_any x y _).mono ?_; rintro e w1 ⟨rfl, hb1⟩; (first | replace hB := hB.st0 hb1 | replace hB := hB.st1 hb1 | replace hB := hB.std hb1 | replace hB := hB.std1 hb1 | replace hB := hB.st2 hb1 | replace hB := hB.std2 hb1 | replace hB := hB.st3 hb1); have kB := hB.facts) | (go_at_call 31; refine (rrange_any _ _ _ _).mono ?_; rintro e w1 ⟨rfl, hb1⟩; (first | replace hB := hB.st0 hb1 | replace hB := hB.st1 hb1 | replace hB := hB.std hb1 | replace hB := hB.std1 hb1 | replace hB := hB.st2 hb1 | replace hB := hB.std2 hb1 | replace hB := hB.st3 hb1); have kB := hB.facts) | (go_at_call 29; go_must (refine (hF _ _ _ (Rd.ints3 (by simp) (by go_simp) (by go_simp) (by go_simp))).mono ?_); rintro e w3 ⟨rfl, hb3⟩))
    go_ret
    exact ⟨by rw [HS.out]; rfl, by (repeat (first | exact bl_refl | assumption | (apply bl_then; assumption) | refine bl_alloc ?_ _ | refine bl_drew ?_ | refine bl_drewN ?_ _))⟩
theorem rsN_small (x0 y0 : Int) {c n : Nat} (hc : c ≤ 256) (hn : n ≤ 256) : (rsN x0 y0 c n).length ≤ 262656 := by
  have h1 := rsN_len x0 y0 c n
  have h2 : n * (2 * (2 * c + 1)) ≤ 256 * (2 * (2 * 256 + 1)) := Nat.mul_le_mul hn (by omega)
  omega
theorem rsT_go {x0 : Int} {c : Nat} {x y : Int} (t : Nat) : rsT x0 c x y (t + 1) = rsT x0 c x y t ++ if evB x y then sdB x0 c (x, y, 2 * (t : Int) - 1) else [] := rfl
end Go.Proofs.Ytpoaomdpcoaolaa

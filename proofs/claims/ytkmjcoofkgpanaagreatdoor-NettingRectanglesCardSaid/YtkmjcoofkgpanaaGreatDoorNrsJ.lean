/- The reference: sheets, walked. Conditions: none. -/
import Derived.Test.YtkmjcoofkgpanaaGreatDoorB21
import Derived.Test.YtkmjcoofkgpanaaGreatDoorB14
import Derived.Test.YtkmjcoofkgpanaaGreatDoorPshJ
import Derived.Test.YtkmjcoofkgpanaaGreatDoorB05
namespace Go.Proofs.YtkmjcoofkgpanaaGreatDoor
open Go.RowKit Go.ChangeMaps
set_option maxHeartbeats 4000000
set_option maxRecDepth 100000

attribute [local go_sem] Oper.semAt_some
theorem rchecksheet_any (x y c r : Int) (w : World) : Calls Tryz.prog 16 #[.agg #[.int .i64 x, .int .i64 y], .int .i64 c, .int .i64 r] w (RV w (.int .i64 (sheetE x y c r))) := by
  have hB := Blk.new w 23 #[.int .i64 x, .int .i64 y]
  have fB := hB.facts
  have hF : ∀ A c' W, Rd ic 1 W A [knotE x y, withinI c 1 256, withinI r 1 256] → Calls Tryz.prog 79 #[.slice A 3 c'] W (RV W (.int .i64 (shE1 x y c r))) := fun A c' W hr => rfirst_any [knotE x y, withinI c 1 256, withinI r 1 256] A c' W (by simp [maxLen]) hr
  by_cases hE : shE1 x y c r = 0
  · obtain ⟨hz1, hz2, hz3⟩ := firstI3_zero hE
    obtain ⟨z1, z2, z3, z4, z5⟩ := knotE_zero hz1
    obtain ⟨c1, c2⟩ := withinI_zero hz2
    obtain ⟨r1, r2⟩ := withinI_zero hz3
    rw [hE] at hF
    have HE : Hid (sheetE x y c r = shE2 x y c r) := by unfold Hid sheetE; rw [if_neg (by simp [hE])]
    obtain ⟨cn, rfl⟩ : ∃ n : Nat, c = (n : Int) := ⟨c.toNat, by omega⟩
    obtain ⟨rn, rfl⟩ : ∃ n : Nat, r = (n : Int) := ⟨r.toNat, by omega⟩
    have hcn : cn ≤ 256 := by omega
    have hrn : rn ≤ 256 := by omega
    have hm1 : 2 * (cn : Int) * (rn : Int) ≤ 2 * 256 * 256 := by
      have := Nat.mul_le_mul (show 2 * cn ≤ 2 * 256 by omega) hrn
      have h2 : ((2 * cn * rn : Nat) : Int) ≤ ((2 * 256 * 256 : Nat) : Int) := Int.ofNat_le.2 this
      simpa using h2
    have hm0 : 0 ≤ 2 * (cn : Int) * (rn : Int) := Int.mul_nonneg (by omega) (by omega)
    clear hz1 hz2 hz3 hE
    by_cases hm : 4096 < 2 * (cn : Int) * (rn : Int)
    · have HS : Hid (sheetE x y cn rn = 5) := by unfold Hid; rw [HE.out]; unfold shE2 whenI firstI; rw [if_pos (decide_eq_true hm), if_neg (by decide)]
      have t1 : (4096 < 2 * (cn : Int) * (rn : Int)) = True := eq_true hm
      clear hm
      go_enter Tryz.func16, Tryz.ntmps16
      go_wp2_with (first | (go_at_call 42; refine (rknot_any x y _).mono ?_; rintro e w1 ⟨rfl, hb1⟩; (first | replace hB := hB.st0 hb1 | replace hB := hB.st1 hb1 | replace hB := hB.std hb1 | replace hB := hB.std1 hb1 | replace hB := hB.st2 hb1 | replace hB := hB.std2 hb1 | replace hB := hB.st3 hb1); have kB := hB.facts) | (go_at_call 62; refine (rrange_any _ _ _ _).mono ?_; rintro e w1 ⟨rfl, hb1⟩; (first | replace hB := hB.st0 hb1 | replace hB := hB.st1 hb1 | replace hB := hB.std hb1 | replace hB := hB.std1 hb1 | replace hB := hB.st2 hb1 | replace hB := hB.std2 hb1 | replace hB := hB.st3 hb1); have kB := hB.facts) | (go_at_call 79; go_must (refine (hF _ _ _ (Rd.ints3 (by simp) (by go_simp) (by go_simp) (by go_simp))).mono ?_); rintro e w3 ⟨rfl, hb3⟩; have hB3 := (hB.alloc (.cells #[.int .i64 (knotE x y), .int .i64 (withinI cn 1 256), .int .i64 (withinI rn 1 256)] 3)).below hb3; have fB3 := hB3.facts))
      go_ret
      exact ⟨by rw [HS.out]; rfl, by (repeat (first | exact bl_refl | assumption | (apply bl_then; assumption) | refine bl_alloc ?_ _ | refine bl_drew ?_ | refine bl_drewN ?_ _))⟩
    · have t1 : (4096 < 2 * (cn : Int) * (rn : Int)) = False := eq_false hm
      have HS0 : Hid (sheetE x y cn rn = if farB (x + 2 * (cn : Int)) || farB (y + (rn : Int)) then 3 else 0) := by
        unfold Hid; rw [HE.out]; unfold shE2 whenI; rw [if_neg (by simpa using hm), reachI_far]; unfold firstI; rw [if_pos rfl]; unfold firstI
        split <;> rfl
      clear hm
      obtain ⟨f1, hf1⟩ : ∃ f, farB (x + 2 * (cn : Int)) = f := ⟨_, rfl⟩
      obtain ⟨f2, hf2⟩ : ∃ f, farB (y + (rn : Int)) = f := ⟨_, rfl⟩
      have k1 := fun W => far_any (x + 2 * (cn : Int)) W
      have k2 := fun W => far_any (y + (rn : Int)) W
      rw [hf1] at k1
      rw [hf2] at k2
      rw [hf1, hf2] at HS0
      clear hf1 hf2
      cases f1
      · cases f2
        · have HS : Hid (sheetE x y cn rn = 0) := by unfold Hid; rw [HS0.out]; rfl
          clear HS0
          go_enter Tryz.func16, Tryz.ntmps16
          go_wp2_with (first | (go_at_call 42; refine (rknot_any x y _).mono ?_; rintro e w1 ⟨rfl, hb1⟩; (first | replace hB := hB.st0 hb1 | replace hB := hB.st1 hb1 | replace hB := hB.std hb1 | replace hB := hB.std1 hb1 | replace hB := hB.st2 hb1 | replace hB := hB.std2 hb1 | replace hB := hB.st3 hb1); have kB := hB.facts) | (go_at_call 62; refine (rrange_any _ _ _ _).mono ?_; rintro e w1 ⟨rfl, hb1⟩; (first | replace hB := hB.st0 hb1 | replace hB := hB.st1 hb1 | replace hB := hB.std hb1 | replace hB := hB.std1 hb1 | replace hB := hB.st2 hb1 | replace hB := hB.std2 hb1 | replace hB := hB.st3 hb1); have kB := hB.facts) | (go_at_call 79; go_must (refine (hF _ _ _ (Rd.ints3 (by simp) (by go_simp) (by go_simp) (by go_simp))).mono ?_); rintro e w3 ⟨rfl, hb3⟩; have hB3 := (hB.alloc (.cells #[.int .i64 (knotE x y), .int .i64 (withinI cn 1 256), .int .i64 (withinI rn 1 256)] 3)).below hb3; have fhB3 := hB3.facts))
          go_wp2_with fail
          refine (k1 _).mono ?_
          rintro e w4 ⟨rfl, hb4⟩
          replace hB3 := hB3.below (show Below _ _ w4 by (repeat (first | exact bl_refl | assumption | (apply bl_then; assumption) | refine bl_alloc ?_ _ | refine bl_drew ?_ | refine bl_drewN ?_ _)))
          replace fhB3 := hB3.facts
          go_wp2_with fail
          refine (k2 _).mono ?_
          rintro e w5 ⟨rfl, hb5⟩
          go_wp2
          go_ret
          exact ⟨by rw [HS.out]; rfl, by (repeat (first | exact bl_refl | assumption | (apply bl_then; assumption) | refine bl_alloc ?_ _ | refine bl_drew ?_ | refine bl_drewN ?_ _))⟩
        · have HS : Hid (sheetE x y cn rn = 3) := by unfold Hid; rw [HS0.out]; rfl
          clear HS0
          go_enter Tryz.func16, Tryz.ntmps16
          go_wp2_with (first | (go_at_call 42; refine (rknot_any x y _).mono ?_; rintro e w1 ⟨rfl, hb1⟩; (first | replace hB := hB.st0 hb1 | replace hB := hB.st1 hb1 | replace hB := hB.std hb1 | replace hB := hB.std1 hb1 | replace hB := hB.st2 hb1 | replace hB := hB.std2 hb1 | replace hB := hB.st3 hb1); have kB := hB.facts) | (go_at_call 62; refine (rrange_any _ _ _ _).mono ?_; rintro e w1 ⟨rfl, hb1⟩; (first | replace hB := hB.st0 hb1 | replace hB := hB.st1 hb1 | replace hB := hB.std hb1 | replace hB := hB.std1 hb1 | replace hB := hB.st2 hb1 | replace hB := hB.std2 hb1 | replace hB := hB.st3 hb1); have kB := hB.facts) | (go_at_call 79; go_must (refine (hF _ _ _ (Rd.ints3 (by simp) (by go_simp) (by go_simp) (by go_simp))).mono ?_); rintro e w3 ⟨rfl, hb3⟩; have hB3 := (hB.alloc (.cells #[.int .i64 (knotE x y), .int .i64 (withinI cn 1 256), .int .i64 (withinI rn 1 256)] 3)).below hb3; have fhB3 := hB3.facts))
          go_wp2_with fail
          refine (k1 _).mono ?_
          rintro e w4 ⟨rfl, hb4⟩
          replace hB3 := hB3.below (show Below _ _ w4 by (repeat (first | exact bl_refl | assumption | (apply bl_then; assumption) | refine bl_alloc ?_ _ | refine bl_drew ?_ | refine bl_drewN ?_ _)))
          replace fhB3 := hB3.facts
          go_wp2_with fail
          refine (k2 _).mono ?_
          rintro e w5 ⟨rfl, hb5⟩
          go_wp2
          go_ret
          exact ⟨by rw [HS.out]; rfl, by (repeat (first | exact bl_refl | assumption | (apply bl_then; assumption) | refine bl_alloc ?_ _ | refine bl_drew ?_ | refine bl_drewN ?_ _))⟩
      · have HS : Hid (sheetE x y cn rn = 3) := by unfold Hid; rw [HS0.out]; rfl
        clear HS0
        go_enter Tryz.func16, Tryz.ntmps16
        go_wp2_with (first | (go_at_call 42; refine (rknot_any x y _).mono ?_; rintro e w1 ⟨rfl, hb1⟩; (first | replace hB := hB.st0 hb1 | replace hB := hB.st1 hb1 | replace hB := hB.std hb1 | replace hB := hB.std1 hb1 | replace hB := hB.st2 hb1 | replace hB := hB.std2 hb1 | replace hB := hB.st3 hb1); have kB := hB.facts) | (go_at_call 62; refine (rrange_any _ _ _ _).mono ?_; rintro e w1 ⟨rfl, hb1⟩; (first | replace hB := hB.st0 hb1 | replace hB := hB.st1 hb1 | replace hB := hB.std hb1 | replace hB := hB.std1 hb1 | replace hB := hB.st2 hb1 | replace hB := hB.std2 hb1 | replace hB := hB.st3 hb1); have kB := hB.facts) | (go_at_call 79; go_must (refine (hF _ _ _ (Rd.ints3 (by simp) (by go_simp) (by go_simp) (by go_simp))).mono ?_); rintro e w3 ⟨rfl, hb3⟩; have hB3 := (hB.alloc (.cells #[.int .i64 (knotE x y), .int .i64 (withinI cn 1 256), .int .i64 (withinI rn 1 256)] 3)).below hb3; have fhB3 := hB3.facts))
        go_wp2_with fail
        refine (k1 _).mono ?_
        rintro e w4 ⟨rfl, hb4⟩
        replace hB3 := hB3.below (show Below _ _ w4 by (repeat (first | exact bl_refl | assumption | (apply bl_then; assumption) | refine bl_alloc ?_ _ | refine bl_drew ?_ | refine bl_drewN ?_ _)))
        replace fhB3 := hB3.facts
        go_wp2
        go_ret
        exact ⟨by rw [HS.out]; rfl, by (repeat (first | exact bl_refl | assumption | (apply bl_then; assumption) | refine bl_alloc ?_ _ | refine bl_drew ?_ | refine bl_drewN ?_ _))⟩
  · have hE' : (shE1 x y c r == 0) = false := beq_false_of_ne hE
    have HS : Hid (sheetE x y c r = shE1 x y c r) := by unfold Hid sheetE; rw [if_pos hE]
    clear hE
    go_enter Tryz.func16, Tryz.ntmps16
    go_wp2_with (first | (go_at_call 42; refine (rknot_any x y _).mono ?_; rintro e w1 ⟨rfl, hb1⟩; (first | replace hB := hB.st0 hb1 | replace hB := hB.st1 hb1 | replace hB := hB.std hb1 | replace hB := hB.std1 hb1 | replace hB := hB.st2 hb1 | replace hB := hB.std2 hb1 | replace hB := hB.st3 hb1); have kB := hB.facts) | (go_at_call 62; refine (rrange_any _ _ _ _).mono ?_; rintro e w1 ⟨rfl, hb1⟩; (first | replace hB := hB.st0 hb1 | replace hB := hB.st1 hb1 | replace hB := hB.std hb1 | replace hB := hB.std1 hb1 | replace hB := hB.st2 hb1 | replace hB := hB.std2 hb1 | replace hB := hB.st3 hb1); have kB := hB.facts) | (go_at_call 79; go_must (refine (hF _ _ _ (Rd.ints3 (by simp) (by go_simp) (by go_simp) (by go_simp))).mono ?_); rintro e w3 ⟨rfl, hb3⟩))
    go_ret
    exact ⟨by rw [HS.out]; rfl, by (repeat (first | exact bl_refl | assumption | (apply bl_then; assumption) | refine bl_alloc ?_ _ | refine bl_drew ?_ | refine bl_drewN ?_ _))⟩
theorem rsN_small (x0 y0 : Int) {c n : Nat} (hc : c ≤ 256) (hn : n ≤ 256) : (rsN x0 y0 c n).length ≤ 262656 := by
  have h1 := rsN_len x0 y0 c n
  have h2 : n * (2 * (2 * c + 1)) ≤ 256 * (2 * (2 * 256 + 1)) := Nat.mul_le_mul hn (by omega)
  omega
theorem rsT_go {x0 : Int} {c : Nat} {x y : Int} (t : Nat) : rsT x0 c x y (t + 1) = rsT x0 c x y t ++ if evB x y then sdB x0 c (x, y, 2 * (t : Int) - 1) else [] := rfl
theorem rsheet_any (x y : Int) (cn rn : Nat) (hc : cn ≤ 256) (hr : rn ≤ 256) (hx : -100000 ≤ x ∧ x ≤ 100000) (hy : -100000 ≤ y ∧ y ≤ 100000) (w : World) : Calls Tryz.prog 19 #[.agg #[.int .i64 x, .int .i64 y], .int .i64 cn, .int .i64 rn] w (RB w (rsN x y cn rn)) := by
  obtain ⟨w1, hw1⟩ : ∃ X, w.alloc (.cells #[.int .i64 x, .int .i64 y] 23) = X := ⟨_, rfl⟩
  have hB := Blk.new w 23 #[.int .i64 x, .int .i64 y]
  have hb1 : Below w.heap.size w w1 := by rw [← hw1]; (repeat (first | exact bl_refl | assumption | (apply bl_then; assumption) | refine bl_alloc ?_ _ | refine bl_drew ?_ | refine bl_drewN ?_ _))
  rw [hw1] at hB
  have fB := hB.facts
  go_enter Tryz.func19, Tryz.ntmps19
  go_wp2
  clear fB hw1
  go_loopw [7, 8] (fun o i wr => ∃ n : Nat, n ≤ rn ∧ i = .int .i64 (y + (n : Int)) ∧ OwB w1.heap.size wr o (rsN x y cn n) ∧ Below w1.heap.size w1 wr) (fun _ i _ => rn - (intOf i - y).toNat)
  case atStart => exact ⟨0, Nat.zero_le _, by simp, Own.nil_, by (repeat (first | exact bl_refl | assumption | (apply bl_then; assumption) | refine bl_alloc ?_ _ | refine bl_drew ?_ | refine bl_drewN ?_ _))⟩
  case round =>
    obtain ⟨n, hn, rfl, hO, hbw⟩ := hrel
    obtain ⟨wo, rfl⟩ : ∃ x, x = wr := ⟨_, rfl⟩
    have fB := (hB.below hbw).facts
    by_cases hnr : n < rn
    · have hl1 := rsN_small x y (c := cn) (n := n) hc (by omega)
      have HN : Hid (rsN x y cn (n + 1) = rsN x y cn n ++ rsI x cn (y + (n : Int)) (2 * cn + 1)) := rfl
      obtain ⟨Y, hY⟩ : ∃ Y, y + (n : Int) = Y := ⟨_, rfl⟩
      obtain ⟨R, hR⟩ : ∃ R, rsN x y cn n = R := ⟨_, rfl⟩
      rw [hY, hR] at HN
      rw [hR] at hO hl1
      have t1 : (y + (n : Int) < y + (rn : Int)) = True := eq_true (by omega)
      rw [hY] at t1 ⊢
      have hYb : -200000 ≤ Y ∧ Y ≤ 200000 := by omega
      have HYn : Hid (Y + 1 = y + ((n + 1 : Nat) : Int)) := by unfold Hid; omega
      clear hY hR
      go_wp2
      clear fB
      go_loopw [7, 9] (fun o i wr => ∃ m : Nat, m ≤ 2 * cn + 1 ∧ i = .int .i64 (x + (m : Int)) ∧ OwB w1.heap.size wr o (R ++ rsI x cn Y m) ∧ Below w1.heap.size w1 wr) (fun _ i _ => 2 * cn + 1 - (intOf i - x).toNat)
      case atStart => exact ⟨0, Nat.zero_le _, by simp, by simpa [rsI] using hO, hbw⟩
      case round =>
        clear hO hbw
        obtain ⟨m, hm, rfl, hO, hbw⟩ := hrel
        obtain ⟨wp, rfl⟩ : ∃ x, x = wr := ⟨_, rfl⟩
        have fB := (hB.below hbw).facts
        by_cases hmc : m < 2 * cn + 1
        · have hl2 := rsI_len x cn Y m
          have HM : Hid (rsI x cn Y (m + 1) = rsI x cn Y m ++ rsT x cn (x + (m : Int)) Y 2) := rfl
          obtain ⟨X, hX⟩ : ∃ X, x + (m : Int) = X := ⟨_, rfl⟩
          obtain ⟨S, hS⟩ : ∃ S, rsI x cn Y m = S := ⟨_, rfl⟩
          rw [hX, hS] at HM
          rw [hS] at hO hl2
          have t2 : (x + (m : Int) ≤ x + 2 * (cn : Int)) = True := eq_true (by omega)
          rw [hX] at t2 ⊢
          have hXb : -200000 ≤ X ∧ X ≤ 200000 := by omega
          have HXn : Hid (X + 1 = x + ((m + 1 : Nat) : Int)) := by unfold Hid; omega
          clear hX hS
          go_wp2
          clear fB
          go_loopw [7, 10] (fun o i wr => ∃ t : Nat, t ≤ 2 ∧ i = .int .i64 (2 * (t : Int) - 1) ∧ OwB w1.heap.size wr o (R ++ S ++ rsT x cn X Y t) ∧ Below w1.heap.size w1 wr) (fun _ i _ => 2 - ((intOf i + 1) / 2).toNat)
          case atStart => exact ⟨0, Nat.zero_le _, by simp, by simpa [rsT] using hO, hbw⟩
          case round =>
            clear hO hbw
            obtain ⟨t, ht, rfl, hO, hbw⟩ := hrel
            obtain ⟨wq, rfl⟩ : ∃ x, x = wr := ⟨_, rfl⟩
            have hBq := hB.below hbw
            have fhBq := hBq.facts
            by_cases ht2 : t < 2
            · have hl3 := rsT_len x cn X Y t
              have HT := Lib.hid (rsT_go (x0 := x) (c := cn) (x := X) (y := Y) t)
              obtain ⟨T, hT⟩ : ∃ T, rsT x cn X Y t = T := ⟨_, rfl⟩
              obtain ⟨sd, hsd⟩ : ∃ sd, 2 * (t : Int) - 1 = sd := ⟨_, rfl⟩
              rw [hT] at hO hl3 HT
              rw [hsd] at HT ⊢
              have hsb : -1 ≤ sd ∧ sd ≤ 1 := by omega
              have t3 : (sd ≤ 1) = True := eq_true (by omega)
              have HSn : Hid (sd + 2 = 2 * ((t + 1 : Nat) : Int) - 1) := by unfold Hid; omega
              have HSm : Hid (2 - ((sd + 2 + 1) / 2).toNat < 2 - ((sd + 1) / 2).toNat) := by unfold Hid; omega
              have ce := fun W => even_any X Y (by omega) (by omega) W
              rw [show decide ((X + Y) % 2 = 0) = evB X Y from rfl] at ce
              obtain ⟨ev, hev⟩ : ∃ ev, evB X Y = ev := ⟨_, rfl⟩
              rw [hev] at ce HT
              have HS1 : Hid (sdB x cn (X, Y, sd) = if x ≤ X + sd ∧ X + sd ≤ x + 2 * (cn : Int) then [(X, Y, sd)] else []) := rfl
              have hll : (R ++ S ++ T).length ≤ 300000 := by simp only [List.length_append]; omega
              clear hT hsd hev
              cases ev
              · have HR : Hid (rsT x cn X Y (t + 1) = T) := by unfold Hid; rw [HT.out]; simp
                clear HT HS1
                go_wp2_with fail
                refine (ce _).mono ?_
                rintro e w5 ⟨rfl, hb5⟩
                replace hBq := hBq.below (show Below _ _ w5 by (repeat (first | exact bl_refl | assumption | (apply bl_then; assumption) | refine bl_alloc ?_ _ | refine bl_drew ?_ | refine bl_drewN ?_ _)))
                replace fhBq := hBq.facts
                have hO5 := hO.below (show Below _ _ w5 by (repeat (first | exact bl_refl | assumption | (apply bl_then; assumption) | refine bl_alloc ?_ _ | refine bl_drew ?_ | refine bl_drewN ?_ _)))
                go_wp2
                go_roundw
                case rel => exact ⟨t + 1, by omega, by rw [HSn.out], by rw [HR.out]; exact hO5, by (repeat (first | exact bl_refl | assumption | (apply bl_then; assumption) | refine bl_alloc ?_ _ | refine bl_drew ?_ | refine bl_drewN ?_ _))⟩
                case measure => exact HSm.out
              · by_cases lo : x ≤ X + sd
                · have t4 : (x ≤ X + sd) = True := eq_true lo
                  by_cases hi : X + sd ≤ x + 2 * (cn : Int)
                  · have t5 : (X + sd ≤ x + 2 * (cn : Int)) = True := eq_true hi
                    have HR : Hid (R ++ S ++ rsT x cn X Y (t + 1) = R ++ S ++ T ++ [(X, Y, sd)]) := by unfold Hid; rw [HT.out, if_pos rfl, HS1.out, if_pos ⟨lo, hi⟩, List.append_assoc (R ++ S)]
                    clear HT HS1 lo hi
                    go_wp2_with fail
                    refine (ce _).mono ?_
                    rintro e w5 ⟨rfl, hb5⟩
                    replace hBq := hBq.below (show Below _ _ w5 by (repeat (first | exact bl_refl | assumption | (apply bl_then; assumption) | refine bl_alloc ?_ _ | refine bl_drew ?_ | refine bl_drewN ?_ _)))
                    replace fhBq := hBq.facts
                    have hO5 := hO.below (show Below _ _ w5 by (repeat (first | exact bl_refl | assumption | (apply bl_then; assumption) | refine bl_alloc ?_ _ | refine bl_drew ?_ | refine bl_drewN ?_ _)))
                    have hbw5 : Below w1.heap.size w1 w5 := by (repeat (first | exact bl_refl | assumption | (apply bl_then; assumption) | refine bl_alloc ?_ _ | refine bl_drew ?_ | refine bl_drewN ?_ _))
                    go_wp2_with (at_builtin; refine wpList_appB1 hO5 rfl _ _ rfl rfl rfl (by simp) (by omega) hbw5.size ?_; intro v6 w6 hown6 hgr6)
                    have hb6 := own_step hO5 hgr6 (by (repeat (first | exact bl_refl | assumption | (apply bl_then; assumption) | refine bl_alloc ?_ _ | refine bl_drew ?_ | refine bl_drewN ?_ _)))
                    clear hgr6
                    go_wp2
                    go_roundw
                    case rel => exact ⟨t + 1, by omega, by rw [HSn.out], by rw [HR.out]; exact hown6, hb6⟩
                    case measure => exact HSm.out
                  · have t5 : (X + sd ≤ x + 2 * (cn : Int)) = False := eq_false hi
                    have HR : Hid (rsT x cn X Y (t + 1) = T) := by unfold Hid; rw [HT.out, if_pos rfl, HS1.out, if_neg (fun q => hi q.2), List.append_nil]
                    clear HT HS1 lo hi
                    go_wp2_with fail
                    refine (ce _).mono ?_
                    rintro e w5 ⟨rfl, hb5⟩
                    replace hBq := hBq.below (show Below _ _ w5 by (repeat (first | exact bl_refl | assumption | (apply bl_then; assumption) | refine bl_alloc ?_ _ | refine bl_drew ?_ | refine bl_drewN ?_ _)))
                    replace fhBq := hBq.facts
                    have hO5 := hO.below (show Below _ _ w5 by (repeat (first | exact bl_refl | assumption | (apply bl_then; assumption) | refine bl_alloc ?_ _ | refine bl_drew ?_ | refine bl_drewN ?_ _)))
                    go_wp2
                    go_roundw
                    case rel => exact ⟨t + 1, by omega, by rw [HSn.out], by rw [HR.out]; exact hO5, by (repeat (first | exact bl_refl | assumption | (apply bl_then; assumption) | refine bl_alloc ?_ _ | refine bl_drew ?_ | refine bl_drewN ?_ _))⟩
                    case measure => exact HSm.out
                · have t4 : (x ≤ X + sd) = False := eq_false lo
                  have HR : Hid (rsT x cn X Y (t + 1) = T) := by unfold Hid; rw [HT.out, if_pos rfl, HS1.out, if_neg (fun q => lo q.1), List.append_nil]
                  clear HT HS1 lo
                  go_wp2_with fail
                  refine (ce _).mono ?_
                  rintro e w5 ⟨rfl, hb5⟩
                  replace hBq := hBq.below (show Below _ _ w5 by (repeat (first | exact bl_refl | assumption | (apply bl_then; assumption) | refine bl_alloc ?_ _ | refine bl_drew ?_ | refine bl_drewN ?_ _)))
                  replace fhBq := hBq.facts
                  have hO5 := hO.below (show Below _ _ w5 by (repeat (first | exact bl_refl | assumption | (apply bl_then; assumption) | refine bl_alloc ?_ _ | refine bl_drew ?_ | refine bl_drewN ?_ _)))
                  go_wp2
                  go_roundw
                  case rel => exact ⟨t + 1, by omega, by rw [HSn.out], by rw [HR.out]; exact hO5, by (repeat (first | exact bl_refl | assumption | (apply bl_then; assumption) | refine bl_alloc ?_ _ | refine bl_drew ?_ | refine bl_drewN ?_ _))⟩
                  case measure => exact HSm.out
            · obtain rfl : t = 2 := by omega
              have HR : Hid (R ++ rsI x cn Y (m + 1) = R ++ S ++ rsT x cn X Y 2) := by unfold Hid; rw [HM.out, List.append_assoc]
              have HXm : Hid (2 * cn + 1 - (X + 1 - x).toNat < 2 * cn + 1 - (X - x).toNat) := by unfold Hid; have := HXn.out; omega
              go_wp2
              go_roundw
              case rel => exact ⟨m + 1, by omega, by rw [HXn.out], by rw [HR.out]; exact hO, hbw⟩
              case measure => exact HXm.out
        · obtain rfl : m = 2 * cn + 1 := by omega
          have HYm : Hid (rn - (Y + 1 - y).toNat < rn - (Y - y).toNat) := by unfold Hid; have := HYn.out; omega
          have t2 : (x + ((2 * cn + 1 : Nat) : Int) ≤ x + 2 * (cn : Int)) = False := eq_false (by omega)
          obtain ⟨X, hX⟩ : ∃ X, x + ((2 * cn + 1 : Nat) : Int) = X := ⟨_, rfl⟩
          rw [hX] at t2 ⊢
          clear hX
          go_wp2
          go_roundw
          case rel => exact ⟨n + 1, by omega, by rw [HYn.out], by rw [HN.out]; exact hO, hbw⟩
          case measure => exact HYm.out
    · obtain rfl : n = rn := by omega
      go_wp2
      go_ret
      exact ⟨_, rfl, hO.base_mono hb1.size, bl_then hbw hb1⟩
end Go.Proofs.YtkmjcoofkgpanaaGreatDoor

/- Sheets, of the program, walked. Conditions: none. -/
import Derived.Test.YtpompeancmonbaaGreatE08
import Derived.Test.YtpompeancmonbaaGreatE17
import Derived.Test.YtpompeancmonbaaGreatE23
import Derived.Test.YtpompeancmonbaaGreatE22
import Derived.Test.YtpompeancmonbaaGreatE24
import Derived.Test.YtpompeancmonbaaGreatE26
import Derived.Test.YtpompeancmonbaaGreatE14
import Derived.Test.YtpompeancmonbaaGreatE42
import Derived.Test.YtpompeancmonbaaGreatE33
import Derived.Test.YtpompeancmonbaaGreatE31
namespace Go.Proofs.YtpompeancmonbaaGreat
open Go.RowKit Go.ChangeMaps
set_option maxHeartbeats 4000000
set_option maxRecDepth 100000

attribute [local go_sem] Oper.semAt_some
theorem appendSeq_any (B : Nat) (x0 y0 : Int) (c r : Nat) (hc : c ≤ 300) (hr : r ≤ 300) (hx : -200000 ≤ x0 ∧ x0 ≤ 200000) (hy : -200000 ≤ y0 ∧ y0 ≤ 200000) (w : World)
    (hA : Blk w B 32 #[.int .i64 x0, .int .i64 y0]) (hC : Blk w (B + 1) 3 #[.int .i64 c]) (hR : Blk w (B + 2) 3 #[.int .i64 r]) :
    Calls Tryz.prog 114 #[.slice none 0 0, .func (.func 115) #[] #[.pointer (some ⟨B + 2, 0, none⟩), .pointer (some ⟨B, 0, none⟩), .pointer (some ⟨B + 1, 0, none⟩)]] w (RB w (shN x0 y0 c r)) := by
  refine (callsIn_wide (n := 6)).1 ?_
  refine callsIn_of_wp_marks Tryz.func114 rfl trivial ?_ rfl
  simp only [Tryz.ntmps114, List.size_toArray, List.length_cons, List.length_nil, Nat.reduceAdd, Nat.reduceSub, Array.replicate_succ, Array.replicate_zero, List.push_toArray, List.append_toArray, List.nil_append, List.cons_append]
  gi_wp2
  have hBx := Blk.new w 22 #[.slice none 0 0]
  have hb1 : Below w.heap.size w (w.alloc (.cells #[.slice none 0 0] 22)) := bl_alloc bl_refl _
  have hsz : (w.alloc (.cells #[.slice none 0 0] 22)).heap.size = w.heap.size + 1 := by simp
  obtain ⟨w1, hw1⟩ : ∃ X, w.alloc (.cells #[.slice none 0 0] 22) = X := ⟨_, rfl⟩
  rw [hw1] at hBx hb1 hsz ⊢
  have hAl := hA.lt
  have hCl := hC.lt
  refine wpIn_rangeFunc_ownH rfl (by omega) (gf := 115) (lb := #[.pointer (some ⟨B + 2, 0, none⟩), .pointer (some ⟨B, 0, none⟩), .pointer (some ⟨B + 1, 0, none⟩)]) rfl trivial (enters_of Tryz.func115 (by kernel_rfl) rfl)
    (sheet_stops 5 (by omega) [w.heap.size] B x0 y0 c r hc hr hx hy w1 (by simp; omega) (by simp; omega) (hA.below hb1) (hC.below hb1) (hR.below hb1)) keepB_t (keepB_b (Nat.le_refl _)) (Below.refl _ _) (fun _ => rfl)
    (fun pre W => (∃ u, Blk W w.heap.size 22 #[u] ∧ OwB w1.heap.size W u pre) ∧ Below w.heap.size w W ∧ w1.heap.size ≤ W.heap.size)
    (fun _ _ _ => False)
    (fun _ W W' row hs hg hr => by
      obtain ⟨⟨u, h1, h2⟩, h3, h4⟩ := hs
      exact ⟨⟨u, h1.grown hg (nc_blk h1 hr), h2.kept hg (nc_own h2 hr)⟩, bl_grown hg h3 (fun k e => by have := (hr k e).1; omega), Nat.le_trans h4 hg.size⟩)
    (fun _ _ _ _ _ hs _ _ => hs)
    ⟨⟨_, hBx, Own.nil_⟩, hb1, Nat.le_refl _⟩
    (fun x a' W => ∃ Bk, Blk W Bk 46 #[.int .i64 x.1, .int .i64 x.2.1, .int .i64 x.2.2] ∧ w1.heap.size ≤ Bk ∧ a' = { tmps := #[.slice none 0 0, .func (.func 115) #[] #[.pointer (some ⟨B + 2, 0, none⟩), .pointer (some ⟨B, 0, none⟩), .pointer (some ⟨B + 1, 0, none⟩)], .pointer (some ⟨w.heap.size, 0, none⟩), undef, .slice none 0 0, .pointer (some ⟨Bk, 0, none⟩), .func (.func 115) #[] #[.pointer (some ⟨B + 2, 0, none⟩), .pointer (some ⟨B, 0, none⟩), .pointer (some ⟨B + 1, 0, none⟩)], .agg #[.int .i64 x.1, .int .i64 x.2.1, .int .i64 x.2.2], undef, undef, undef, undef, undef], defers := [] })
    (fun x a' s W W' row hs hg hr => by
      obtain ⟨Bk, hX, hk, rfl⟩ := hs
      exact ⟨Bk, hX.grown hg (nc_blk hX hr), hk, rfl⟩) ?assign ?body ?done ?stop
  case assign =>
    rintro l pre x W K ⟨⟨u, hu1, hu2⟩, hbw, hs2⟩ hK
    unfold encBN
    gi_wp2
    have hb2 : Below W.heap.size W (W.alloc (.cells #[.int .i64 x.1, .int .i64 x.2.1, .int .i64 x.2.2] 46)) := bl_alloc bl_refl _
    exact hK _ _ (keeps_of_below hb2) (KeepB.of_below hb2 hs2) ⟨⟨u, hu1.below hb2, hu2.below hb2⟩, bl_then hb2 hbw, Nat.le_trans hs2 hb2.size⟩ ⟨W.heap.size, Blk.new W _ _, hs2, rfl⟩
  case body =>
    rintro l pre x a' W _ _ ⟨⟨u, hu1, hu2⟩, hbw, hs2⟩ ⟨Bk, hX, hk, rfl⟩ hlt
    have fk := hX.facts
    have fo := hu1.facts
    gi_wp2_with (gi_at_builtin; refine wpListIn_appB1 hu2 rfl _ _ rfl rfl rfl rfl (by omega) hs2 ?_; intro v3 w3 hu3 hgr3; obtain ⟨A3, c3, rfl⟩ := hu3.shape; have hu13 := (hu1.alloc (.cells #[.int .i64 x.1, .int .i64 x.2.1, .int .i64 x.2.2] 46)).grown hgr3 (hu2.ne_blk hu1 (by decide)); have fo3 := hu13.facts)
    simp only [List.length_append, List.length_cons, List.length_nil, Nat.zero_add] at hu3
    have hal : Below W.heap.size W (W.alloc (.cells #[.int .i64 x.1, .int .i64 x.2.1, .int .i64 x.2.2] 46)) := bl_alloc bl_refl _
    have hsz2 : w1.heap.size ≤ (W.alloc (.cells #[.int .i64 x.1, .int .i64 x.2.1, .int .i64 x.2.2] 46)).heap.size := Nat.le_trans hs2 hal.size
    have hbw3 : Below w.heap.size w w3 := bl_grown hgr3 (bl_then hal hbw) (fun k e => by have := (hu2.lt k e).1; omega)
    exact ⟨(keeps_of_below hal).trans ((keeps_grown (hu2.alloc _) hgr3).trans (keeps_set hu13 0 _)),
      (KeepB.of_below hal hs2).trans ((KeepB.of_grown hgr3 hsz2 (fun k e => (hu2.lt k e).1)).trans (KeepB.of_set (by simp))),
      ⟨_, hu13.set_ 0 _, hu3.set (Ne.symm (hu3.ne_blk hu13 (by decide))) _⟩, bl_set hbw3 (by simp) _, Nat.le_trans hsz2 (Nat.le_trans hgr3.size (by simp [World.setCell]))⟩
  case done =>
    rintro D' ys W hD rfl ⟨⟨u, hu1, hu2⟩, hbw, hs2⟩ hK
    have fo := hu1.facts
    gi_wp2
    refine ⟨by simp, .inl ⟨_, _, rfl, run_takeDeferred hK, ?_⟩⟩
    exact ⟨_, results_tmp rfl _ _ _, u, rfl, Own.base_mono (ownsRow_putObj hu2 _ hK rfl) (by omega), hbw.trans (belowK_b (w := w) (Nat.le_refl _) W D' _ _ (by omega) hK rfl rfl)⟩
  case stop =>
    rintro D' c pre W _ _ h _
    exact h.elim
theorem collect_any (B : Nat) (x0 y0 : Int) (c r : Nat) (hc : c ≤ 300) (hr : r ≤ 300) (hx : -200000 ≤ x0 ∧ x0 ≤ 200000) (hy : -200000 ≤ y0 ∧ y0 ≤ 200000) (w : World)
    (hA : Blk w B 32 #[.int .i64 x0, .int .i64 y0]) (hC : Blk w (B + 1) 3 #[.int .i64 c]) (hR : Blk w (B + 2) 3 #[.int .i64 r]) :
    Calls Tryz.prog 75 #[.func (.func 115) #[] #[.pointer (some ⟨B + 2, 0, none⟩), .pointer (some ⟨B, 0, none⟩), .pointer (some ⟨B + 1, 0, none⟩)]] w (RB w (shN x0 y0 c r)) := by
  go_enter Tryz.func75, Tryz.ntmps75
  go_wp2_with (go_at_call 114; refine (appendSeq_any B x0 y0 c r hc hr hx hy _ hA hC hR).mono ?_; rintro e w1 ⟨v, rfl, hO, hb⟩)
  go_ret
  exact ⟨v, rfl, hO, hb⟩
def shE1 (x y c r : Int) : Int := firstI [knotE x y, withinI c 1 256, withinI r 1 256]
def shE2 (x y c r : Int) : Int := firstI [whenI (decide (4096 < 2 * c * r)) 5, reachI (x + 2 * c) (y + r)]
def sheetE (x y c r : Int) : Int := if shE1 x y c r ≠ 0 then shE1 x y c r else shE2 x y c r
def sheetL (x y c r : Int) : List Bar := if sheetE x y c r = 0 then shN x y c.toNat r.toNat else []
theorem firstI3_zero {a b c : Int} (h : firstI [a, b, c] = 0) : a = 0 ∧ b = 0 ∧ c = 0 := by
  unfold firstI at h
  split at h
  · rename_i ha; exact ⟨ha, firstI_zero h⟩
  · contradiction
theorem withinI_zero {n lo hi : Int} (h : withinI n lo hi = 0) : lo ≤ n ∧ n ≤ hi := by
  unfold withinI whenI at h
  split at h
  · omega
  · rename_i h2; simp at h2; omega
theorem apiSheet_any (x y c r : Int) (w : World) : Calls Tryz.prog 30 #[.agg #[.int .i64 x, .int .i64 y], .int .i64 c, .int .i64 r] w (RBE w (sheetL x y c r) (sheetE x y c r)) := by
  have hB := Blk.new w 32 #[.int .i64 x, .int .i64 y]
  have fB := hB.facts
  have hF : ∀ A c' W, Rd ic 1 W A [knotE x y, withinI c 1 256, withinI r 1 256] → Calls Tryz.prog 34 #[.slice A 3 c'] W (RV W (.int .i64 (shE1 x y c r))) := fun A c' W hr => nfirst_any [knotE x y, withinI c 1 256, withinI r 1 256] A c' W (by simp [maxLen]) hr
  by_cases hE : shE1 x y c r = 0
  · obtain ⟨hz1, hz2, hz3⟩ := firstI3_zero hE
    obtain ⟨z1, z2, z3, z4, z5⟩ := knotE_zero hz1
    obtain ⟨c1, c2⟩ := withinI_zero hz2
    obtain ⟨r1, r2⟩ := withinI_zero hz3
    have hE' : (shE1 x y c r != 0) = false := by simp [hE]
    have hF2 : ∀ A c' W, Rd ic 1 W A [whenI (decide (4096 < 2 * c * r)) 5, reachI (x + 2 * c) (y + r)] → Calls Tryz.prog 34 #[.slice A 2 c'] W (RV W (.int .i64 (shE2 x y c r))) := fun A c' W hr => nfirst_any [whenI (decide (4096 < 2 * c * r)) 5, reachI (x + 2 * c) (y + r)] A c' W (by simp [maxLen]) hr
    have HE : Hid (sheetE x y c r = shE2 x y c r) := by unfold Hid sheetE; rw [if_neg (by simp [hE])]
    obtain ⟨cn, rfl⟩ : ∃ n : Nat, c = (n : Int) := ⟨c.toNat, by omega⟩
    obtain ⟨rn, rfl⟩ : ∃ n : Nat, r = (n : Int) := ⟨r.toNat, by omega⟩
    have hcn : cn ≤ 256 := by omega
    have hrn : rn ≤ 256 := by omega
    have hm1 : 2 * (cn : Int) * (rn : Int) ≤ 2 * 256 * 256 := by
      have := Nat.mul_le_mul (show 2 * cn ≤ 2 * 256 by omega) hrn
      have h2 : ((2 * cn * rn : Nat) : Int) ≤ ((2 * 256 * 256 : Nat) : Int) := Int.ofNat_le.2 this
      simpa using h2
    have hm0 : 0 ≤ 2 * (cn : Int) * (rn : Int) := Int.mul_nonneg (by omega) (by omega)
    clear hz1 hz2 hz3 hE
    by_cases hE2 : shE2 x y cn rn = 0
    · have HS : Hid (sheetE x y cn rn = 0 ∧ sheetL x y cn rn = shN x y cn rn) := by
        have h1 : sheetE x y cn rn = 0 := HE.out.trans hE2
        refine ⟨h1, ?_⟩
        unfold sheetL
        rw [if_pos h1, Int.toNat_natCast, Int.toNat_natCast]
      have hE2' : (shE2 x y cn rn != 0) = false := by simp [hE2]
      clear hE2
      go_enter Tryz.func30, Tryz.ntmps30
      go_wp2_with (first | (go_at_call 36; refine (nknot_any x y _).mono ?_; rintro e w1 ⟨rfl, hb1⟩; (first | replace hB := hB.st0 hb1 | replace hB := hB.st1 hb1 | replace hB := hB.std hb1 | replace hB := hB.std1 hb1 | replace hB := hB.st2 hb1 | replace hB := hB.std2 hb1 | replace hB := hB.st3 hb1); have kB := hB.facts) | (go_at_call 72; refine (nwithin_any _ _ _ _).mono ?_; rintro e w1 ⟨rfl, hb1⟩; (first | replace hB := hB.st0 hb1 | replace hB := hB.st1 hb1 | replace hB := hB.std hb1 | replace hB := hB.std1 hb1 | replace hB := hB.st2 hb1 | replace hB := hB.std2 hb1 | replace hB := hB.st3 hb1); have kB := hB.facts) | (go_at_call 34; go_must (refine (hF _ _ _ (Rd.ints3 (by simp) (by go_simp) (by go_simp) (by go_simp))).mono ?_); rintro e w3 ⟨rfl, hb3⟩; have hB3 := (hB.alloc (.cells #[.int .i64 (knotE x y), .int .i64 (withinI cn 1 256), .int .i64 (withinI rn 1 256)] 34)).below hb3; have fB3 := hB3.facts))
      refine wp_region_ords [0, 1, 2, 3, 4, 6, 7, 8, 9, 10, 11, 12, 13, 14, 15] [(5, false)] [16, 17, 18, 19] (by kernel_rfl) (by kernel_rfl) (fun d _ _ _ _ h => by cases d <;> exact h) ?_
      simp only [List.map_cons, List.map_nil, List.getD_cons_zero, List.getD_cons_succ]
      repeat (go_big_quiet_step (fail))
      refine wpQuiet_nil ?_
      refine wpMid_run rfl (fun K hK => ?_)
      go_simp
      refine (nwhen_any _ _ _).mono ?_
      rintro e w4 ⟨rfl, hb4⟩
      refine hK _ _ (by (repeat (first | exact bl_refl | assumption | (apply bl_then; assumption) | refine bl_alloc ?_ _ | refine bl_drew ?_ | refine bl_drewN ?_ _))) ?_
      clear hK K
      have hB3_w4 := hB3.below (show Below _ _ w4 by (repeat (first | exact bl_refl | assumption | (apply bl_then; assumption) | refine bl_alloc ?_ _ | refine bl_drew ?_ | refine bl_drewN ?_ _)))
      have fhB3_w4 := hB3_w4.facts
      refine wpMid_nil ?_
      go_wp2_with (first | (go_at_call 74; refine (nreach_any _ _ _).mono ?_; rintro e w5 ⟨rfl, hb5⟩; have hB5 := hB3_w4.below hb5; have fB5 := hB5.facts) | (go_at_call 34; go_must (refine (hF2 _ _ _ (Rd.ints2 (by simp) (by go_simp) (by go_simp))).mono ?_); rintro e w6 ⟨rfl, hb6⟩; have hB6 := (hB5.alloc (.cells #[.int .i64 (whenI (decide (4096 < 2 * (cn : Int) * (rn : Int))) 5), .int .i64 (reachI (x + 2 * (cn : Int)) (y + (rn : Int)))] 34)).below hb6; have fB6 := hB6.facts) | (go_at_call 76; refine (sheet_any x y cn rn _).mono ?_; rintro e w7 ⟨rfl, rfl⟩) | (go_at_call 75; refine (collect_any w6.heap.size x y cn rn (by omega) (by omega) (by omega) (by omega) _ (((Blk.new w6 _ _).alloc _).alloc _) ((Blk.new1 w6 _ _ _).alloc _) (Blk.new2 w6 _ _ _ _)).mono ?_; rintro e w8 ⟨v8, rfl, hO8, hb8⟩))
      have hbw6 : Below w.heap.size w w6 := by (repeat (first | exact bl_refl | assumption | (apply bl_then; assumption) | refine bl_alloc ?_ _ | refine bl_drew ?_ | refine bl_drewN ?_ _))
      go_ret2
      exact ⟨_, by rw [HS.out.1]; rfl, by rw [HS.out.2]; exact hO8.base_mono (by have := hbw6.size; simp; omega), by (repeat (first | exact bl_refl | assumption | (apply bl_then; assumption) | refine bl_alloc ?_ _ | refine bl_drew ?_ | refine bl_drewN ?_ _))⟩
    · have HS : Hid (sheetE x y cn rn = shE2 x y cn rn ∧ sheetL x y cn rn = []) := by
        have h1 : sheetE x y cn rn = shE2 x y cn rn := HE.out
        exact ⟨h1, by unfold sheetL; rw [h1, if_neg hE2]⟩
      have hE2' : (shE2 x y cn rn != 0) = true := by simpa using hE2
      clear hE2
      go_enter Tryz.func30, Tryz.ntmps30
      go_wp2_with (first | (go_at_call 36; refine (nknot_any x y _).mono ?_; rintro e w1 ⟨rfl, hb1⟩; (first | replace hB := hB.st0 hb1 | replace hB := hB.st1 hb1 | replace hB := hB.std hb1 | replace hB := hB.std1 hb1 | replace hB := hB.st2 hb1 | replace hB := hB.std2 hb1 | replace hB := hB.st3 hb1); have kB := hB.facts) | (go_at_call 72; refine (nwithin_any _ _ _ _).mono ?_; rintro e w1 ⟨rfl, hb1⟩; (first | replace hB := hB.st0 hb1 | replace hB := hB.st1 hb1 | replace hB := hB.std hb1 | replace hB := hB.std1 hb1 | replace hB := hB.st2 hb1 | replace hB := hB.std2 hb1 | replace hB := hB.st3 hb1); have kB := hB.facts) | (go_at_call 34; go_must (refine (hF _ _ _ (Rd.ints3 (by simp) (by go_simp) (by go_simp) (by go_simp))).mono ?_); rintro e w3 ⟨rfl, hb3⟩; have hB3 := (hB.alloc (.cells #[.int .i64 (knotE x y), .int .i64 (withinI cn 1 256), .int .i64 (withinI rn 1 256)] 34)).below hb3; have fB3 := hB3.facts))
      refine wp_region_ords [0, 1, 2, 3, 4, 6, 7, 8, 9, 10, 11, 12, 13, 14, 15] [(5, false)] [16, 17, 18, 19] (by kernel_rfl) (by kernel_rfl) (fun d _ _ _ _ h => by cases d <;> exact h) ?_
      simp only [List.map_cons, List.map_nil, List.getD_cons_zero, List.getD_cons_succ]
      repeat (go_big_quiet_step (fail))
      refine wpQuiet_nil ?_
      refine wpMid_run rfl (fun K hK => ?_)
      go_simp
      refine (nwhen_any _ _ _).mono ?_
      rintro e w4 ⟨rfl, hb4⟩
      refine hK _ _ (by (repeat (first | exact bl_refl | assumption | (apply bl_then; assumption) | refine bl_alloc ?_ _ | refine bl_drew ?_ | refine bl_drewN ?_ _))) ?_
      clear hK K
      have hB3_w4 := hB3.below (show Below _ _ w4 by (repeat (first | exact bl_refl | assumption | (apply bl_then; assumption) | refine bl_alloc ?_ _ | refine bl_drew ?_ | refine bl_drewN ?_ _)))
      have fhB3_w4 := hB3_w4.facts
      refine wpMid_nil ?_
      go_wp2_with (first | (go_at_call 74; refine (nreach_any _ _ _).mono ?_; rintro e w5 ⟨rfl, hb5⟩; have hB5 := hB3_w4.below hb5; have fB5 := hB5.facts) | (go_at_call 34; go_must (refine (hF2 _ _ _ (Rd.ints2 (by simp) (by go_simp) (by go_simp))).mono ?_); rintro e w6 ⟨rfl, hb6⟩; have hB6 := (hB5.alloc (.cells #[.int .i64 (whenI (decide (4096 < 2 * (cn : Int) * (rn : Int))) 5), .int .i64 (reachI (x + 2 * (cn : Int)) (y + (rn : Int)))] 34)).below hb6; have fB6 := hB6.facts))
      go_ret2
      exact ⟨_, by rw [HS.out.1]; rfl, by rw [HS.out.2]; exact Own.nil_, by (repeat (first | exact bl_refl | assumption | (apply bl_then; assumption) | refine bl_alloc ?_ _ | refine bl_drew ?_ | refine bl_drewN ?_ _))⟩
  · have hE' : (shE1 x y c r != 0) = true := by simpa using hE
    have HS : Hid (sheetE x y c r = shE1 x y c r ∧ sheetL x y c r = []) := by
      have h1 : sheetE x y c r = shE1 x y c r := by unfold sheetE; rw [if_pos hE]
      exact ⟨h1, by unfold sheetL; rw [h1, if_neg hE]⟩
    clear hE
    go_enter Tryz.func30, Tryz.ntmps30
    go_wp2_with (first | (go_at_call 36; refine (nknot_any x y _).mono ?_; rintro e w1 ⟨rfl, hb1⟩; (first | replace hB := hB.st0 hb1 | replace hB := hB.st1 hb1 | replace hB := hB.std hb1 | replace hB := hB.std1 hb1 | replace hB := hB.st2 hb1 | replace hB := hB.std2 hb1 | replace hB := hB.st3 hb1); have kB := hB.facts) | (go_at_call 72; refine (nwithin_any _ _ _ _).mono ?_; rintro e w1 ⟨rfl, hb1⟩; (first | replace hB := hB.st0 hb1 | replace hB := hB.st1 hb1 | replace hB := hB.std hb1 | replace hB := hB.std1 hb1 | replace hB := hB.st2 hb1 | replace hB := hB.std2 hb1 | replace hB := hB.st3 hb1); have kB := hB.facts) | (go_at_call 34; go_must (refine (hF _ _ _ (Rd.ints3 (by simp) (by go_simp) (by go_simp) (by go_simp))).mono ?_); rintro e w3 ⟨rfl, hb3⟩))
    go_ret2
    exact ⟨_, by rw [HS.out.1]; rfl, by rw [HS.out.2]; exact Own.nil_, by (repeat (first | exact bl_refl | assumption | (apply bl_then; assumption) | refine bl_alloc ?_ _ | refine bl_drew ?_ | refine bl_drewN ?_ _))⟩
end Go.Proofs.YtpompeancmonbaaGreat

/- The even join of two meshes and two, walked. Conditions: none. -/
namespace Go.Proofs.YtpompeancmonbaaGreat
open Go.RowKit Go.ChangeMaps
set_option maxHeartbeats 4000000
set_option maxRecDepth 100000

attribute [local go_sem] Oper.semAt_some
theorem swhen_any (b : Bool) (n : Int) (w : World) : Calls Tryz.prog 136 #[.bool b, .int .i64 n] w (RV w (.int .i64 (whenI b n))) := by
  cases b
  all_goals
    go_enter Tryz.func136, Tryz.ntmps136
    go_wp2
    go_ret
    exact ⟨rfl, bl_refl⟩
theorem swithin_any (n lo hi : Int) (w : World) : Calls Tryz.prog 118 #[.int .i64 n, .int .i64 lo, .int .i64 hi] w (RV w (.int .i64 (withinI n lo hi))) := by
  go_enter Tryz.func118, Tryz.ntmps118
  go_wp2_with (go_at_call 136; refine (swhen_any _ _ _).mono ?_; rintro e w1 ⟨rfl, hb1⟩)
  all_goals go_ret
  · exact ⟨rfl, hb1⟩
  · exact ⟨ret_int (by simp [withinI, *]), hb1⟩
theorem sfirst_any (l : List Int) (A : Option Addr) (c : Nat) (w : World) (hl : l.length ≤ maxLen) (h : Rd ic 1 w A l) :
    Calls Tryz.prog 117 #[.slice A l.length c] w (RV w (.int .i64 (firstI l))) := by
  unfold maxLen at hl
  go_enter Tryz.func117, Tryz.ntmps117
  go_wp2
  go_loop [7] (fun i => ∃ k : Nat, k ≤ l.length ∧ i = .int .i64 k ∧ Hid (firstI l = firstI (l.drop k))) (fun i => l.length - (intOf i).toNat)
  case atStart => exact ⟨0, Nat.zero_le _, rfl, rfl⟩
  case round =>
    obtain ⟨k, hk, rfl, H⟩ := hrel
    by_cases hlt : k < l.length
    · obtain ⟨b, off, rfl, hb, hc⟩ := h.int hlt
      have hd := Lib.hid (firstI_drop hlt)
      go_wp2
      · have hne : (l[k] != 0) = true := by assumption
        go_ret
        refine ⟨ret_int ?_, bl_refl⟩
        rw [H.out, hd.out, if_neg (by simpa using hne)]
      · have hne : (l[k] != 0) = false := by assumption
        go_round
        case rel => exact ⟨k + 1, by omega, by go_num, by rw [H.out, hd.out, if_pos (by simpa using hne)]; rfl⟩
        case measure => simp [intOf]; omega
    · have hkl : k = l.length := by omega
      go_wp2
      go_ret
      refine ⟨ret_int ?_, bl_refl⟩
      rw [H.out, hkl, List.drop_length]; rfl

/-! ## the even join of two meshes and two -/
theorem checkMeshes_two (w : World) : Calls Tryz.prog 78 #[.int .i64 2, .int .i64 2] w (RV w (.int .i64 0)) := by
  have q1 := fun W => swithin_any 2 1 256 W
  rw [show withinI 2 1 256 = 0 from rfl] at q1
  have hF : ∀ A c W, Rd ic 1 W A [0, 0] → Calls Tryz.prog 117 #[.slice A 2 c] W (RV W (.int .i64 0)) := fun A c W hr => sfirst_any [0, 0] A c W (by simp [maxLen]) hr
  go_enter Tryz.func78, Tryz.ntmps78
  go_wp2_with fail
  refine (q1 _).mono ?_
  rintro e w1 ⟨rfl, hb1⟩
  go_wp2_with fail
  refine (q1 _).mono ?_
  rintro e w2 ⟨rfl, hb2⟩
  go_wp2_with (go_at_call 117; go_must (refine (hF _ _ _ (Rd.ints2 (by simp) (by go_simp) (by go_simp))).mono ?_); rintro e w3 ⟨rfl, hb3⟩)
  go_ret
  exact ⟨rfl, by (repeat (first | exact bl_refl | assumption | (apply bl_then; assumption) | refine bl_alloc ?_ _ | refine bl_drew ?_ | refine bl_drewN ?_ _))⟩
theorem seamEven_any (w : World) : Calls Tryz.prog 80 #[.int .i64 2, .int .i64 2] w fun e w' =>
    e = .returned (.func (.func 120) #[] #[.pointer (some ⟨w.heap.size, 0, none⟩), .pointer (some ⟨w.heap.size + 1, 0, none⟩)]) ∧
    w' = (w.alloc (.cells #[.int .i64 2] 3)).alloc (.cells #[.int .i64 2] 3) := by
  go_enter Tryz.func80, Tryz.ntmps80
  go_wp2
  go_ret
  exact ⟨rfl, rfl⟩
def encP (b : Knot) : Array Value := #[.agg #[.int .i64 b.1, .int .i64 b.2]]
def evT : Nat → List Knot
  | 0 => []
  | 1 => [(0, 0)]
  | _ => [(0, 0), (1, 1)]
theorem even_stops (nf : Nat) (hn : 1 ≤ nf) (S : List Nat) (B : Nat) (w : World) (h1 : B ∉ S) (h2 : B + 1 ∉ S) (hA : Blk w B 3 #[.int .i64 2]) (hC : Blk w (B + 1) 3 #[.int .i64 2]) :
    SeqStopsK Fence.wide nf Tryz.prog 120 #[.pointer (some ⟨B, 0, none⟩), .pointer (some ⟨B + 1, 0, none⟩)] encP (KeepB S w.heap.size) (fun ys => ys = evT 2) (fun _ => True) 1000000 w := fun l J Jx W hW hJ _ hY h0 => by
  have hcW : Chg S w W := Chg.of_below hW
  have fA := (hA.below hW).facts
  have fC := (hC.below hW).facts
  refine callsIn_of_wp Tryz.func120 rfl trivial ?_ rfl
  simp only [Tryz.ntmps120, List.size_toArray, List.length_cons, List.length_nil, Nat.reduceAdd, Nat.reduceSub, Array.replicate_succ, Array.replicate_zero, List.push_toArray, List.append_toArray, List.nil_append, List.cons_append]
  gi_wp2
  gi_loopw [10] (fun i wr => ∃ t : Nat, t ≤ 2 ∧ i = .int .i64 t ∧ J (evT t) wr ∧ Chg S w wr) (fun i _ => 2 - (intOf i).toNat)
  case atStart => exact ⟨0, by omega, rfl, h0, hcW⟩
  case round =>
    clear fA fC h0
    obtain ⟨t, ht, rfl, hJt, hct⟩ := hrel
    have fA := (hA.chg hct h1).facts
    have fC := (hC.chg hct h2).facts
    obtain ⟨wt, rfl⟩ : ∃ x, x = wr := ⟨_, rfl⟩
    obtain rfl | rfl | rfl : t = 0 ∨ t = 1 ∨ t = 2 := by omega
    · have hJ1 := abides_below hJ hJt (bl_drew bl_refl)
      obtain ⟨fn, tmps, assign, body, hy, hR2⟩ := hY _ (0, 0) _ hJ1 (by simp [evT])
      have hy' : (Instr.yield l #[.agg #[.int .i64 0, .int .i64 0]]).run Tryz.prog wt.drew = .ok (.round l fn tmps assign body) wt.drew := hy
      clear hy hJt
      gi_wp2
      refine wpIn_region_ords [0, 1, 2, 3, 4, 5, 6, 7, 8, 9, 10, 11] [] [12, 13] (fun _ => trivial) (by kernel_rfl) (by kernel_rfl) (by kernel_rfl) (fun d _ _ _ _ h => by cases d <;> exact h) ?_
      simp only [List.map_cons, List.map_nil, List.getD_cons_zero, List.getD_cons_succ]
      repeat (go_big_quiet_step (fail))
      refine wpQuiet_nil ?_
      refine wpMidI_nil ?_
      gi_wp2
      refine hR2.mono ?_
      rintro e W3 (⟨rfl, hJ3, hk3⟩ | ⟨rfl, hJx3⟩)
      · gi_wp2
        go_roundw
        case rel => exact ⟨1, by omega, rfl, hJ3, hct.drew.keep hk3⟩
        case measure => simp [intOf]
      · gi_wp2
        refine bodyPost_ret (results_none rfl _ _ _) rfl ?_
        exact ⟨⟨_, rfl⟩, .inr ⟨_, trivial, hJx3⟩⟩
    · have hJ1 := abides_below hJ hJt (bl_drew bl_refl)
      obtain ⟨fn, tmps, assign, body, hy, hR2⟩ := hY _ (1, 1) _ hJ1 (by simp [evT])
      have hy' : (Instr.yield l #[.agg #[.int .i64 1, .int .i64 1]]).run Tryz.prog wt.drew = .ok (.round l fn tmps assign body) wt.drew := hy
      clear hy hJt
      gi_wp2
      refine wpIn_region_ords [0, 1, 2, 3, 4, 5, 6, 7, 8, 9, 10, 11] [] [12, 13] (fun _ => trivial) (by kernel_rfl) (by kernel_rfl) (by kernel_rfl) (fun d _ _ _ _ h => by cases d <;> exact h) ?_
      simp only [List.map_cons, List.map_nil, List.getD_cons_zero, List.getD_cons_succ]
      repeat (go_big_quiet_step (fail))
      refine wpQuiet_nil ?_
      refine wpMidI_nil ?_
      gi_wp2
      refine hR2.mono ?_
      rintro e W3 (⟨rfl, hJ3, hk3⟩ | ⟨rfl, hJx3⟩)
      · gi_wp2
        go_roundw
        case rel => exact ⟨2, by omega, rfl, hJ3, hct.drew.keep hk3⟩
        case measure => simp [intOf]
      · gi_wp2
        refine bodyPost_ret (results_none rfl _ _ _) rfl ?_
        exact ⟨⟨_, rfl⟩, .inr ⟨_, trivial, hJx3⟩⟩
    · gi_wp2
      go_end0
      exact ⟨⟨_, rfl⟩, .inl ⟨_, rfl, hJt⟩⟩
theorem pair_elem : Elem Tryz.prog 77 135 2 16 := ⟨by kernel_rfl, by kernel_rfl, by decide⟩
abbrev OwP (base : Nat) := Own kc 2 base 135
theorem wpListIn_appP1 {F : Fence} {n : Nat} {ops : Array Oper} {rest : List Oper} {o : Oper} {a : Act} {Q : Exit → Act → World → Prop} {base : Nat} {W : World} {v : Value} {X Y : Int} {l : List Knot} (hown : OwP base W v l) {g : Nat} (hgd : o.guard = none) (s x : Operand)
    (ho : o.op = .call { callee := .builtin .append, args := #[s, x], argTypes := #[77, 77] })
    (hs : a.eval s = v) (hx : a.eval x = .slice (some ⟨g, 0, none⟩) 1 1) (hg : W.heap.size = g) (hlen : l.length ≤ 1000000) (hbase : base ≤ W.heap.size)
    (h : ∀ v' w', OwP base w' v' (l ++ [(X, Y)]) → (W.alloc (.cells #[.int .i64 X, .int .i64 Y] 135)).grownBy w' v.ownBlock → wpListIn F n Tryz.prog ops Q rest (a.put o.dst v') w') :
    wpListIn F n Tryz.prog ops Q (o :: rest) a (W.alloc (.cells #[.int .i64 X, .int .i64 Y] 135)) := by
  subst hg
  exact wpListIn_app hgd pair_elem kc_len kc_one s x ho base v _ l [(X, Y)] hs hx (hown.alloc _) (Sl.one_pair W X Y _) (by simp [maxLen]; omega) (by simp; omega) (by simp; omega) h
def RPP (w : World) (l : List Knot) (e : Ending) (w' : World) : Prop := ∃ v, e = .returned v ∧ OwP w.heap.size w' v l ∧ Below w.heap.size w w'
theorem appendSeqP_any (B : Nat) (w : World)
    (hA : Blk w B 3 #[.int .i64 2]) (hC : Blk w (B + 1) 3 #[.int .i64 2]) :
    Calls Tryz.prog 119 #[.slice none 0 0, .func (.func 120) #[] #[.pointer (some ⟨B, 0, none⟩), .pointer (some ⟨B + 1, 0, none⟩)]] w (RPP w (evT 2)) := by
  refine (callsIn_wide (n := 6)).1 ?_
  refine callsIn_of_wp_marks Tryz.func119 rfl trivial ?_ rfl
  simp only [Tryz.ntmps119, List.size_toArray, List.length_cons, List.length_nil, Nat.reduceAdd, Nat.reduceSub, Array.replicate_succ, Array.replicate_zero, List.push_toArray, List.append_toArray, List.nil_append, List.cons_append]
  gi_wp2
  have hBx := Blk.new w 77 #[.slice none 0 0]
  have hb1 : Below w.heap.size w (w.alloc (.cells #[.slice none 0 0] 77)) := bl_alloc bl_refl _
  have hsz : (w.alloc (.cells #[.slice none 0 0] 77)).heap.size = w.heap.size + 1 := by simp
  obtain ⟨w1, hw1⟩ : ∃ X, w.alloc (.cells #[.slice none 0 0] 77) = X := ⟨_, rfl⟩
  rw [hw1] at hBx hb1 hsz ⊢
  have hAl := hA.lt
  have hCl := hC.lt
  refine wpIn_rangeFunc_ownH rfl (by omega) (gf := 120) (lb := #[.pointer (some ⟨B, 0, none⟩), .pointer (some ⟨B + 1, 0, none⟩)]) rfl trivial (enters_of Tryz.func120 (by kernel_rfl) rfl)
    (even_stops 5 (by omega) [w.heap.size] B w1 (by simp; omega) (by simp; omega) (hA.below hb1) (hC.below hb1)) keepB_t (keepB_b (Nat.le_refl _)) (Below.refl _ _) (fun _ => rfl)
    (fun pre W => (∃ u, Blk W w.heap.size 77 #[u] ∧ OwP w1.heap.size W u pre) ∧ Below w.heap.size w W ∧ w1.heap.size ≤ W.heap.size)
    (fun _ _ _ => False)
    (fun _ W W' row hs hg hr => by
      obtain ⟨⟨u, h1, h2⟩, h3, h4⟩ := hs
      exact ⟨⟨u, h1.grown hg (nc_blk h1 hr), h2.kept hg (nc_own h2 hr)⟩, bl_grown hg h3 (fun k e => by have := (hr k e).1; omega), Nat.le_trans h4 hg.size⟩)
    (fun _ _ _ _ _ hs _ _ => hs)
    ⟨⟨_, hBx, Own.nil_⟩, hb1, Nat.le_refl _⟩
    (fun x a' W => ∃ Bk, Blk W Bk 135 #[.int .i64 x.1, .int .i64 x.2] ∧ w1.heap.size ≤ Bk ∧ a' = { tmps := #[.slice none 0 0, .func (.func 120) #[] #[.pointer (some ⟨B, 0, none⟩), .pointer (some ⟨B + 1, 0, none⟩)], .pointer (some ⟨w.heap.size, 0, none⟩), undef, .slice none 0 0, .pointer (some ⟨Bk, 0, none⟩), .func (.func 120) #[] #[.pointer (some ⟨B, 0, none⟩), .pointer (some ⟨B + 1, 0, none⟩)], .agg #[.int .i64 x.1, .int .i64 x.2], undef, undef, undef, undef, undef], defers := [] })
    (fun x a' s W W' row hs hg hr => by
      obtain ⟨Bk, hX, hk, rfl⟩ := hs
      exact ⟨Bk, hX.grown hg (nc_blk hX hr), hk, rfl⟩) ?assign ?body ?done ?stop
  case assign =>
    rintro l pre x W K ⟨⟨u, hu1, hu2⟩, hbw, hs2⟩ hK
    unfold encP
    gi_wp2
    have hb2 : Below W.heap.size W (W.alloc (.cells #[.int .i64 x.1, .int .i64 x.2] 135)) := bl_alloc bl_refl _
    exact hK _ _ (keeps_of_below hb2) (KeepB.of_below hb2 hs2) ⟨⟨u, hu1.below hb2, hu2.below hb2⟩, bl_then hb2 hbw, Nat.le_trans hs2 hb2.size⟩ ⟨W.heap.size, Blk.new W _ _, hs2, rfl⟩
  case body =>
    rintro l pre x a' W _ _ ⟨⟨u, hu1, hu2⟩, hbw, hs2⟩ ⟨Bk, hX, hk, rfl⟩ hlt
    have fk := hX.facts
    have fo := hu1.facts
    gi_wp2_with (gi_at_builtin; refine wpListIn_appP1 hu2 rfl _ _ rfl rfl rfl rfl (by omega) hs2 ?_; intro v3 w3 hu3 hgr3; obtain ⟨A3, c3, rfl⟩ := hu3.shape; have hu13 := (hu1.alloc (.cells #[.int .i64 x.1, .int .i64 x.2] 135)).grown hgr3 (hu2.ne_blk hu1 (by decide)); have fo3 := hu13.facts)
    simp only [List.length_append, List.length_cons, List.length_nil, Nat.zero_add] at hu3
    have hal : Below W.heap.size W (W.alloc (.cells #[.int .i64 x.1, .int .i64 x.2] 135)) := bl_alloc bl_refl _
    have hsz2 : w1.heap.size ≤ (W.alloc (.cells #[.int .i64 x.1, .int .i64 x.2] 135)).heap.size := Nat.le_trans hs2 hal.size
    have hbw3 : Below w.heap.size w w3 := bl_grown hgr3 (bl_then hal hbw) (fun k e => by have := (hu2.lt k e).1; omega)
    exact ⟨(keeps_of_below hal).trans ((keeps_grown (hu2.alloc _) hgr3).trans (keeps_set hu13 0 _)),
      (KeepB.of_below hal hs2).trans ((KeepB.of_grown hgr3 hsz2 (fun k e => (hu2.lt k e).1)).trans (KeepB.of_set (by simp))),
      ⟨_, hu13.set_ 0 _, hu3.set (Ne.symm (hu3.ne_blk hu13 (by decide))) _⟩, bl_set hbw3 (by simp) _, Nat.le_trans hsz2 (Nat.le_trans hgr3.size (by simp [World.setCell]))⟩
  case done =>
    rintro D' ys W hD rfl ⟨⟨u, hu1, hu2⟩, hbw, hs2⟩ hK
    have fo := hu1.facts
    gi_wp2
    refine ⟨by simp, .inl ⟨_, _, rfl, run_takeDeferred hK, ?_⟩⟩
    exact ⟨_, results_tmp rfl _ _ _, u, rfl, Own.base_mono (ownsRow_putObj hu2 _ hK rfl) (by omega), hbw.trans (belowK_b (w := w) (Nat.le_refl _) W D' _ _ (by omega) hK rfl rfl)⟩
  case stop =>
    rintro D' c pre W _ _ h _
    exact h.elim
theorem collectP_any (B : Nat) (w : World)
    (hA : Blk w B 3 #[.int .i64 2]) (hC : Blk w (B + 1) 3 #[.int .i64 2]) :
    Calls Tryz.prog 79 #[.func (.func 120) #[] #[.pointer (some ⟨B, 0, none⟩), .pointer (some ⟨B + 1, 0, none⟩)]] w (RPP w (evT 2)) := by
  go_enter Tryz.func79, Tryz.ntmps79
  go_wp2_with (go_at_call 119; refine (appendSeqP_any B _ hA hC).mono ?_; rintro e w1 ⟨v, rfl, hO, hb⟩)
  go_ret
  exact ⟨v, rfl, hO, hb⟩
theorem joins_two (w : World) : Calls Tryz.prog 32 #[.int .i64 2, .int .i64 2] w (fun e w' => ∃ A c, e = .returned (.tuple #[.slice A 2 c, .int .i64 0]) ∧ Below w.heap.size w w') := by
  go_enter Tryz.func32, Tryz.ntmps32
  go_wp2_with fail
  refine (checkMeshes_two _).mono ?_
  rintro e w1 ⟨rfl, hb1⟩
  go_wp2_with fail
  refine (seamEven_any _).mono ?_
  rintro e w2 ⟨rfl, hw2⟩
  have hA := (Blk.new w1 3 #[.int .i64 2]).alloc (.cells #[.int .i64 2] 3)
  have hC := Blk.new1 w1 (.cells #[.int .i64 2] 3) 3 #[.int .i64 2]
  rw [← hw2] at hA hC
  have hb2 : Below w1.heap.size w1 w2 := by rw [hw2]; exact bl_alloc (bl_alloc bl_refl _) _
  clear hw2
  go_wp2_with fail
  refine (collectP_any w1.heap.size _ hA hC).mono ?_
  rintro e w3 ⟨v, rfl, hO, hb3⟩
  obtain ⟨A, c, rfl⟩ := hO.shape
  go_wp2
  go_ret2
  exact ⟨A, c, rfl, by (repeat (first | exact bl_refl | assumption | (apply bl_then; assumption) | refine bl_alloc ?_ _ | refine bl_drew ?_ | refine bl_drewN ?_ _))⟩
end Go.Proofs.YtpompeancmonbaaGreat

/- Sheets, of the program, walked. Conditions: none. -/
import Derived.Test.YtkkefahobjlagaaGreatDoorQ13
import Derived.Test.YtkkefahobjlagaaGreatDoorQ12
import Derived.Sort.CutIn
namespace Go.Proofs.YtkkefahobjlagaaGreatDoor
open Go.RowKit Go.ChangeMaps
set_option maxHeartbeats 4000000
set_option maxRecDepth 100000
attribute [local go_sem] Oper.semAt_some
theorem appendSeq_any (B : Nat) (x0 y0 : Int) (c r : Nat) (hc : c ≤ 300) (hr : r ≤ 300) (hx : -200000 ≤ x0 ∧ x0 ≤ 200000) (hy : -200000 ≤ y0 ∧ y0 ≤ 200000) (w : World)
  (hA : Blk w B 40 #[.int .i64 x0, .int .i64 y0]) (hC : Blk w (B + 1) 3 #[.int .i64 c]) (hR : Blk w (B + 2) 3 #[.int .i64 r]) :
  Calls Tryz.prog 192 #[.slice none 0 0, .func (.func 193) #[] #[.pointer (some ⟨B + 2, 0, none⟩), .pointer (some ⟨B, 0, none⟩), .pointer (some ⟨B + 1, 0, none⟩)]] w (RB w (shN x0 y0 c r)) := by
 refine (callsIn_wide (n := 6)).1 ?_
 refine callsIn_of_wp_marks Tryz.func192 rfl trivial ?_ rfl
 simp only [Tryz.ntmps192, List.size_toArray, List.length_cons, List.length_nil, Nat.reduceAdd, Nat.reduceSub, Array.replicate_succ, Array.replicate_zero, List.push_toArray, List.append_toArray, List.nil_append, List.cons_append]
 gi_wp2
 have hBx := Blk.new w 36 #[.slice none 0 0]
 have hb1 : Below w.heap.size w (w.alloc (.cells #[.slice none 0 0] 36)) := bl_alloc bl_refl _
 have hsz : (w.alloc (.cells #[.slice none 0 0] 36)).heap.size = w.heap.size + 1 := by simp
 obtain ⟨w1, hw1⟩ : ∃ X, w.alloc (.cells #[.slice none 0 0] 36) = X := ⟨_, rfl⟩
 rw [hw1] at hBx hb1 hsz ⊢
 have hAl := hA.lt
 have hCl := hC.lt
 refine wpIn_rangeFunc_ownH rfl (by omega) (gf := 193) (lb := #[.pointer (some ⟨B + 2, 0, none⟩), .pointer (some ⟨B, 0, none⟩), .pointer (some ⟨B + 1, 0, none⟩)]) rfl trivial (enters_of Tryz.func193 (by kernel_rfl) rfl)
  (sheet_stops 5 (by omega) [w.heap.size] B x0 y0 c r hc hr hx hy w1 (by simp; omega) (by simp; omega) (hA.below hb1) (hC.below hb1) (hR.below hb1)) keepB_t (keepB_b (Nat.le_refl _)) (Below.refl _ _) (fun _ => rfl)
  (fun pre W => (∃ u, Blk W w.heap.size 36 #[u] ∧ OwB w1.heap.size W u pre) ∧ Below w.heap.size w W ∧ w1.heap.size ≤ W.heap.size)
  (fun _ _ _ => False)
  (fun _ W W' row hs hg hr => by
   obtain ⟨⟨u, h1, h2⟩, h3, h4⟩ := hs
   exact ⟨⟨u, h1.grown hg (nc_blk h1 hr), h2.kept hg (nc_own h2 hr)⟩, bl_grown hg h3 (fun k e => by have := (hr k e).1; omega), Nat.le_trans h4 hg.size⟩)
  (fun _ _ _ _ _ hs _ _ => hs)
  ⟨⟨_, hBx, Own.nil_⟩, hb1, Nat.le_refl _⟩
  (fun x a' W => ∃ Bk, Blk W Bk 77 #[.int .i64 x.1, .int .i64 x.2.1, .int .i64 x.2.2] ∧ w1.heap.size ≤ Bk ∧ a' = { tmps := #[.slice none 0 0, .func (.func 193) #[] #[.pointer (some ⟨B + 2, 0, none⟩), .pointer (some ⟨B, 0, none⟩), .pointer (some ⟨B + 1, 0, none⟩)], .pointer (some ⟨w.heap.size, 0, none⟩), undef, .slice none 0 0, .pointer (some ⟨Bk, 0, none⟩), .func (.func 193) #[] #[.pointer (some ⟨B + 2, 0, none⟩), .pointer (some ⟨B, 0, none⟩), .pointer (some ⟨B + 1, 0, none⟩)], .agg #[.int .i64 x.1, .int .i64 x.2.1, .int .i64 x.2.2], undef, undef, undef, undef, undef], defers := [] })
  (fun x a' s W W' row hs hg hr => by
   obtain ⟨Bk, hX, hk, rfl⟩ := hs
   exact ⟨Bk, hX.grown hg (nc_blk hX hr), hk, rfl⟩) ?assign ?body ?done ?stop
 case assign =>
  rintro l pre x W K ⟨⟨u, hu1, hu2⟩, hbw, hs2⟩ hK
  unfold encB
  gi_wp2
  have hb2 : Below W.heap.size W (W.alloc (.cells #[.int .i64 x.1, .int .i64 x.2.1, .int .i64 x.2.2] 77)) := bl_alloc bl_refl _
  exact hK _ _ (keeps_of_below hb2) (KeepB.of_below hb2 hs2) ⟨⟨u, hu1.below hb2, hu2.below hb2⟩, bl_then hb2 hbw, Nat.le_trans hs2 hb2.size⟩ ⟨W.heap.size, Blk.new W _ _, hs2, rfl⟩
 case body =>
  rintro l pre x a' W _ _ ⟨⟨u, hu1, hu2⟩, hbw, hs2⟩ ⟨Bk, hX, hk, rfl⟩ hlt
  have fk := hX.facts
  have fo := hu1.facts
  gi_wp2_with (gi_at_builtin; refine wpListIn_appB1 hu2 rfl _ _ rfl rfl rfl rfl (by omega) hs2 ?_; intro v3 w3 hu3 hgr3; obtain ⟨A3, c3, rfl⟩ := hu3.shape; have hu13 := (hu1.alloc (.cells #[.int .i64 x.1, .int .i64 x.2.1, .int .i64 x.2.2] 77)).grown hgr3 (hu2.ne_blk hu1 (by decide)); have fo3 := hu13.facts)
  simp only [List.length_append, List.length_cons, List.length_nil, Nat.zero_add] at hu3
  have hal : Below W.heap.size W (W.alloc (.cells #[.int .i64 x.1, .int .i64 x.2.1, .int .i64 x.2.2] 77)) := bl_alloc bl_refl _
  have hsz2 : w1.heap.size ≤ (W.alloc (.cells #[.int .i64 x.1, .int .i64 x.2.1, .int .i64 x.2.2] 77)).heap.size := Nat.le_trans hs2 hal.size
  have hbw3 : Below w.heap.size w w3 := bl_grown hgr3 (bl_then hal hbw) (fun k e => by have := (hu2.lt k e).1; omega)
  exact ⟨(keeps_of_below hal).trans ((keeps_grown (hu2.alloc _) hgr3).trans (keeps_set hu13 0 _)),
   (KeepB.of_below hal hs2).trans ((KeepB.of_grown hgr3 hsz2 (fun k e => (hu2.lt k e).1)).trans (KeepB.of_set (by simp))),
   ⟨_, hu13.set_ 0 _, hu3.set (Ne.symm (hu3.ne_blk hu13 (by decide))) _⟩, bl_set hbw3 (by simp) _, Nat.le_trans hsz2 (Nat.le_trans hgr3.size (by simp [World.setCell]))⟩
 case done =>
  rintro D' ys W hD rfl ⟨⟨u, hu1, hu2⟩, hbw, hs2⟩ hK
  have fo := hu1.facts
  gi_wp2
  refine ⟨by simp, .inl ⟨_, _, rfl, run_takeDeferred hK, ?_⟩⟩
  exact ⟨_, results_tmp rfl _ _ _, u, rfl, Own.base_mono (ownsRow_putObj hu2 _ hK rfl) (by omega), hbw.trans (belowK_b (w := w) (Nat.le_refl _) W D' _ _ (by omega) hK rfl rfl)⟩
 case stop =>
  rintro D' c pre W _ _ h _
  exact h.elim
theorem collect_any (B : Nat) (x0 y0 : Int) (c r : Nat) (hc : c ≤ 300) (hr : r ≤ 300) (hx : -200000 ≤ x0 ∧ x0 ≤ 200000) (hy : -200000 ≤ y0 ∧ y0 ≤ 200000) (w : World)
  (hA : Blk w B 40 #[.int .i64 x0, .int .i64 y0]) (hC : Blk w (B + 1) 3 #[.int .i64 c]) (hR : Blk w (B + 2) 3 #[.int .i64 r]) :
  Calls Tryz.prog 166 #[.func (.func 193) #[] #[.pointer (some ⟨B + 2, 0, none⟩), .pointer (some ⟨B, 0, none⟩), .pointer (some ⟨B + 1, 0, none⟩)]] w (RB w (shN x0 y0 c r)) := by
 go_enter Tryz.func166, Tryz.ntmps166
 go_wp2_with (go_at_call 192; refine (appendSeq_any B x0 y0 c r hc hr hx hy _ hA hC hR).mono ?_; rintro e w1 ⟨v, rfl, hO, hb⟩)
 go_ret
 exact ⟨v, rfl, hO, hb⟩
def shE1 (x y c r : Int) : Int := firstI [knotE x y, withinI c 1 256, withinI r 1 256]
def shE2 (x y c r : Int) : Int := firstI [whenI (decide (4096 < 2 * c * r)) 5, reachI (x + 2 * c) (y + r)]
def sheetE (x y c r : Int) : Int := if shE1 x y c r ≠ 0 then shE1 x y c r else shE2 x y c r
def sheetL (x y c r : Int) : List Bar := if sheetE x y c r = 0 then shN x y c.toNat r.toNat else []
theorem firstI3_zero {a b c : Int} (h : firstI [a, b, c] = 0) : a = 0 ∧ b = 0 ∧ c = 0 := by
 unfold firstI at h
 split at h
 ·rename_i ha; exact ⟨ha, firstI_zero h⟩
 ·contradiction
theorem withinI_zero {n lo hi : Int} (h : withinI n lo hi = 0) : lo ≤ n ∧ n ≤ hi := by
 unfold withinI whenI at h
 split at h
 ·omega
 ·rename_i h2; simp at h2; omega
theorem apiSheet_any (x y c r : Int) (w : World) : Calls Tryz.prog 111 #[.agg #[.int .i64 x, .int .i64 y], .int .i64 c, .int .i64 r] w (RBE w (sheetL x y c r) (sheetE x y c r)) := by
  have hB := Blk.new w 40 #[.int .i64 x, .int .i64 y]
  have fB := hB.facts
  have hF : ∀ A c' W, Rd ic 1 W A [knotE x y, withinI c 1 256, withinI r 1 256] → Calls Tryz.prog 76 #[.slice A 3 c'] W (RV W (.int .i64 (shE1 x y c r))) := fun A c' W hr => nfirst_any [knotE x y, withinI c 1 256, withinI r 1 256] A c' W (by simp [maxLen]) hr
  by_cases hE : shE1 x y c r = 0
  · obtain ⟨hz1, hz2, hz3⟩ := firstI3_zero hE
    obtain ⟨z1, z2, z3, z4, z5⟩ := knotE_zero hz1
    obtain ⟨c1, c2⟩ := withinI_zero hz2
    obtain ⟨r1, r2⟩ := withinI_zero hz3
    have hE' : (shE1 x y c r != 0) = false := by simp [hE]
    have hF2 : ∀ A c' W, Rd ic 1 W A [whenI (decide (4096 < 2 * c * r)) 5, reachI (x + 2 * c) (y + r)] → Calls Tryz.prog 76 #[.slice A 2 c'] W (RV W (.int .i64 (shE2 x y c r))) := fun A c' W hr => nfirst_any [whenI (decide (4096 < 2 * c * r)) 5, reachI (x + 2 * c) (y + r)] A c' W (by simp [maxLen]) hr
    have HE : Hid (sheetE x y c r = shE2 x y c r) := by unfold Hid sheetE; rw [if_neg (by simp [hE])]
    obtain ⟨cn, rfl⟩ : ∃ n : Nat, c = (n : Int) := ⟨c.toNat, by omega⟩
    obtain ⟨rn, rfl⟩ : ∃ n : Nat, r = (n : Int) := ⟨r.toNat, by omega⟩
    have hcn : cn ≤ 256 := by omega
    have hrn : rn ≤ 256 := by omega
    have hm1 : 2 * (cn : Int) * (rn : Int) ≤ 2 * 256 * 256 := by
      have := Nat.mul_le_mul (show 2 * cn ≤ 2 * 256 by omega) hrn
      have h2 : ((2 * cn * rn : Nat) : Int) ≤ ((2 * 256 * 256 : Nat) : Int) := Int.ofNat_le.2 this
      simpa using h2
    have hm0 : 0 ≤ 2 * (cn : Int) * (rn : Int) := Int.mul_nonneg (by omega) (by omega)
    clear hz1 hz2 hz3 hE
    by_cases hE2 : shE2 x y cn rn = 0
    · have HS : Hid (sheetE x y cn rn = 0 ∧ sheetL x y cn rn = shN x y cn rn) := by
        have h1 : sheetE x y cn rn = 0 := HE.out.trans hE2
        refine ⟨h1, ?_⟩
        unfold sheetL
        rw [if_pos h1, Int.toNat_natCast, Int.toNat_natCast]
      have hE2' : (shE2 x y cn rn != 0) = false := by simp [hE2]
      clear hE2
      go_enter Tryz.func111, Tryz.ntmps111
      go_wp2_with (first | (go_at_call 78; refine (nknot_any x y _).mono ?_; rintro e w1 ⟨rfl, hb1⟩; (first | replace hB := hB.st0 hb1 | replace hB := hB.st1 hb1 | replace hB := hB.std hb1 | replace hB := hB.std1 hb1 | replace hB := hB.st2 hb1 | replace hB := hB.std2 hb1 | replace hB := hB.st3 hb1); have kB := hB.facts) | (go_at_call 165; refine (nwithin_any _ _ _ _).mono ?_; rintro e w1 ⟨rfl, hb1⟩; (first | replace hB := hB.st0 hb1 | replace hB := hB.st1 hb1 | replace hB := hB.std hb1 | replace hB := hB.std1 hb1 | replace hB := hB.st2 hb1 | replace hB := hB.std2 hb1 | replace hB := hB.st3 hb1); have kB := hB.facts) | (go_at_call 76; go_must (refine (hF _ _ _ (Rd.ints3 (by simp) (by go_simp) (by go_simp) (by go_simp))).mono ?_); rintro e w3 ⟨rfl, hb3⟩; have hB3 := (hB.alloc (.cells #[.int .i64 (knotE x y), .int .i64 (withinI cn 1 256), .int .i64 (withinI rn 1 256)] 32)).below hb3; have fB3 := hB3.facts))
      refine wp_region_ords [0, 1, 2, 3, 4, 6, 7, 8, 9, 10, 11, 12, 13, 14, 15] [(5, false)] [16, 17, 18, 19] (by kernel_rfl) (by kernel_rfl) (fun d _ _ _ _ h => by cases d <;> exact h) ?_
      simp only [List.map_cons, List.map_nil, List.getD_cons_zero, List.getD_cons_succ]
      repeat (go_big_quiet_step (fail))
      refine wpQuiet_nil ?_
      refine wpMid_run rfl (fun K hK => ?_)
      go_simp
      refine (nwhen_any _ _ _).mono ?_
      rintro e w4 ⟨rfl, hb4⟩
      refine hK _ _ (by (repeat first|exact J0|assumption|(apply J1;assumption)|apply J2|apply J3|apply J4)) ?_
      clear hK K
      have hB3_w4 := hB3.below (show Below _ _ w4 by (repeat first|exact J0|assumption|(apply J1;assumption)|apply J2|apply J3|apply J4))
      have fhB3_w4 := hB3_w4.facts
      refine wpMid_nil ?_
      go_wp2_with (first | (go_at_call 137; refine (nreach_any _ _ _).mono ?_; rintro e w5 ⟨rfl, hb5⟩; have hB5 := hB3_w4.below hb5; have fB5 := hB5.facts) | (go_at_call 76; go_must (refine (hF2 _ _ _ (Rd.ints2 (by simp) (by go_simp) (by go_simp))).mono ?_); rintro e w6 ⟨rfl, hb6⟩; have hB6 := (hB5.alloc (.cells #[.int .i64 (whenI (decide (4096 < 2 * (cn : Int) * (rn : Int))) 5), .int .i64 (reachI (x + 2 * (cn : Int)) (y + (rn : Int)))] 32)).below hb6; have fB6 := hB6.facts) | (go_at_call 167; refine (sheet_any x y cn rn _).mono ?_; rintro e w7 ⟨rfl, rfl⟩) | (go_at_call 166; refine (collect_any w6.heap.size x y cn rn (by omega) (by omega) (by omega) (by omega) _ (((Blk.new w6 _ _).alloc _).alloc _) ((Blk.new1 w6 _ _ _).alloc _) (Blk.new2 w6 _ _ _ _)).mono ?_; rintro e w8 ⟨v8, rfl, hO8, hb8⟩))
      have hbw6 : Below w.heap.size w w6 := by (repeat first|exact J0|assumption|(apply J1;assumption)|apply J2|apply J3|apply J4)
      go_ret2
      exact ⟨_, by rw [HS.out.1]; rfl, by rw [HS.out.2]; exact hO8.base_mono (by have := hbw6.size; simp; omega), by (repeat first|exact J0|assumption|(apply J1;assumption)|apply J2|apply J3|apply J4)⟩
    · have HS : Hid (sheetE x y cn rn = shE2 x y cn rn ∧ sheetL x y cn rn = []) := by
        have h1 : sheetE x y cn rn = shE2 x y cn rn := HE.out
        exact ⟨h1, by unfold sheetL; rw [h1, if_neg hE2]⟩
      have hE2' : (shE2 x y cn rn != 0) = true := by simpa using hE2
      clear hE2
      go_enter Tryz.func111, Tryz.ntmps111
      go_wp2_with (first | (go_at_call 78; refine (nknot_any x y _).mono ?_; rintro e w1 ⟨rfl, hb1⟩; (first | replace hB := hB.st0 hb1 | replace hB := hB.st1 hb1 | replace hB := hB.std hb1 | replace hB := hB.std1 hb1 | replace hB := hB.st2 hb1 | replace hB := hB.std2 hb1 | replace hB := hB.st3 hb1); have kB := hB.facts) | (go_at_call 165; refine (nwithin_any _ _ _ _).mono ?_; rintro e w1 ⟨rfl, hb1⟩; (first | replace hB := hB.st0 hb1 | replace hB := hB.st1 hb1 | replace hB := hB.std hb1 | replace hB := hB.std1 hb1 | replace hB := hB.st2 hb1 | replace hB := hB.std2 hb1 | replace hB := hB.st3 hb1); have kB := hB.facts) | (go_at_call 76; go_must (refine (hF _ _ _ (Rd.ints3 (by simp) (by go_simp) (by go_simp) (by go_simp))).mono ?_); rintro e w3 ⟨rfl, hb3⟩; have hB3 := (hB.alloc (.cells #[.int .i64 (knotE x y), .int .i64 (withinI cn 1 256), .int .i64 (withinI rn 1 256)] 32)).below hb3; have fB3 := hB3.facts))
      refine wp_region_ords [0, 1, 2, 3, 4, 6, 7, 8, 9, 10, 11, 12, 13, 14, 15] [(5, false)] [16, 17, 18, 19] (by kernel_rfl) (by kernel_rfl) (fun d _ _ _ _ h => by cases d <;> exact h) ?_
      simp only [List.map_cons, List.map_nil, List.getD_cons_zero, List.getD_cons_succ]
      repeat (go_big_quiet_step (fail))
      refine wpQuiet_nil ?_
      refine wpMid_run rfl (fun K hK => ?_)
      go_simp
      refine (nwhen_any _ _ _).mono ?_
      rintro e w4 ⟨rfl, hb4⟩
      refine hK _ _ (by (repeat first|exact J0|assumption|(apply J1;assumption)|apply J2|apply J3|apply J4)) ?_
      clear hK K
      have hB3_w4 := hB3.below (show Below _ _ w4 by (repeat first|exact J0|assumption|(apply J1;assumption)|apply J2|apply J3|apply J4))
      have fhB3_w4 := hB3_w4.facts
      refine wpMid_nil ?_
      go_wp2_with (first | (go_at_call 137; refine (nreach_any _ _ _).mono ?_; rintro e w5 ⟨rfl, hb5⟩; have hB5 := hB3_w4.below hb5; have fB5 := hB5.facts) | (go_at_call 76; go_must (refine (hF2 _ _ _ (Rd.ints2 (by simp) (by go_simp) (by go_simp))).mono ?_); rintro e w6 ⟨rfl, hb6⟩; have hB6 := (hB5.alloc (.cells #[.int .i64 (whenI (decide (4096 < 2 * (cn : Int) * (rn : Int))) 5), .int .i64 (reachI (x + 2 * (cn : Int)) (y + (rn : Int)))] 32)).below hb6; have fB6 := hB6.facts))
      go_ret2
      exact ⟨_, by rw [HS.out.1]; rfl, by rw [HS.out.2]; exact Own.nil_, by (repeat first|exact J0|assumption|(apply J1;assumption)|apply J2|apply J3|apply J4)⟩
  · have hE' : (shE1 x y c r != 0) = true := by simpa using hE
    have HS : Hid (sheetE x y c r = shE1 x y c r ∧ sheetL x y c r = []) := by
      have h1 : sheetE x y c r = shE1 x y c r := by unfold sheetE; rw [if_pos hE]
      exact ⟨h1, by unfold sheetL; rw [h1, if_neg hE]⟩
    clear hE
    go_enter Tryz.func111, Tryz.ntmps111
    go_wp2_with (first | (go_at_call 78; refine (nknot_any x y _).mono ?_; rintro e w1 ⟨rfl, hb1⟩; (first | replace hB := hB.st0 hb1 | replace hB := hB.st1 hb1 | replace hB := hB.std hb1 | replace hB := hB.std1 hb1 | replace hB := hB.st2 hb1 | replace hB := hB.std2 hb1 | replace hB := hB.st3 hb1); have kB := hB.facts) | (go_at_call 165; refine (nwithin_any _ _ _ _).mono ?_; rintro e w1 ⟨rfl, hb1⟩; (first | replace hB := hB.st0 hb1 | replace hB := hB.st1 hb1 | replace hB := hB.std hb1 | replace hB := hB.std1 hb1 | replace hB := hB.st2 hb1 | replace hB := hB.std2 hb1 | replace hB := hB.st3 hb1); have kB := hB.facts) | (go_at_call 76; go_must (refine (hF _ _ _ (Rd.ints3 (by simp) (by go_simp) (by go_simp) (by go_simp))).mono ?_); rintro e w3 ⟨rfl, hb3⟩))
    go_ret2
    exact ⟨_, by rw [HS.out.1]; rfl, by rw [HS.out.2]; exact Own.nil_, by (repeat first|exact J0|assumption|(apply J1;assumption)|apply J2|apply J3|apply J4)⟩
def noPanic (Q : Exit → Act → World → Prop) : Exit → Act → World → Prop
 | .panic _, _, _ => False
 | e, a, w => Q e a w
theorem wpIn_noPanic {F : Fence} {n : Nat} {P : Program} {c : Code} {Q : Exit → Act → World → Prop} {a : Act} {w : World} (h : c.wpIn F n P (noPanic Q) a w) : c.wpIn F n P Q a w :=
 Code.wpIn_mono (Q := noPanic Q) (fun e a w h => by cases e <;> first | exact h | exact False.elim h) h
theorem opI_store_blk {P : Program} {F : Fence} {n : Nat} {op : Oper} {a : Act} {K : Act → World → Prop} {Q : Exit → Act → World → Prop} {w : World} {g : Nat} {t : TypeId} {cs cells : Array Value} (h : Blk w g t cs) (ty : TypeId) (x y : Operand) (ho : op.op = .store ty x y)
  (hx : a.eval x = .pointer (some ⟨g, 0, none⟩)) (hy : a.eval y = .agg cells) (hsz : cells.size = cs.size) (hi : (P.info? ty).map (·.size) = some cells.size) (h1 : cells.all (·.oneCell') = true)
  (hK : ∀ W', Blk W' g t cells → Chg [g] w W' → K (a.put op.dst undef) W') : op.wpIn F n P a w K Q := by
 obtain ⟨W', hr, h2, h3⟩ := h.store_ (P := P) ty hsz hi h1
 unfold Oper.wpIn
 refine ⟨by simp [Oper.about, ho], ?_⟩
 rw [Oper.semAt_plain F _ _ (by rw [ho]; intro c hc'; cases hc')]
 simp only [execOp, ho, hx, hy, Instr.storeAt, Instr.sureAddr, Sem.run_bind, Sem.run_pure, Result.andThen_ok, hr]
 exact hK W' h2 h3
theorem wpListIn_store_blk {P : Program} {F : Fence} {n : Nat} {ops : Array Oper} {rest : List Oper} {op : Oper} {a : Act} {Q : Exit → Act → World → Prop} {w : World} {g : Nat} {t : TypeId} {cs cells : Array Value} (h : Blk w g t cs) (hgd : op.guard = none) (ty : TypeId) (x y : Operand) (ho : op.op = .store ty x y)
  (hx : a.eval x = .pointer (some ⟨g, 0, none⟩)) (hy : a.eval y = .agg cells) (hsz : cells.size = cs.size) (hi : (P.info? ty).map (·.size) = some cells.size) (h1 : cells.all (·.oneCell') = true)
  (hK : ∀ W', Blk W' g t cells → Chg [g] w W' → wpListIn F n P ops Q rest (a.put op.dst undef) W') : wpListIn F n P ops Q (op :: rest) a w :=
 wpListIn_plain hgd fun _ hK' => opI_store_blk h ty x y ho hx hy hsz hi h1 fun W' h2 h3 => hK' _ _ (hK W' h2 h3)
structure KeepT (T : TypeId) (S : List Nat) (n₀ : Nat) (A B : World) : Prop where
 kb : KeepB S n₀ A B
 ty : ∀ g cs, Blk A g T cs → Blk B g T cs
section
variable {T : TypeId} {S : List Nat} {n₀ : Nat} {A B C w : World}
theorem KeepT.refl (T : TypeId) (S : List Nat) (n₀ : Nat) (A : World) : KeepT T S n₀ A A := ⟨KeepB.refl S n₀ A, fun _ _ h => h⟩
theorem KeepT.trans (h : KeepT T S n₀ A B) (k : KeepT T S n₀ B C) : KeepT T S n₀ A C := ⟨h.kb.trans k.kb, fun g cs hB => k.ty g cs (h.ty g cs hB)⟩
theorem keepT_t (h : KeepT T S n₀ A B) (k : KeepT T S n₀ B C) : KeepT T S n₀ A C := h.trans k
theorem KeepT.of_below (h : Below A.heap.size A B) (hn : n₀ ≤ A.heap.size) : KeepT T S n₀ A B := ⟨KeepB.of_below h hn, fun _ _ hB => hB.below h⟩
theorem KeepT.of_grown {α : Type} {enc : α → List Value} {sz base : Nat} {e : TypeId} {v : Value} {l : List α} (ho : Own enc sz base e A v l) (he : e ≠ T) (h : A.grownBy B v.ownBlock) (hn : n₀ ≤ A.heap.size) (hr : ∀ k, v.ownBlock = some k → n₀ ≤ k) : KeepT T S n₀ A B :=
 ⟨KeepB.of_grown h hn hr, fun _ _ hB => hB.grown h (ho.ne_blk hB (Ne.symm he))⟩
theorem KeepT.of_set {g i : Nat} {u : Value} {t : TypeId} {cs : Array Value} (hg : g ∈ S) (hB : Blk A g t cs) (ht : t ≠ T) : KeepT T S n₀ A (A.setCell ⟨g, i, none⟩ u) :=
 ⟨KeepB.of_set hg, fun g' cs' h' => h'.far (p := ⟨g, i, none⟩) (by
  rintro rfl
  unfold Blk at hB h'
  rw [hB] at h'
  exact ht (by injection (Option.some.inj h'))) u⟩
theorem KeepT.of_chg {g : Nat} {t : TypeId} {cs : Array Value} (hc : Chg [g] A B) (hg : g ∈ S) (hB : Blk A g t cs) (ht : t ≠ T) (hn : n₀ ≤ A.heap.size) : KeepT T S n₀ A B :=
 ⟨KeepB.of_chg (hc.mono (by simpa using hg)) hn, fun g' cs' h' => h'.chg hc (by
  simp only [List.mem_singleton]
  rintro rfl
  unfold Blk at hB h'
  rw [hB] at h'
  exact ht (by injection (Option.some.inj h')))⟩
theorem keepT_b (hn : n₀ ≤ w.heap.size) (W : World) (l : Nat) (o o' : Obj) (hl : w.heap.size ≤ l) (h : W.heap[l]? = some o) (h1 : o.isCells = false) (h2 : o.isWalk = false) : KeepT T S n₀ W (W.putObj l o') :=
 ⟨keepB_b hn W l o o' hl h h1 h2, fun g cs hB => hB.grown (grownBy_putObj' W l o') (fun e => by
  have e' : g = l := by simpa using e
  unfold Blk at hB
  rw [e', h] at hB
  cases hB
  cases h1)⟩
end
theorem Rd.keep {α : Type} {enc : α → List Value} {sz : Nat} {S : List Nat} {n₀ : Nat} {w w' : World} {A : Option Addr} {l : List α} (h : Rd enc sz w A l) (hc : KeepB S n₀ w w') (hS : ∀ b off, A = some ⟨b, off, none⟩ → 0 < l.length → b < n₀ ∧ b ∉ S) : Rd enc sz w' A l := fun i x hx => by
 obtain ⟨b, off, e, hlt, hcell⟩ := h i x hx
 refine ⟨b, off, e, Nat.lt_of_lt_of_le hlt hc.size, fun j u hu => ?_⟩
 have h1 := hcell j u hu
 have hpos : 0 < l.length := by have := (List.getElem?_eq_some_iff.1 hx).1; omega
 have h2 := hc.block b (hS b off e hpos).1 (hS b off e hpos).2
 unfold World.cell? at h1 ⊢
 simp only at h1 ⊢
 rw [h2]
 exact h1
theorem letters_any (A : Option Addr) (n c : Nat) (w : World) : Calls Tryz.prog 67 #[.slice A n c] w fun e w' =>
    e = .returned (.func (.func 128) #[] #[.pointer (some ⟨w.heap.size, 0, none⟩)]) ∧ w' = w.alloc (.cells #[.slice A n c] 28) := by
  go_enter Tryz.func67, Tryz.ntmps67
  go_wp2
  go_ret
  exact ⟨rfl, rfl⟩
def encY (x : Stp) : Array Value := #[.agg #[.int .u8 x.1.toNat, .bool x.2]]
theorem word_take {e : Edg} {i : Nat} (h : i < e.1.length) : (wordS e).take (i + 1) = (wordS e).take i ++ [(e.1[i], e.2.2)] := by
 rw [List.take_succ_eq_append_getElem (by rw [wordS_len]; exact h)]
 congr 1
 simp [wordS]
theorem letters_stops (nf : Nat) (hn : 1 ≤ nf) (S : List Nat) (n₀ : Nat) (B : Nat) (A : Option Addr) (c : Nat) (l : List Edg) (hlen : (stpL l).length ≤ 100000) (hl : l.length ≤ 100000) (hok : ∀ e ∈ l, 0 ≤ e.2.1 ∧ e.2.1 ≤ 64 ∧ e.1.length ≤ 64) (w : World) (hS : ∀ b off, A = some ⟨b, off, none⟩ → 0 < l.length → b < n₀ ∧ b ∉ S)
    (hA : Blk w B 28 #[.slice A l.length c]) (hr : Rd ec 3 w A l) :
    SeqStopsK Fence.wide nf Tryz.prog 128 #[.pointer (some ⟨B, 0, none⟩)] encY (KeepT 107 S n₀) (fun ys => ys = stpL l) (fun _ => True) 1000000 w := fun y J Jx W hW hJ _ hY h0 => by
  have hcW : Rd ec 3 W A l := hr.below hW
  have fA := (hA.below hW).facts
  have HOK := Lib.hid hok
  clear hok
  refine callsIn_of_wp Tryz.func128 rfl trivial ?_ rfl
  simp only [Tryz.ntmps128, List.size_toArray, List.length_cons, List.length_nil, Nat.reduceAdd, Nat.reduceSub, Array.replicate_succ, Array.replicate_zero, List.push_toArray, List.append_toArray, List.nil_append, List.cons_append]
  gi_wp2
  gi_loopw [8] (fun i wr => ∃ k : Nat, k ≤ l.length ∧ i = .int .i64 k ∧ J (stpL (l.take k)) wr ∧ Rd ec 3 wr A l) (fun i _ => l.length - (intOf i).toNat)
  case atStart => exact ⟨0, Nat.zero_le _, rfl, h0, hcW⟩
  case round =>
    clear fA h0
    obtain ⟨k, hk, rfl, hJk, hck⟩ := hrel
    obtain ⟨wk, rfl⟩ : ∃ x, x = wr := ⟨_, rfl⟩
    by_cases hlt : k < l.length
    · obtain ⟨b, off, rfl, hb, e0, e1, e2⟩ := hck.edge hlt
      have HT := Lib.hid (stpL_take hlt)
      have HO := HOK.out _ (List.getElem_mem hlt)
      have hpre : (stpL (l.take k)).length + (edgS l[k]).length ≤ 100000 := by
        have := congrArg List.length HT.out
        have h2 : (stpL (l.take (k + 1))).length ≤ (stpL l).length := by
          have : stpL l = stpL (l.take (k + 1)) ++ stpL (l.drop (k + 1)) := by rw [← stpL_app, List.take_append_drop]
          rw [this, List.length_append]; omega
        rw [List.length_append] at this
        omega
      obtain ⟨⟨s, t, o⟩, hx⟩ : ∃ z, l[k] = z := ⟨_, rfl⟩
      rw [hx] at e0 e1 e2 HT HO hpre
      simp only at e0 e1 e2 HO
      clear hx
      obtain ⟨L, hL⟩ : ∃ L, stpL (l.take k) = L := ⟨_, rfl⟩
      rw [hL] at hJk HT hpre
      clear hL
      obtain ⟨tn, rfl⟩ : ∃ tn : Nat, t = tn := ⟨t.toNat, by omega⟩
      have hen : edgS (s, (tn : Int), o) = timS (s, (tn : Int), o) tn := by unfold edgS; rw [Int.toNat_natCast]
      rw [hen] at HT hpre
      rw [timS_len] at hpre
      have HE := Blk.new wk 107 #[.string ⟨s.toArray⟩, .int .i64 tn, .bool o]
      have hJa := abides_below hJ hJk (bl_alloc bl_refl (.cells #[.string ⟨s.toArray⟩, .int .i64 tn, .bool o] 107))
      have hca := hck.alloc (.cells #[.string ⟨s.toArray⟩, .int .i64 tn, .bool o] 107)
      have fE := HE.facts
      gi_upto_region 4 with fail
      obtain ⟨wa, hwa⟩ : ∃ X, wk.alloc (.cells #[.string ⟨s.toArray⟩, .int .i64 tn, .bool o] 107) = X := ⟨_, rfl⟩
      obtain ⟨g4, hg4⟩ : ∃ X, wk.heap.size = X := ⟨_, rfl⟩
      rw [hg4] at HE
      rw [hwa] at HE hJa hca
      rw [hwa, hg4]
      clear hwa hg4 fE hJk hck hb e0 e1 e2
      obtain ⟨e, he⟩ : ∃ e : Edg, (s, (tn : Int), o) = e := ⟨_, rfl⟩
      have hel : e.1.length = s.length := by rw [← he]
      have HWT : Hid (∀ i (h : i < s.length), (wordS e).take (i + 1) = (wordS e).take i ++ [(s[i], o)]) := by
        intro i h
        have := word_take (e := e) (i := i) (by rw [hel]; exact h)
        rw [this]
        subst he
        rfl
      rw [he] at HT
      have HEL := Lib.hid hel
      clear he hel hen
      have hsl : s.length ≤ 64 := HO.2.2
      have htn : tn ≤ 64 := by omega
      gi_loopw [14] (fun i wr => ∃ t' : Nat, t' ≤ tn ∧ i = .int .i64 t' ∧ J (L ++ timS e t') wr ∧ Rd ec 3 wr (some ⟨b, off, none⟩) l ∧ Blk wr g4 107 #[.string ⟨s.toArray⟩, .int .i64 tn, .bool o]) (fun i _ => tn - (intOf i).toNat)
      case atStart => exact ⟨0, Nat.zero_le _, rfl, by simpa [timS] using hJa, hca, HE⟩
      case round =>
        clear hJa hca HE
        obtain ⟨t', ht', rfl, hJt, hct, hEt⟩ := hrel
        obtain ⟨wt, rfl⟩ : ∃ x, x = wr := ⟨_, rfl⟩
        have fE := hEt.facts
        by_cases hlt2 : t' < tn
        · have hlen3 : (L ++ timS e t').length + s.length ≤ 100000 := by
            rw [List.length_append, timS_len, HEL.out]
            have : (t' + 1) * s.length ≤ tn * s.length := Nat.mul_le_mul_right _ hlt2
            rw [Nat.succ_mul] at this
            omega
          have HTT : Hid (L ++ timS e (t' + 1) = (L ++ timS e t') ++ wordS e) := by unfold Hid; rw [timS, List.append_assoc]
          obtain ⟨M, hM⟩ : ∃ M, L ++ timS e t' = M := ⟨_, rfl⟩
          rw [hM] at hJt hlen3 HTT
          clear hM
          have hszs : (({ data := s.toArray } : ByteArray)).size = s.length := rfl
          gi_upto_region 6 with fail
          gi_loopw [19] (fun i wr => ∃ j : Nat, j ≤ s.length ∧ i = .int .i64 j ∧ J (M ++ (wordS e).take j) wr ∧ Rd ec 3 wr (some ⟨b, off, none⟩) l ∧ Blk wr g4 107 #[.string ⟨s.toArray⟩, .int .i64 tn, .bool o]) (fun i _ => s.length - (intOf i).toNat)
          case atStart => exact ⟨0, Nat.zero_le _, rfl, by simpa using hJt, hct, hEt⟩
          case round =>
            clear hJt hct hEt fE
            obtain ⟨j, hj, rfl, hJj, hcj, hEj⟩ := hrel
            obtain ⟨wj, rfl⟩ : ∃ x, x = wr := ⟨_, rfl⟩
            have fE := hEj.facts
            by_cases hlt3 : j < s.length
            · have HJ := Lib.hid (HWT.out j hlt3)
              obtain ⟨x, hx⟩ : ∃ x, s[j] = x := ⟨_, rfl⟩
              rw [hx] at HJ
              have hx2 : ((({ data := s.toArray } : ByteArray)[j]'hlt3).toNat : Int) = x.toNat := by rw [← hx]; rfl
              have hJ1 := abides_below hJ hJj (show Below wj.heap.size wj wj.drew from bl_drew bl_refl)
              obtain ⟨fn, tmps, assign, body, hy, hR2⟩ := hY _ (x, o) _ hJ1 (by rw [List.length_append]; have := List.length_take_le j (wordS e); have h9 := wordS_len e; have h8 := HEL.out; omega)
              have hy' : (Instr.yield y #[.agg #[.int .u8 x.toNat, .bool o]]).run Tryz.prog wj.drew = .ok (.round y fn tmps assign body) wj.drew := hy
              clear hy hJj hx
              gi_upto_region 8 with fail
              refine wpIn_region_ords [0, 1, 2, 3, 4, 5, 6, 7] [] [8, 9] (fun _ => trivial) (by kernel_rfl) (by kernel_rfl) (by kernel_rfl) (fun d _ _ _ _ h => by cases d <;> exact h) ?_
              simp only [List.map_cons, List.map_nil, List.getD_cons_zero, List.getD_cons_succ]
              repeat (go_big_quiet_step (fail))
              refine wpQuiet_nil ?_
              refine wpMidI_nil ?_
              gi_wp2
              refine hR2.mono ?_
              rintro e W3 (⟨rfl, hJ3, hk3⟩ | ⟨rfl, hJx3⟩)
              · gi_wp2
                go_roundw
                case rel => exact ⟨j + 1, by omega, by go_num, by rw [HJ.out, ← List.append_assoc]; exact hJ3, hcj.drew.keep hk3.kb hS, hk3.ty _ _ hEj.drew⟩
                case measure => simp [intOf]; omega
              · gi_wp2
                refine bodyPost_ret (results_none rfl _ _ _) rfl ?_
                exact ⟨⟨_, rfl⟩, .inr ⟨_, trivial, hJx3⟩⟩
            · obtain rfl : j = s.length := by omega
              gi_wp2
              go_roundw
              case rel => exact ⟨t' + 1, by omega, by go_num, by rw [HTT.out]; rwa [List.take_of_length_le (by rw [wordS_len, HEL.out]; omega)] at hJj, hcj, hEj⟩
              case measure => simp [intOf]; omega
        · obtain rfl : t' = tn := by omega
          gi_wp2
          go_roundw
          case rel => exact ⟨k + 1, by omega, by go_num, by rw [HT.out]; exact hJt, hct⟩
          case measure => simp [intOf]; omega
    · obtain rfl : k = l.length := by omega
      gi_wp2
      go_end0
      exact ⟨⟨_, rfl⟩, .inl ⟨_, rfl, by simpa using hJk⟩⟩
end Go.Proofs.YtkkefahobjlagaaGreatDoor

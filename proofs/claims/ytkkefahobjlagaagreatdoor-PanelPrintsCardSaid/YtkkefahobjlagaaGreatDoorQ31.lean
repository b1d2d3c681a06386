/- Nets merged by Minus, walked. Conditions: none. -/
import Derived.Test.YtkkefahobjlagaaGreatDoorQ28
import Derived.Test.YtkkefahobjlagaaGreatDoorQ13
namespace Go.Proofs.YtkkefahobjlagaaGreatDoor
open Go.RowKit Go.ChangeMaps
set_option maxHeartbeats 4000000
set_option maxRecDepth 100000
attribute [local go_sem] Oper.semAt_some
theorem merged1_any {va vb : Value} (K : Bool → Bool → Bool) (g : Nat) (hg3 : Hid (g = 168)) (hg : ∀ o t W, Calls Tryz.prog g #[.bool o, .bool t] W (RV W (.bool (K o t)))) (a b : List Bar) (w : World) (ha : SlB w va a) (hb : SlB w vb b) (hla : a.length ≤ 10000) (hlb : b.length ≤ 10000) :
  Calls Tryz.prog 139 #[va, vb, .func (.func 136) #[] #[], .func (.func g) #[] #[]] w (RB w (mergeL K a b)) := by
 go_enter Tryz.func139, Tryz.ntmps139
 go_wp2
 go_loopw [0, 1, 9] (fun s t o wr => ∃ (n : Nat) (a' b' acc : List Bar), SlB w s a' ∧ SlB w t b' ∧ a'.length + b'.length ≤ n ∧ n ≤ 20000 ∧ Hid (mergeL K a b = acc ++ mergeF K n a' b') ∧ acc.length + n ≤ 20000 ∧ OwB w.heap.size wr o acc ∧ Below w.heap.size w wr) (fun s t _ _ => (lenOf s) + (lenOf t))
 case atStart => exact ⟨a.length + b.length, a, b, [], ha, hb, Nat.le_refl _, by omega, by unfold Hid mergeL; simp, by simp; omega, Own.nil_, bl_refl⟩
 case round =>
  obtain ⟨n, a', b', acc, hA, hB, hn, hn2, H, hacc, hO, hbw⟩ := hrel
  obtain ⟨wo, rfl⟩ : ∃ x, x = wr := ⟨_, rfl⟩
  obtain ⟨A, c, rfl, hlc, hcm, hrA⟩ := id hA
  obtain ⟨A2, c2, rfl, hlc2, hcm2, hrB⟩ := id hB
  have hrA0 := hrA.below hbw
  have hrB0 := hrB.below hbw
  cases a' with
  | nil =>
   cases b' with
   | nil =>
    have HE : Hid (mergeL K a b = acc) := by unfold Hid; rw [H.out]; cases n <;> simp [mergeF]
    go_wp2
    go_ret
    exact ⟨_, rfl, by rw [HE.out]; exact hO, hbw⟩
   | cons y b' =>
    obtain ⟨⟨x2, y2, s2⟩, rfl⟩ : ∃ z, z = y := ⟨_, rfl⟩
    obtain ⟨b2, off2, rfl, hbb2, d20, d21, d22⟩ := hrB0.bar (show 0 < ((x2, y2, s2) :: b').length by simp)
    simp only [List.getElem_cons_zero, Nat.zero_mul, Nat.add_zero] at d20 d21 d22
    obtain ⟨n', rfl⟩ : ∃ n', n = n' + 1 := ⟨n - 1, by simp at hn; omega⟩
    have HE : Hid (mergeL K a b = acc ++ ((if K false true then [(x2, y2, s2)] else []) ++ mergeF K n' [] b')) := H
    obtain ⟨m, hml⟩ : ∃ m, ((x2, y2, s2) :: b').length = m := ⟨_, rfl⟩
    have hmb : b'.length + 1 = m := by simpa using hml
    have hmz : ((m : Int) == 0) = false := by simp; omega
    have hmp : (0 < (m : Int)) = True := by simp; omega
    rw [hml] at hlc2 ⊢
    simp only [List.length_nil] at hA ⊢
    go_upto_region 13 with fail
    have hX := (Blk.new wo 77 #[.int .i64 0, .int .i64 0, .int .i64 0]).drew
    refine wp_region_ord (wo.heap.size) [0, 1, 2, 3, 4] [(5, false)] [6] (by kernel_rfl) (by kernel_rfl) (fun d _ _ _ _ h => by cases d <;> exact h) ?_
    simp only [List.map_cons, List.map_nil, List.getD_cons_zero, List.getD_cons_succ]
    repeat (go_big_quiet_step (fail))
    refine wpQuiet_nil ?_
    refine wpMid_run rfl (fun K hK => ?_)
    refine op_store_blk hX _ _ _ rfl rfl rfl rfl (by kernel_rfl) (by kernel_rfl) ?_
    intro w7 hXw7 hcw7
    have hbw7 : Below wo.heap.size wo w7 := chg_bl (by (repeat first|exact J0|assumption|(apply J1;assumption)|apply J2|apply J3|apply J4)) hcw7 (Nat.le_refl _)
    refine hK _ _ (((Chg.of_below (S := [wo.heap.size]) (bl_drew bl_refl)).trans hcw7).below (by simp) (by first | (simp; done) | (have := Below.size (show Below wo.heap.size wo wo by (repeat first|exact J0|assumption|(apply J1;assumption)|apply J2|apply J3|apply J4)); omega))) ?_
    clear hK K hX
    refine wpMid_nil ?_
    obtain ⟨vt2, hvt2⟩ : ∃ X, Value.slice (if c2 = 1 then some ⟨b2, off2, none⟩ else some ⟨b2, off2 + 3, none⟩) (m - 1) (c2 - 1) = X := ⟨_, rfl⟩
    have hT2 := sl_tail hrB hml hlc2 hcm2
    have hL2 : lenOf vt2 = m - 1 := by rw [← hvt2]; rfl
    rw [hvt2] at hT2 ⊢
    clear hvt2
    go_upto_region 14 with fail
    go_cut [53] from 12 to 57 (fun s wx => s = .bool (K false true) ∧ Below w7.heap.size w7 wx)
    case first =>
     clear H HE
     obtain rfl := hg3.out
     all_goals
      go_wp2_with fail
      refine (hg _ _ _).mono ?_
      rintro e w8 ⟨rfl, hb8⟩
      go_wp2_with fail
      go_meet
      case rel => exact ⟨rfl, by (repeat first|exact J0|assumption|(apply J1;assumption)|apply J2|apply J3|apply J4)⟩
    obtain ⟨rfl, hb8⟩ := hcut
    obtain ⟨w8, rfl⟩ : ∃ x, x = wc := ⟨_, rfl⟩
    have hX8 := hXw7.below hb8
    have fX8 := hX8.facts
    have hb80 : Below wo.heap.size wo w8 := by (repeat first|exact J0|assumption|(apply J1;assumption)|apply J2|apply J3|apply J4)
    have hA8 := hA
    have hB8 := hT2
    have hO8 := hO.below hb80
    have hbw8 := bl_then hb80 hbw
    obtain ⟨q, hq⟩ : ∃ q, K false true = q := ⟨_, rfl⟩
    rw [hq] at HE ⊢
    clear hq hX8 hXw7
    cases q
    ·have HE2 : Hid (mergeL K a b = acc ++ mergeF K n' ([]) (b')) := by unfold Hid; rw [HE.out]; simp
     go_wp2
     go_roundw
     case rel => exact ⟨n', [], b', acc, hA8, hB8, by simp at hn ⊢; omega, by omega, HE2, by omega, hO8, hbw8⟩
     case measure => simp only [hL2, lenOf_sl]; omega
    ·have HE2 : Hid (mergeL K a b = (acc ++ [(x2, y2, s2)]) ++ mergeF K n' ([]) (b')) := by unfold Hid; rw [HE.out]; simp
     go_wp2_with (at_builtin; refine wpList_appB1 hO8 rfl _ _ rfl rfl rfl (by simp) (by omega) hbw8.size ?_; intro v9 w9 hown9 hgr9)
     have hb9 := own_step hO8 hgr9 (by (repeat first|exact J0|assumption|(apply J1;assumption)|apply J2|apply J3|apply J4))
     clear hgr9
     go_wp2
     go_roundw
     case rel => exact ⟨n', [], b', _, hA8, hB8, by simp at hn ⊢; omega, by omega, HE2, by simp; omega, hown9, hb9⟩
     case measure => simp only [hL2, lenOf_sl]; omega
  | cons x a' =>
   obtain ⟨⟨x1, y1, s1⟩, rfl⟩ : ∃ z, z = x := ⟨_, rfl⟩
   obtain ⟨b1, off1, rfl, hbb1, d10, d11, d12⟩ := hrA0.bar (show 0 < ((x1, y1, s1) :: a').length by simp)
   simp only [List.getElem_cons_zero, Nat.zero_mul, Nat.add_zero] at d10 d11 d12
   obtain ⟨n', rfl⟩ : ∃ n', n = n' + 1 := ⟨n - 1, by simp at hn; omega⟩
   obtain ⟨m1, hml1⟩ : ∃ m, ((x1, y1, s1) :: a').length = m := ⟨_, rfl⟩
   have hma : a'.length + 1 = m1 := by simpa using hml1
   have hmz1 : ((m1 : Int) == 0) = false := by simp; omega
   have hmp1 : (0 < (m1 : Int)) = True := by simp; omega
   rw [hml1] at hlc hA ⊢
   cases b' with
   | nil =>
    have HE : Hid (mergeL K a b = acc ++ ((if K true false then [(x1, y1, s1)] else []) ++ mergeF K n' a' [])) := H
    simp only [List.length_nil] at hB ⊢
    go_upto_region 11 with fail
    have hX := (Blk.new wo 77 #[.int .i64 0, .int .i64 0, .int .i64 0]).drew
    refine wp_region_ord (wo.heap.size) [0, 1, 2, 3, 4] [(5, false)] [6] (by kernel_rfl) (by kernel_rfl) (fun d _ _ _ _ h => by cases d <;> exact h) ?_
    simp only [List.map_cons, List.map_nil, List.getD_cons_zero, List.getD_cons_succ]
    repeat (go_big_quiet_step (fail))
    refine wpQuiet_nil ?_
    refine wpMid_run rfl (fun K hK => ?_)
    refine op_store_blk hX _ _ _ rfl rfl rfl rfl (by kernel_rfl) (by kernel_rfl) ?_
    intro w7 hXw7 hcw7
    have hbw7 : Below wo.heap.size wo w7 := chg_bl (by (repeat first|exact J0|assumption|(apply J1;assumption)|apply J2|apply J3|apply J4)) hcw7 (Nat.le_refl _)
    refine hK _ _ (((Chg.of_below (S := [wo.heap.size]) (bl_drew bl_refl)).trans hcw7).below (by simp) (by first | (simp; done) | (have := Below.size (show Below wo.heap.size wo wo by (repeat first|exact J0|assumption|(apply J1;assumption)|apply J2|apply J3|apply J4)); omega))) ?_
    clear hK K hX
    refine wpMid_nil ?_
    obtain ⟨vt1, hvt1⟩ : ∃ X, Value.slice (if c = 1 then some ⟨b1, off1, none⟩ else some ⟨b1, off1 + 3, none⟩) (m1 - 1) (c - 1) = X := ⟨_, rfl⟩
    have hT1 := sl_tail hrA hml1 hlc hcm
    have hL1 : lenOf vt1 = m1 - 1 := by rw [← hvt1]; rfl
    rw [hvt1] at hT1 ⊢
    clear hvt1
    go_upto_region 14 with fail
    go_cut [53] from 12 to 57 (fun s wx => s = .bool (K true false) ∧ Below w7.heap.size w7 wx)
    case first =>
     clear H HE
     obtain rfl := hg3.out
     all_goals
      go_wp2_with fail
      refine (hg _ _ _).mono ?_
      rintro e w8 ⟨rfl, hb8⟩
      go_wp2_with fail
      go_meet
      case rel => exact ⟨rfl, by (repeat first|exact J0|assumption|(apply J1;assumption)|apply J2|apply J3|apply J4)⟩
    obtain ⟨rfl, hb8⟩ := hcut
    obtain ⟨w8, rfl⟩ : ∃ x, x = wc := ⟨_, rfl⟩
    have hX8 := hXw7.below hb8
    have fX8 := hX8.facts
    have hb80 : Below wo.heap.size wo w8 := by (repeat first|exact J0|assumption|(apply J1;assumption)|apply J2|apply J3|apply J4)
    have hA8 := hT1
    have hB8 := hB
    have hO8 := hO.below hb80
    have hbw8 := bl_then hb80 hbw
    obtain ⟨q, hq⟩ : ∃ q, K true false = q := ⟨_, rfl⟩
    rw [hq] at HE ⊢
    clear hq hX8 hXw7
    cases q
    ·have HE2 : Hid (mergeL K a b = acc ++ mergeF K n' (a') ([])) := by unfold Hid; rw [HE.out]; simp
     go_wp2
     go_roundw
     case rel => exact ⟨n', a', [], acc, hA8, hB8, by simp at hn ⊢; omega, by omega, HE2, by omega, hO8, hbw8⟩
     case measure => simp only [hL1, lenOf_sl]; omega
    ·have HE2 : Hid (mergeL K a b = (acc ++ [(x1, y1, s1)]) ++ mergeF K n' (a') ([])) := by unfold Hid; rw [HE.out]; simp
     go_wp2_with (at_builtin; refine wpList_appB1 hO8 rfl _ _ rfl rfl rfl (by simp) (by omega) hbw8.size ?_; intro v9 w9 hown9 hgr9)
     have hb9 := own_step hO8 hgr9 (by (repeat first|exact J0|assumption|(apply J1;assumption)|apply J2|apply J3|apply J4))
     clear hgr9
     go_wp2
     go_roundw
     case rel => exact ⟨n', a', [], _, hA8, hB8, by simp at hn ⊢; omega, by omega, HE2, by simp; omega, hown9, hb9⟩
     case measure => simp only [hL1, lenOf_sl]; omega
   | cons y b' =>
    obtain ⟨⟨x2, y2, s2⟩, rfl⟩ : ∃ z, z = y := ⟨_, rfl⟩
    obtain ⟨b2, off2, rfl, hbb2, d20, d21, d22⟩ := hrB0.bar (show 0 < ((x2, y2, s2) :: b').length by simp)
    simp only [List.getElem_cons_zero, Nat.zero_mul, Nat.add_zero] at d20 d21 d22
    obtain ⟨m2, hml2⟩ : ∃ m, ((x2, y2, s2) :: b').length = m := ⟨_, rfl⟩
    have hmb : b'.length + 1 = m2 := by simpa using hml2
    have hmz2 : ((m2 : Int) == 0) = false := by simp; omega
    have hmp2 : (0 < (m1 : Int) + (m2 : Int)) = True := by simp; omega
    rw [hml2] at hlc2 hB ⊢
    obtain ⟨cv, hcv⟩ : ∃ q, barCmp x1 y1 s1 x2 y2 s2 = q := ⟨_, rfl⟩
    have hc := fun W => ncompare_any x1 y1 s1 x2 y2 s2 W
    have hneg := barCmp_neg (x1, y1, s1) (x2, y2, s2)
    have hzer := barCmp_zero (x1, y1, s1) (x2, y2, s2)
    simp only at hneg hzer
    rw [hcv] at hc hneg hzer
    have HNZ := Lib.hid (And.intro hneg hzer)
    clear hneg hzer hcv
    by_cases hlt : cv < 0
    ·have hbl := HNZ.out.1.1 hlt
     have HE : Hid (mergeL K a b = acc ++ ((if K true false then [(x1, y1, s1)] else []) ++ mergeF K n' a' ((x2, y2, s2) :: b'))) := by
      unfold Hid
      rw [H.out]
      simp only [mergeF]
      rw [if_pos hbl]
     have t1 : (cv ≤ 0) = True := eq_true (by omega)
     have t2 : (0 ≤ cv) = False := eq_false (by omega)
     clear hbl hlt
     go_upto_region 4 with fail
     refine wp_region_ords [0, 1, 2, 3, 4, 5, 6] [] [7, 8] (by kernel_rfl) (by kernel_rfl) (fun d _ _ _ _ h => by cases d <;> exact h) ?_
     simp only [List.map_cons, List.map_nil, List.getD_cons_zero, List.getD_cons_succ]
     repeat (go_big_quiet_step (fail))
     refine wpQuiet_nil ?_
     refine wpMid_nil ?_
     go_wp2_with fail
     refine (hc _).mono ?_
     rintro e w4 ⟨rfl, hb4⟩
     have hbc : Below wo.heap.size wo w4 := by (repeat first|exact J0|assumption|(apply J1;assumption)|apply J2|apply J3|apply J4)
     have hrA4 := hrA0.below hbc
     have hrB4 := hrB0.below hbc
     clear hbb1 hbb2 d10 d11 d12 d20 d21 d22 hc hb4
     obtain ⟨hbb1, d10, d11, d12⟩ := hrA4.barAt (show 0 < ((x1, y1, s1) :: a').length by simp)
     obtain ⟨hbb2, d20, d21, d22⟩ := hrB4.barAt (show 0 < ((x2, y2, s2) :: b').length by simp)
     simp only [List.getElem_cons_zero, Nat.zero_mul, Nat.add_zero] at d10 d11 d12 d20 d21 d22
     go_upto_region 11 with fail
     have hX := (Blk.new w4 77 #[.int .i64 0, .int .i64 0, .int .i64 0]).drew
     refine wp_region_ord (w4.heap.size) [0, 1, 2, 3, 4] [(5, false)] [6] (by kernel_rfl) (by kernel_rfl) (fun d _ _ _ _ h => by cases d <;> exact h) ?_
     simp only [List.map_cons, List.map_nil, List.getD_cons_zero, List.getD_cons_succ]
     repeat (go_big_quiet_step (fail))
     refine wpQuiet_nil ?_
     refine wpMid_run rfl (fun K hK => ?_)
     refine op_store_blk hX _ _ _ rfl rfl rfl rfl (by kernel_rfl) (by kernel_rfl) ?_
     intro w7 hXw7 hcw7
     have hbw7 : Below w4.heap.size w4 w7 := chg_bl (by (repeat first|exact J0|assumption|(apply J1;assumption)|apply J2|apply J3|apply J4)) hcw7 (Nat.le_refl _)
     refine hK _ _ (((Chg.of_below (S := [w4.heap.size]) (bl_drew bl_refl)).trans hcw7).below (by simp) (by first | (simp; done) | (have := Below.size (show Below w4.heap.size w4 w4 by (repeat first|exact J0|assumption|(apply J1;assumption)|apply J2|apply J3|apply J4)); omega))) ?_
     clear hK K hX
     refine wpMid_nil ?_
     obtain ⟨vt1, hvt1⟩ : ∃ X, Value.slice (if c = 1 then some ⟨b1, off1, none⟩ else some ⟨b1, off1 + 3, none⟩) (m1 - 1) (c - 1) = X := ⟨_, rfl⟩
     have hT1 := sl_tail hrA hml1 hlc hcm
     have hL1 : lenOf vt1 = m1 - 1 := by rw [← hvt1]; rfl
     rw [hvt1] at hT1 ⊢
     clear hvt1
     go_upto_region 14 with fail
     go_cut [53] from 12 to 57 (fun s wx => s = .bool (K true false) ∧ Below w7.heap.size w7 wx)
     case first =>
      clear H HE
      obtain rfl := hg3.out
      all_goals
       go_wp2_with fail
       refine (hg _ _ _).mono ?_
       rintro e w8 ⟨rfl, hb8⟩
       go_wp2_with fail
       go_meet
       case rel => exact ⟨rfl, by (repeat first|exact J0|assumption|(apply J1;assumption)|apply J2|apply J3|apply J4)⟩
     obtain ⟨rfl, hb8⟩ := hcut
     obtain ⟨w8, rfl⟩ : ∃ x, x = wc := ⟨_, rfl⟩
     have hX8 := hXw7.below hb8
     have fX8 := hX8.facts
     have hb80 : Below wo.heap.size wo w8 := by (repeat first|exact J0|assumption|(apply J1;assumption)|apply J2|apply J3|apply J4)
     have hA8 := hT1
     have hB8 := hB
     have hO8 := hO.below hb80
     have hbw8 := bl_then hb80 hbw
     obtain ⟨q, hq⟩ : ∃ q, K true false = q := ⟨_, rfl⟩
     rw [hq] at HE ⊢
     clear hq hX8 hXw7
     cases q
     ·have HE2 : Hid (mergeL K a b = acc ++ mergeF K n' (a') ((x2, y2, s2) :: b')) := by unfold Hid; rw [HE.out]; simp
      go_wp2
      go_roundw
      case rel => exact ⟨n', a', (x2, y2, s2) :: b', acc, hA8, hB8, by simp at hn ⊢; omega, by omega, HE2, by omega, hO8, hbw8⟩
      case measure => simp only [hL1, lenOf_sl]; omega
     ·have HE2 : Hid (mergeL K a b = (acc ++ [(x1, y1, s1)]) ++ mergeF K n' (a') ((x2, y2, s2) :: b')) := by unfold Hid; rw [HE.out]; simp
      go_wp2_with (at_builtin; refine wpList_appB1 hO8 rfl _ _ rfl rfl rfl (by simp) (by omega) hbw8.size ?_; intro v9 w9 hown9 hgr9)
      have hb9 := own_step hO8 hgr9 (by (repeat first|exact J0|assumption|(apply J1;assumption)|apply J2|apply J3|apply J4))
      clear hgr9
      go_wp2
      go_roundw
      case rel => exact ⟨n', a', (x2, y2, s2) :: b', _, hA8, hB8, by simp at hn ⊢; omega, by omega, HE2, by simp; omega, hown9, hb9⟩
      case measure => simp only [hL1, lenOf_sl]; omega
    ·by_cases hez : cv = 0
     ·have hee := HNZ.out.2.1 hez
      have HE : Hid (mergeL K a b = acc ++ ((if K true true then [(x2, y2, s2)] else []) ++ mergeF K n' a' b')) := by
       unfold Hid
       rw [H.out]
       simp only [mergeF]
       rw [if_neg (fun h => by rw [hee] at h; exact bltP_irrefl _ h), if_pos hee]
      have t1 : (cv ≤ 0) = True := eq_true (by omega)
      have t2 : (0 ≤ cv) = True := eq_true (by omega)
      clear hlt hez hee
      go_upto_region 4 with fail
      refine wp_region_ords [0, 1, 2, 3, 4, 5, 6] [] [7, 8] (by kernel_rfl) (by kernel_rfl) (fun d _ _ _ _ h => by cases d <;> exact h) ?_
      simp only [List.map_cons, List.map_nil, List.getD_cons_zero, List.getD_cons_succ]
      repeat (go_big_quiet_step (fail))
      refine wpQuiet_nil ?_
      refine wpMid_nil ?_
      go_wp2_with fail
      refine (hc _).mono ?_
      rintro e w4 ⟨rfl, hb4⟩
      have hbc : Below wo.heap.size wo w4 := by (repeat first|exact J0|assumption|(apply J1;assumption)|apply J2|apply J3|apply J4)
      have hrA4 := hrA0.below hbc
      have hrB4 := hrB0.below hbc
      clear hbb1 hbb2 d10 d11 d12 d20 d21 d22 hc hb4
      obtain ⟨hbb1, d10, d11, d12⟩ := hrA4.barAt (show 0 < ((x1, y1, s1) :: a').length by simp)
      obtain ⟨hbb2, d20, d21, d22⟩ := hrB4.barAt (show 0 < ((x2, y2, s2) :: b').length by simp)
      simp only [List.getElem_cons_zero, Nat.zero_mul, Nat.add_zero] at d10 d11 d12 d20 d21 d22
      go_upto_region 11 with fail
      have hX := (Blk.new w4 77 #[.int .i64 0, .int .i64 0, .int .i64 0]).drew
      refine wp_region_ord (w4.heap.size) [0, 1, 2, 3, 4] [(5, false)] [6] (by kernel_rfl) (by kernel_rfl) (fun d _ _ _ _ h => by cases d <;> exact h) ?_
      simp only [List.map_cons, List.map_nil, List.getD_cons_zero, List.getD_cons_succ]
      repeat (go_big_quiet_step (fail))
      refine wpQuiet_nil ?_
      refine wpMid_run rfl (fun K hK => ?_)
      refine op_store_blk hX _ _ _ rfl rfl rfl rfl (by kernel_rfl) (by kernel_rfl) ?_
      intro w7 hXw7 hcw7
      have hbw7 : Below w4.heap.size w4 w7 := chg_bl (by (repeat first|exact J0|assumption|(apply J1;assumption)|apply J2|apply J3|apply J4)) hcw7 (Nat.le_refl _)
      refine hK _ _ (((Chg.of_below (S := [w4.heap.size]) (bl_drew bl_refl)).trans hcw7).below (by simp) (by first | (simp; done) | (have := Below.size (show Below w4.heap.size w4 w4 by (repeat first|exact J0|assumption|(apply J1;assumption)|apply J2|apply J3|apply J4)); omega))) ?_
      clear hK K hX
      refine wpMid_nil ?_
      obtain ⟨vt1, hvt1⟩ : ∃ X, Value.slice (if c = 1 then some ⟨b1, off1, none⟩ else some ⟨b1, off1 + 3, none⟩) (m1 - 1) (c - 1) = X := ⟨_, rfl⟩
      have hT1 := sl_tail hrA hml1 hlc hcm
      have hL1 : lenOf vt1 = m1 - 1 := by rw [← hvt1]; rfl
      rw [hvt1] at hT1 ⊢
      clear hvt1
      have hrB7 := hrB4.below hbw7
      obtain ⟨_, f20, f21, f22⟩ := hrB7.barAt (show 0 < ((x2, y2, s2) :: b').length by simp)
      simp only [List.getElem_cons_zero, Nat.zero_mul, Nat.add_zero] at f20 f21 f22
      have hbb7 := Nat.lt_of_lt_of_le hbb2 (Below.size hbw7)
      go_upto_region 13 with fail
      have hX := hXw7.drew
      refine wp_region_ord (w4.heap.size) [0, 1, 2, 3, 4] [(5, false)] [6] (by kernel_rfl) (by kernel_rfl) (fun d _ _ _ _ h => by cases d <;> exact h) ?_
      simp only [List.map_cons, List.map_nil, List.getD_cons_zero, List.getD_cons_succ]
      repeat (go_big_quiet_step (fail))
      refine wpQuiet_nil ?_
      refine wpMid_run rfl (fun K hK => ?_)
      refine op_store_blk hX _ _ _ rfl rfl rfl rfl (by kernel_rfl) (by kernel_rfl) ?_
      intro w9 hXw9 hcw9
      have hbw9 : Below w4.heap.size w4 w9 := chg_bl (by (repeat first|exact J0|assumption|(apply J1;assumption)|apply J2|apply J3|apply J4)) hcw9 (Nat.le_refl _)
      refine hK _ _ (((Chg.of_below (S := [w4.heap.size]) (bl_drew bl_refl)).trans hcw9).below (by simp) (by first | (simp; done) | (have := Below.size (show Below w4.heap.size w4 w7 by (repeat first|exact J0|assumption|(apply J1;assumption)|apply J2|apply J3|apply J4)); omega))) ?_
      clear hK K hX
      refine wpMid_nil ?_
      obtain ⟨vt2, hvt2⟩ : ∃ X, Value.slice (if c2 = 1 then some ⟨b2, off2, none⟩ else some ⟨b2, off2 + 3, none⟩) (m2 - 1) (c2 - 1) = X := ⟨_, rfl⟩
      have hT2 := sl_tail hrB hml2 hlc2 hcm2
      have hL2 : lenOf vt2 = m2 - 1 := by rw [← hvt2]; rfl
      rw [hvt2] at hT2 ⊢
      clear hvt2
      go_upto_region 14 with fail
      go_cut [53] from 12 to 57 (fun s wx => s = .bool (K true true) ∧ Below w9.heap.size w9 wx)
      case first =>
       clear H HE
       obtain rfl := hg3.out
       all_goals
        go_wp2_with fail
        refine (hg _ _ _).mono ?_
        rintro e w8 ⟨rfl, hb8⟩
        go_wp2_with fail
        go_meet
        case rel => exact ⟨rfl, by (repeat first|exact J0|assumption|(apply J1;assumption)|apply J2|apply J3|apply J4)⟩
      obtain ⟨rfl, hb8⟩ := hcut
      obtain ⟨w8, rfl⟩ : ∃ x, x = wc := ⟨_, rfl⟩
      have hX8 := hXw9.below hb8
      have fX8 := hX8.facts
      have hb80 : Below wo.heap.size wo w8 := by (repeat first|exact J0|assumption|(apply J1;assumption)|apply J2|apply J3|apply J4)
      have hA8 := hT1
      have hB8 := hT2
      have hO8 := hO.below hb80
      have hbw8 := bl_then hb80 hbw
      obtain ⟨q, hq⟩ : ∃ q, K true true = q := ⟨_, rfl⟩
      rw [hq] at HE ⊢
      clear hq hX8 hXw9
      cases q
      ·have HE2 : Hid (mergeL K a b = acc ++ mergeF K n' (a') (b')) := by unfold Hid; rw [HE.out]; simp
       go_wp2
       go_roundw
       case rel => exact ⟨n', a', b', acc, hA8, hB8, by simp at hn ⊢; omega, by omega, HE2, by omega, hO8, hbw8⟩
       case measure => simp only [hL1, hL2, lenOf_sl]; omega
      ·have HE2 : Hid (mergeL K a b = (acc ++ [(x2, y2, s2)]) ++ mergeF K n' (a') (b')) := by unfold Hid; rw [HE.out]; simp
       go_wp2_with (at_builtin; refine wpList_appB1 hO8 rfl _ _ rfl rfl rfl (by simp) (by omega) hbw8.size ?_; intro v9 w9 hown9 hgr9)
       have hb9 := own_step hO8 hgr9 (by (repeat first|exact J0|assumption|(apply J1;assumption)|apply J2|apply J3|apply J4))
       clear hgr9
       go_wp2
       go_roundw
       case rel => exact ⟨n', a', b', _, hA8, hB8, by simp at hn ⊢; omega, by omega, HE2, by simp; omega, hown9, hb9⟩
       case measure => simp only [hL1, hL2, lenOf_sl]; omega
     ·have hpos : 0 < cv := by omega
      have hnb : ¬ bltP (x1, y1, s1) (x2, y2, s2) := fun h => hlt (HNZ.out.1.2 h)
      have hne : ¬ (x1, y1, s1) = (x2, y2, s2) := fun h => hez (HNZ.out.2.2 h)
      have HE : Hid (mergeL K a b = acc ++ ((if K false true then [(x2, y2, s2)] else []) ++ mergeF K n' ((x1, y1, s1) :: a') b')) := by
       unfold Hid
       rw [H.out]
       simp only [mergeF]
       rw [if_neg hnb, if_neg hne]
      have t1 : (cv ≤ 0) = False := eq_false (by omega)
      have t2 : (0 ≤ cv) = True := eq_true (by omega)
      clear hlt hez hpos hnb hne
      go_upto_region 4 with fail
      refine wp_region_ords [0, 1, 2, 3, 4, 5, 6] [] [7, 8] (by kernel_rfl) (by kernel_rfl) (fun d _ _ _ _ h => by cases d <;> exact h) ?_
      simp only [List.map_cons, List.map_nil, List.getD_cons_zero, List.getD_cons_succ]
      repeat (go_big_quiet_step (fail))
      refine wpQuiet_nil ?_
      refine wpMid_nil ?_
      go_wp2_with fail
      refine (hc _).mono ?_
      rintro e w4 ⟨rfl, hb4⟩
      have hbc : Below wo.heap.size wo w4 := by (repeat first|exact J0|assumption|(apply J1;assumption)|apply J2|apply J3|apply J4)
      have hrA4 := hrA0.below hbc
      have hrB4 := hrB0.below hbc
      clear hbb1 hbb2 d10 d11 d12 d20 d21 d22 hc hb4
      obtain ⟨hbb1, d10, d11, d12⟩ := hrA4.barAt (show 0 < ((x1, y1, s1) :: a').length by simp)
      obtain ⟨hbb2, d20, d21, d22⟩ := hrB4.barAt (show 0 < ((x2, y2, s2) :: b').length by simp)
      simp only [List.getElem_cons_zero, Nat.zero_mul, Nat.add_zero] at d10 d11 d12 d20 d21 d22
      go_upto_region 13 with fail
      have hX := (Blk.new w4 77 #[.int .i64 0, .int .i64 0, .int .i64 0]).drew
      refine wp_region_ord (w4.heap.size) [0, 1, 2, 3, 4] [(5, false)] [6] (by kernel_rfl) (by kernel_rfl) (fun d _ _ _ _ h => by cases d <;> exact h) ?_
      simp only [List.map_cons, List.map_nil, List.getD_cons_zero, List.getD_cons_succ]
      repeat (go_big_quiet_step (fail))
      refine wpQuiet_nil ?_
      refine wpMid_run rfl (fun K hK => ?_)
      refine op_store_blk hX _ _ _ rfl rfl rfl rfl (by kernel_rfl) (by kernel_rfl) ?_
      intro w7 hXw7 hcw7
      have hbw7 : Below w4.heap.size w4 w7 := chg_bl (by (repeat first|exact J0|assumption|(apply J1;assumption)|apply J2|apply J3|apply J4)) hcw7 (Nat.le_refl _)
      refine hK _ _ (((Chg.of_below (S := [w4.heap.size]) (bl_drew bl_refl)).trans hcw7).below (by simp) (by first | (simp; done) | (have := Below.size (show Below w4.heap.size w4 w4 by (repeat first|exact J0|assumption|(apply J1;assumption)|apply J2|apply J3|apply J4)); omega))) ?_
      clear hK K hX
      refine wpMid_nil ?_
      obtain ⟨vt2, hvt2⟩ : ∃ X, Value.slice (if c2 = 1 then some ⟨b2, off2, none⟩ else some ⟨b2, off2 + 3, none⟩) (m2 - 1) (c2 - 1) = X := ⟨_, rfl⟩
      have hT2 := sl_tail hrB hml2 hlc2 hcm2
      have hL2 : lenOf vt2 = m2 - 1 := by rw [← hvt2]; rfl
      rw [hvt2] at hT2 ⊢
      clear hvt2
      go_upto_region 14 with fail
      go_cut [53] from 12 to 57 (fun s wx => s = .bool (K false true) ∧ Below w7.heap.size w7 wx)
      case first =>
       clear H HE
       obtain rfl := hg3.out
       all_goals
        go_wp2_with fail
        refine (hg _ _ _).mono ?_
        rintro e w8 ⟨rfl, hb8⟩
        go_wp2_with fail
        go_meet
        case rel => exact ⟨rfl, by (repeat first|exact J0|assumption|(apply J1;assumption)|apply J2|apply J3|apply J4)⟩
      obtain ⟨rfl, hb8⟩ := hcut
      obtain ⟨w8, rfl⟩ : ∃ x, x = wc := ⟨_, rfl⟩
      have hX8 := hXw7.below hb8
      have fX8 := hX8.facts
      have hb80 : Below wo.heap.size wo w8 := by (repeat first|exact J0|assumption|(apply J1;assumption)|apply J2|apply J3|apply J4)
      have hA8 := hA
      have hB8 := hT2
      have hO8 := hO.below hb80
      have hbw8 := bl_then hb80 hbw
      obtain ⟨q, hq⟩ : ∃ q, K false true = q := ⟨_, rfl⟩
      rw [hq] at HE ⊢
      clear hq hX8 hXw7
      cases q
      ·have HE2 : Hid (mergeL K a b = acc ++ mergeF K n' ((x1, y1, s1) :: a') (b')) := by unfold Hid; rw [HE.out]; simp
       go_wp2
       go_roundw
       case rel => exact ⟨n', (x1, y1, s1) :: a', b', acc, hA8, hB8, by simp at hn ⊢; omega, by omega, HE2, by omega, hO8, hbw8⟩
       case measure => simp only [hL2, lenOf_sl]; omega
      ·have HE2 : Hid (mergeL K a b = (acc ++ [(x2, y2, s2)]) ++ mergeF K n' ((x1, y1, s1) :: a') (b')) := by unfold Hid; rw [HE.out]; simp
       go_wp2_with (at_builtin; refine wpList_appB1 hO8 rfl _ _ rfl rfl rfl (by simp) (by omega) hbw8.size ?_; intro v9 w9 hown9 hgr9)
       have hb9 := own_step hO8 hgr9 (by (repeat first|exact J0|assumption|(apply J1;assumption)|apply J2|apply J3|apply J4))
       clear hgr9
       go_wp2
       go_roundw
       case rel => exact ⟨n', (x1, y1, s1) :: a', b', _, hA8, hB8, by simp at hn ⊢; omega, by omega, HE2, by simp; omega, hown9, hb9⟩
       case measure => simp only [hL2, lenOf_sl]; omega
theorem put1_any {va vb : Value} (K : Bool → Bool → Bool) (g : Nat) (hg3 : Hid (g = 168)) (hg : ∀ o t W, Calls Tryz.prog g #[.bool o, .bool t] W (RV W (.bool (K o t)))) (a b : List Bar) (w : World) (ha : SlB w va a) (hb : SlB w vb b) :
    Calls Tryz.prog 80 #[va, vb, .func (.func g) #[] #[]] w (RBE w (putL K a b) (putE K a b)) := by
  have hF : ∀ A c W, Rd ic 1 W A [netE a, netE b] → Calls Tryz.prog 76 #[.slice A 2 c] W (RV W (.int .i64 (twoE a b))) := fun A c W hr => nfirst_any [netE a, netE b] A c W (by simp [maxLen]) hr
  by_cases hE : twoE a b = 0
  · obtain ⟨h1, h2⟩ := firstI_zero hE
    have hok1 := netE_ok h1
    have hok2 := netE_ok h2
    rw [hE] at hF
    have HE := Lib.hid hE
    clear hE
    by_cases hL : 4096 < (mergeL K a b).length
    · have HP : Hid (putL K a b = [] ∧ putE K a b = 5) := by
        have hp : putE K a b = 5 := by unfold putE; rw [if_neg (by rw [HE.out]; simp), if_pos hL]
        unfold Hid putL
        rw [hp]
        exact ⟨rfl, rfl⟩
      have hL' : (4096 < ((mergeL K a b).length : Int)) = True := eq_true (by omega)
      clear hL
      go_enter Tryz.func80, Tryz.ntmps80
      go_wp2_with fail
      refine (nnet_sl a _ ha).mono ?_
      rintro e w1 ⟨rfl, hb1⟩
      go_wp2_with fail
      refine (nnet_sl b _ (hb.below hb1)).mono ?_
      rintro e w2 ⟨rfl, hb2⟩
      go_wp2_with fail
      go_must (refine (hF _ _ _ (Rd.ints2 (by simp) (by go_simp) (by go_simp))).mono ?_)
      rintro e w3 ⟨rfl, hb3⟩
      have hb03 : Below w.heap.size w w3 := by (repeat first|exact J0|assumption|(apply J1;assumption)|apply J2|apply J3|apply J4)
      go_wp2_with fail
      refine (merged1_any K g hg3 hg a b _ (ha.below hb03) (hb.below hb03) hok1.len1 hok2.len1).mono ?_
      rintro e w4 ⟨v4, rfl, hO4, hb4⟩
      obtain ⟨A4, c4, rfl⟩ := hO4.shape
      go_wp2
      go_ret2
      exact ⟨_, by rw [HP.out.2]; rfl, by rw [HP.out.1]; exact Own.nil_, by (repeat first|exact J0|assumption|(apply J1;assumption)|apply J2|apply J3|apply J4)⟩
    · have HP : Hid (putL K a b = mergeL K a b ∧ putE K a b = 0) := by
        have : putE K a b = 0 := by unfold putE; rw [if_neg (by rw [HE.out]; simp), if_neg hL]
        unfold Hid putL
        rw [if_pos this]
        exact ⟨rfl, this⟩
      have hL' : (4096 < ((mergeL K a b).length : Int)) = False := eq_false (by omega)
      clear hL
      go_enter Tryz.func80, Tryz.ntmps80
      go_wp2_with fail
      refine (nnet_sl a _ ha).mono ?_
      rintro e w1 ⟨rfl, hb1⟩
      go_wp2_with fail
      refine (nnet_sl b _ (hb.below hb1)).mono ?_
      rintro e w2 ⟨rfl, hb2⟩
      go_wp2_with fail
      go_must (refine (hF _ _ _ (Rd.ints2 (by simp) (by go_simp) (by go_simp))).mono ?_)
      rintro e w3 ⟨rfl, hb3⟩
      have hb03 : Below w.heap.size w w3 := by (repeat first|exact J0|assumption|(apply J1;assumption)|apply J2|apply J3|apply J4)
      go_wp2_with fail
      refine (merged1_any K g hg3 hg a b _ (ha.below hb03) (hb.below hb03) hok1.len1 hok2.len1).mono ?_
      rintro e w4 ⟨v4, rfl, hO4, hb4⟩
      obtain ⟨A4, c4, rfl⟩ := hO4.shape
      go_wp2
      go_ret2
      exact ⟨_, by rw [HP.out.2]; rfl, by rw [HP.out.1]; exact hO4.base_mono hb03.size, by (repeat first|exact J0|assumption|(apply J1;assumption)|apply J2|apply J3|apply J4)⟩
  · have hE' : (twoE a b != 0) = true := by simpa using hE
    have HP : Hid (putL K a b = [] ∧ putE K a b = twoE a b) := by
      have : putE K a b = twoE a b := by unfold putE; rw [if_pos hE]
      unfold Hid putL
      rw [this, if_neg hE]
      exact ⟨rfl, rfl⟩
    clear hE
    go_enter Tryz.func80, Tryz.ntmps80
    go_wp2_with fail
    refine (nnet_sl a _ ha).mono ?_
    rintro e w1 ⟨rfl, hb1⟩
    go_wp2_with fail
    refine (nnet_sl b _ (hb.below hb1)).mono ?_
    rintro e w2 ⟨rfl, hb2⟩
    go_wp2_with fail
    go_must (refine (hF _ _ _ (Rd.ints2 (by simp) (by go_simp) (by go_simp))).mono ?_)
    rintro e w3 ⟨rfl, hb3⟩
    go_wp2
    go_ret2
    exact ⟨_, by rw [HP.out.2]; rfl, by rw [HP.out.1]; exact Own.nil_, by (repeat first|exact J0|assumption|(apply J1;assumption)|apply J2|apply J3|apply J4)⟩
theorem apiMinus1_any {va vb : Value} (a b : List Bar) (w : World) (ha : SlB w va a) (hb : SlB w vb b) : Calls Tryz.prog 112 #[va, vb] w (RBE w (putL minusK a b) (putE minusK a b)) := by
 go_enter Tryz.func112, Tryz.ntmps112
 go_wp2_with fail
 refine (put1_any minusK _ (Lib.hid rfl) minusK_any a b _ ha hb).mono ?_
 rintro e w1 ⟨v1, rfl, hO1, hb1⟩
 go_wp2
 go_ret2
 exact ⟨_, rfl, hO1, hb1⟩
end Go.Proofs.YtkkefahobjlagaaGreatDoor

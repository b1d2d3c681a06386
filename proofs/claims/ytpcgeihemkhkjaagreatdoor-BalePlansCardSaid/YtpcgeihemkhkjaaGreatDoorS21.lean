/- Nets merged by Minus, walked. Conditions: none. -/
import Derived.Test.YtpcgeihemkhkjaaGreatDoorS20
import Derived.Test.YtpcgeihemkhkjaaGreatDoorS09
import Derived.Test.YtpcgeihemkhkjaaGreatDoorS14
import Derived.Test.YtpcgeihemkhkjaaGreatDoorS15
import Derived.Test.YtpcgeihemkhkjaaGreatDoorS12
import Derived.Deep.CutRange
namespace Go.Proofs.YtpcgeihemkhkjaaGreatDoor
open Go.RowKit Go.ChangeMaps
set_option maxHeartbeats 4000000
set_option maxRecDepth 100000
attribute [local go_sem] Oper.semAt_some
theorem Zgj {va vb : Value} (K : Bool → Bool → Bool) (g : Nat) (hg3 : Hid (g = 149)) (hg : ∀ o t W, Calls Tryz.prog g #[.bool o, .bool t] W (RV W (.bool (K o t)))) (a b : List Bar) (w : World) (ha : SlB w va a) (hb : SlB w vb b) (hla : a.length ≤ 10000) (hlb : b.length ≤ 10000) :
  Calls Tryz.prog 157 #[va, vb, .func (.func 158) #[] #[], .func (.func g) #[] #[]] w (RB w (Z9h K a b)) := by
 go_enter Tryz.func157, Tryz.ntmps157
 go_wp2
 go_loopw [0, 1, 9] (fun s t o wr => ∃ (n : Nat) (a' b' acc : List Bar), SlB w s a' ∧ SlB w t b' ∧ a'.length + b'.length ≤ n ∧ n ≤ 20000 ∧ Hid (Z9h K a b = acc ++ Z9g K n a' b') ∧ acc.length + n ≤ 20000 ∧ OwB w.heap.size wr o acc ∧ Below w.heap.size w wr) (fun s t _ _ => (Z9d s) + (Z9d t))
 case atStart => exact ⟨a.length + b.length, a, b, [], ha, hb, Nat.le_refl _, by omega, by unfold Hid Z9h; simp, by simp; omega, Own.nil_, Z03⟩
 case round =>
  obtain ⟨n, a', b', acc, hA, hB, hn, hn2, H, hacc, hO, hbw⟩ := hrel; obtain ⟨wo, rfl⟩ : ∃ x, x = wr := ⟨_, rfl⟩
  obtain ⟨A, c, rfl, hlc, hcm, hrA⟩ := id hA
  obtain ⟨A2, c2, rfl, hlc2, hcm2, hrB⟩ := id hB
  have hrA0 := hrA.below hbw
  have hrB0 := hrB.below hbw
  cases a' with
  | nil =>
   cases b' with
   | nil =>
    have HE : Hid (Z9h K a b = acc) := by unfold Hid; rw [H.out]; cases n <;> simp [Z9g]
    go_wp2; go_ret; exact ⟨_, rfl, by rw [HE.out]; exact hO, hbw⟩
   | cons y b' =>
    obtain ⟨⟨x2, y2, s2⟩, rfl⟩ : ∃ z, z = y := ⟨_, rfl⟩
    obtain ⟨b2, off2, rfl, hbb2, d20, d21, d22⟩ := hrB0.bar (show 0 < ((x2, y2, s2) :: b').length by simp)
    simp only [List.getElem_cons_zero, Nat.zero_mul, Nat.add_zero] at d20 d21 d22; obtain ⟨n', rfl⟩ : ∃ n', n = n' + 1 := ⟨n - 1, by simp at hn; omega⟩
    have HE : Hid (Z9h K a b = acc ++ ((if K false true then [(x2, y2, s2)] else []) ++ Z9g K n' [] b')) := H
    obtain ⟨m, hml⟩ : ∃ m, ((x2, y2, s2) :: b').length = m := ⟨_, rfl⟩
    have hmb : b'.length + 1 = m := by simpa using hml
    have hmz : ((m : Int) == 0) = false := by simp; omega
    have hmp : (0 < (m : Int)) = True := by simp; omega
    rw [hml] at hlc2 ⊢; simp only [List.length_nil] at hA ⊢; go_upto_region 13 with fail; have hX := (Blk.new wo 111 #[.int .i64 0, .int .i64 0, .int .i64 0]).drew
    refine Z0y (wo.heap.size) [0, 1, 2, 3, 4] [(5, false)] [6] (by kernel_rfl) (by kernel_rfl) (fun d _ _ _ _ h => by cases d <;> exact h) ?_
    simp only [List.map_cons, List.map_nil, List.getD_cons_zero, List.getD_cons_succ]; repeat (go_big_quiet_step (fail))
    refine wpQuiet_nil ?_; refine Z11 rfl (fun K hK => ?_); refine Z9e hX _ _ _ rfl rfl rfl rfl (by kernel_rfl) (by kernel_rfl) ?_
    intro w7 hXw7 hcw7; have hbw7 : Below wo.heap.size wo w7 := Z9f (by (repeat first|exact J0|assumption|(apply J1;assumption)|apply J2|apply J3|apply J4)) hcw7 (Nat.le_refl _)
    refine hK _ _ (((Chg.of_below (S := [wo.heap.size]) (Z05 Z03)).trans hcw7).below (by simp) (by first | (simp; done) | (have := Below.size (show Below wo.heap.size wo wo by (repeat first|exact J0|assumption|(apply J1;assumption)|apply J2|apply J3|apply J4)); omega))) ?_
    clear hK K hX; refine Z10 ?_; obtain ⟨vt2, hvt2⟩ : ∃ X, Value.slice (if c2 = 1 then some ⟨b2, off2, none⟩ else some ⟨b2, off2 + 3, none⟩) (m - 1) (c2 - 1) = X := ⟨_, rfl⟩
    have hT2 := Z9j hrB hml hlc2 hcm2
    have hL2 : Z9d vt2 = m - 1 := by rw [← hvt2]; rfl
    rw [hvt2] at hT2 ⊢; clear hvt2; go_upto_region 14 with fail; go_cut [53] from 12 to 57 (fun s wx => s = .bool (K false true) ∧ Below w7.heap.size w7 wx)
    case first =>
     clear H HE; obtain rfl := hg3.out
     all_goals
      go_wp2_with fail; refine (hg _ _ _).mono ?_
      rintro e w8 ⟨rfl, hb8⟩; go_wp2_with fail; go_meet; case rel => exact ⟨rfl, by (repeat first|exact J0|assumption|(apply J1;assumption)|apply J2|apply J3|apply J4)⟩
    obtain ⟨rfl, hb8⟩ := hcut; obtain ⟨w8, rfl⟩ : ∃ x, x = wc := ⟨_, rfl⟩
    have hX8 := hXw7.below hb8
    have fX8 := hX8.facts
    have hb80 : Below wo.heap.size wo w8 := by (repeat first|exact J0|assumption|(apply J1;assumption)|apply J2|apply J3|apply J4)
    have hA8 := hA
    have hB8 := hT2
    have hO8 := hO.below hb80
    have hbw8 := Z08 hb80 hbw
    obtain ⟨q, hq⟩ : ∃ q, K false true = q := ⟨_, rfl⟩
    rw [hq] at HE ⊢; clear hq hX8 hXw7; cases q
    ·have HE2 : Hid (Z9h K a b = acc ++ Z9g K n' ([]) (b')) := by unfold Hid; rw [HE.out]; simp
     go_wp2; go_roundw; case rel => exact ⟨n', [], b', acc, hA8, hB8, by simp at hn ⊢; omega, by omega, HE2, by omega, hO8, hbw8⟩
     case measure => simp only [hL2, Z9i]; omega
    ·have HE2 : Hid (Z9h K a b = (acc ++ [(x2, y2, s2)]) ++ Z9g K n' ([]) (b')) := by unfold Hid; rw [HE.out]; simp
     go_wp2_with (at_builtin; refine Z5p hO8 rfl _ _ rfl rfl rfl (by simp) (by omega) hbw8.size ?_; intro v9 w9 hown9 hgr9)
     have hb9 := Z41 hO8 hgr9 (by (repeat first|exact J0|assumption|(apply J1;assumption)|apply J2|apply J3|apply J4))
     clear hgr9; go_wp2; go_roundw; case rel => exact ⟨n', [], b', _, hA8, hB8, by simp at hn ⊢; omega, by omega, HE2, by simp; omega, hown9, hb9⟩
     case measure => simp only [hL2, Z9i]; omega
  | cons x a' =>
   obtain ⟨⟨x1, y1, s1⟩, rfl⟩ : ∃ z, z = x := ⟨_, rfl⟩
   obtain ⟨b1, off1, rfl, hbb1, d10, d11, d12⟩ := hrA0.bar (show 0 < ((x1, y1, s1) :: a').length by simp)
   simp only [List.getElem_cons_zero, Nat.zero_mul, Nat.add_zero] at d10 d11 d12; obtain ⟨n', rfl⟩ : ∃ n', n = n' + 1 := ⟨n - 1, by simp at hn; omega⟩
   obtain ⟨m1, hml1⟩ : ∃ m, ((x1, y1, s1) :: a').length = m := ⟨_, rfl⟩
   have hma : a'.length + 1 = m1 := by simpa using hml1
   have hmz1 : ((m1 : Int) == 0) = false := by simp; omega
   have hmp1 : (0 < (m1 : Int)) = True := by simp; omega
   rw [hml1] at hlc hA ⊢; cases b' with
   | nil =>
    have HE : Hid (Z9h K a b = acc ++ ((if K true false then [(x1, y1, s1)] else []) ++ Z9g K n' a' [])) := H
    simp only [List.length_nil] at hB ⊢; go_upto_region 11 with fail; have hX := (Blk.new wo 111 #[.int .i64 0, .int .i64 0, .int .i64 0]).drew
    refine Z0y (wo.heap.size) [0, 1, 2, 3, 4] [(5, false)] [6] (by kernel_rfl) (by kernel_rfl) (fun d _ _ _ _ h => by cases d <;> exact h) ?_
    simp only [List.map_cons, List.map_nil, List.getD_cons_zero, List.getD_cons_succ]; repeat (go_big_quiet_step (fail))
    refine wpQuiet_nil ?_; refine Z11 rfl (fun K hK => ?_); refine Z9e hX _ _ _ rfl rfl rfl rfl (by kernel_rfl) (by kernel_rfl) ?_
    intro w7 hXw7 hcw7; have hbw7 : Below wo.heap.size wo w7 := Z9f (by (repeat first|exact J0|assumption|(apply J1;assumption)|apply J2|apply J3|apply J4)) hcw7 (Nat.le_refl _)
    refine hK _ _ (((Chg.of_below (S := [wo.heap.size]) (Z05 Z03)).trans hcw7).below (by simp) (by first | (simp; done) | (have := Below.size (show Below wo.heap.size wo wo by (repeat first|exact J0|assumption|(apply J1;assumption)|apply J2|apply J3|apply J4)); omega))) ?_
    clear hK K hX; refine Z10 ?_; obtain ⟨vt1, hvt1⟩ : ∃ X, Value.slice (if c = 1 then some ⟨b1, off1, none⟩ else some ⟨b1, off1 + 3, none⟩) (m1 - 1) (c - 1) = X := ⟨_, rfl⟩
    have hT1 := Z9j hrA hml1 hlc hcm
    have hL1 : Z9d vt1 = m1 - 1 := by rw [← hvt1]; rfl
    rw [hvt1] at hT1 ⊢; clear hvt1; go_upto_region 14 with fail; go_cut [53] from 12 to 57 (fun s wx => s = .bool (K true false) ∧ Below w7.heap.size w7 wx)
    case first =>
     clear H HE; obtain rfl := hg3.out
     all_goals
      go_wp2_with fail; refine (hg _ _ _).mono ?_
      rintro e w8 ⟨rfl, hb8⟩; go_wp2_with fail; go_meet; case rel => exact ⟨rfl, by (repeat first|exact J0|assumption|(apply J1;assumption)|apply J2|apply J3|apply J4)⟩
    obtain ⟨rfl, hb8⟩ := hcut; obtain ⟨w8, rfl⟩ : ∃ x, x = wc := ⟨_, rfl⟩
    have hX8 := hXw7.below hb8
    have fX8 := hX8.facts
    have hb80 : Below wo.heap.size wo w8 := by (repeat first|exact J0|assumption|(apply J1;assumption)|apply J2|apply J3|apply J4)
    have hA8 := hT1
    have hB8 := hB
    have hO8 := hO.below hb80
    have hbw8 := Z08 hb80 hbw
    obtain ⟨q, hq⟩ : ∃ q, K true false = q := ⟨_, rfl⟩
    rw [hq] at HE ⊢; clear hq hX8 hXw7; cases q
    ·have HE2 : Hid (Z9h K a b = acc ++ Z9g K n' (a') ([])) := by unfold Hid; rw [HE.out]; simp
     go_wp2; go_roundw; case rel => exact ⟨n', a', [], acc, hA8, hB8, by simp at hn ⊢; omega, by omega, HE2, by omega, hO8, hbw8⟩
     case measure => simp only [hL1, Z9i]; omega
    ·have HE2 : Hid (Z9h K a b = (acc ++ [(x1, y1, s1)]) ++ Z9g K n' (a') ([])) := by unfold Hid; rw [HE.out]; simp
     go_wp2_with (at_builtin; refine Z5p hO8 rfl _ _ rfl rfl rfl (by simp) (by omega) hbw8.size ?_; intro v9 w9 hown9 hgr9)
     have hb9 := Z41 hO8 hgr9 (by (repeat first|exact J0|assumption|(apply J1;assumption)|apply J2|apply J3|apply J4))
     clear hgr9; go_wp2; go_roundw; case rel => exact ⟨n', a', [], _, hA8, hB8, by simp at hn ⊢; omega, by omega, HE2, by simp; omega, hown9, hb9⟩
     case measure => simp only [hL1, Z9i]; omega
   | cons y b' =>
    obtain ⟨⟨x2, y2, s2⟩, rfl⟩ : ∃ z, z = y := ⟨_, rfl⟩
    obtain ⟨b2, off2, rfl, hbb2, d20, d21, d22⟩ := hrB0.bar (show 0 < ((x2, y2, s2) :: b').length by simp)
    simp only [List.getElem_cons_zero, Nat.zero_mul, Nat.add_zero] at d20 d21 d22; obtain ⟨m2, hml2⟩ : ∃ m, ((x2, y2, s2) :: b').length = m := ⟨_, rfl⟩
    have hmb : b'.length + 1 = m2 := by simpa using hml2
    have hmz2 : ((m2 : Int) == 0) = false := by simp; omega
    have hmp2 : (0 < (m1 : Int) + (m2 : Int)) = True := by simp; omega
    rw [hml2] at hlc2 hB ⊢; obtain ⟨cv, hcv⟩ : ∃ q, Z1t x1 y1 s1 x2 y2 s2 = q := ⟨_, rfl⟩
    have hc := fun W => Z26 x1 y1 s1 x2 y2 s2 W
    have hneg := Z9c (x1, y1, s1) (x2, y2, s2)
    have hzer := Z9b (x1, y1, s1) (x2, y2, s2)
    simp only at hneg hzer
    rw [hcv] at hc hneg hzer; have HNZ := Lib.hid (And.intro hneg hzer)
    clear hneg hzer hcv; by_cases hlt : cv < 0
    ·have hbl := HNZ.out.1.1 hlt
     have HE : Hid (Z9h K a b = acc ++ ((if K true false then [(x1, y1, s1)] else []) ++ Z9g K n' a' ((x2, y2, s2) :: b'))) := by
      unfold Hid; rw [H.out]; simp only [Z9g]; rw [if_pos hbl]
     have t1 : (cv ≤ 0) = True := eq_true (by omega)
     have t2 : (0 ≤ cv) = False := eq_false (by omega)
     clear hbl hlt; go_upto_region 4 with fail; refine Z0z [0, 1, 2, 3, 4, 5, 6] [] [7, 8] (by kernel_rfl) (by kernel_rfl) (fun d _ _ _ _ h => by cases d <;> exact h) ?_
     simp only [List.map_cons, List.map_nil, List.getD_cons_zero, List.getD_cons_succ]; repeat (go_big_quiet_step (fail))
     refine wpQuiet_nil ?_; refine Z10 ?_; go_wp2_with fail; refine (hc _).mono ?_
     rintro e w4 ⟨rfl, hb4⟩; have hbc : Below wo.heap.size wo w4 := by (repeat first|exact J0|assumption|(apply J1;assumption)|apply J2|apply J3|apply J4)
     have hrA4 := hrA0.below hbc
     have hrB4 := hrB0.below hbc
     clear hbb1 hbb2 d10 d11 d12 d20 d21 d22 hc hb4; obtain ⟨hbb1, d10, d11, d12⟩ := hrA4.barAt (show 0 < ((x1, y1, s1) :: a').length by simp)
     obtain ⟨hbb2, d20, d21, d22⟩ := hrB4.barAt (show 0 < ((x2, y2, s2) :: b').length by simp)
     simp only [List.getElem_cons_zero, Nat.zero_mul, Nat.add_zero] at d10 d11 d12 d20 d21 d22; go_upto_region 11 with fail; have hX := (Blk.new w4 111 #[.int .i64 0, .int .i64 0, .int .i64 0]).drew
     refine Z0y (w4.heap.size) [0, 1, 2, 3, 4] [(5, false)] [6] (by kernel_rfl) (by kernel_rfl) (fun d _ _ _ _ h => by cases d <;> exact h) ?_
     simp only [List.map_cons, List.map_nil, List.getD_cons_zero, List.getD_cons_succ]; repeat (go_big_quiet_step (fail))
     refine wpQuiet_nil ?_; refine Z11 rfl (fun K hK => ?_); refine Z9e hX _ _ _ rfl rfl rfl rfl (by kernel_rfl) (by kernel_rfl) ?_
     intro w7 hXw7 hcw7; have hbw7 : Below w4.heap.size w4 w7 := Z9f (by (repeat first|exact J0|assumption|(apply J1;assumption)|apply J2|apply J3|apply J4)) hcw7 (Nat.le_refl _)
     refine hK _ _ (((Chg.of_below (S := [w4.heap.size]) (Z05 Z03)).trans hcw7).below (by simp) (by first | (simp; done) | (have := Below.size (show Below w4.heap.size w4 w4 by (repeat first|exact J0|assumption|(apply J1;assumption)|apply J2|apply J3|apply J4)); omega))) ?_
     clear hK K hX; refine Z10 ?_; obtain ⟨vt1, hvt1⟩ : ∃ X, Value.slice (if c = 1 then some ⟨b1, off1, none⟩ else some ⟨b1, off1 + 3, none⟩) (m1 - 1) (c - 1) = X := ⟨_, rfl⟩
     have hT1 := Z9j hrA hml1 hlc hcm
     have hL1 : Z9d vt1 = m1 - 1 := by rw [← hvt1]; rfl
     rw [hvt1] at hT1 ⊢; clear hvt1; go_upto_region 14 with fail; go_cut [53] from 12 to 57 (fun s wx => s = .bool (K true false) ∧ Below w7.heap.size w7 wx)
     case first =>
      clear H HE; obtain rfl := hg3.out
      all_goals
       go_wp2_with fail; refine (hg _ _ _).mono ?_
       rintro e w8 ⟨rfl, hb8⟩; go_wp2_with fail; go_meet; case rel => exact ⟨rfl, by (repeat first|exact J0|assumption|(apply J1;assumption)|apply J2|apply J3|apply J4)⟩
     obtain ⟨rfl, hb8⟩ := hcut; obtain ⟨w8, rfl⟩ : ∃ x, x = wc := ⟨_, rfl⟩
     have hX8 := hXw7.below hb8
     have fX8 := hX8.facts
     have hb80 : Below wo.heap.size wo w8 := by (repeat first|exact J0|assumption|(apply J1;assumption)|apply J2|apply J3|apply J4)
     have hA8 := hT1
     have hB8 := hB
     have hO8 := hO.below hb80
     have hbw8 := Z08 hb80 hbw
     obtain ⟨q, hq⟩ : ∃ q, K true false = q := ⟨_, rfl⟩
     rw [hq] at HE ⊢; clear hq hX8 hXw7; cases q
     ·have HE2 : Hid (Z9h K a b = acc ++ Z9g K n' (a') ((x2, y2, s2) :: b')) := by unfold Hid; rw [HE.out]; simp
      go_wp2; go_roundw; case rel => exact ⟨n', a', (x2, y2, s2) :: b', acc, hA8, hB8, by simp at hn ⊢; omega, by omega, HE2, by omega, hO8, hbw8⟩
      case measure => simp only [hL1, Z9i]; omega
     ·have HE2 : Hid (Z9h K a b = (acc ++ [(x1, y1, s1)]) ++ Z9g K n' (a') ((x2, y2, s2) :: b')) := by unfold Hid; rw [HE.out]; simp
      go_wp2_with (at_builtin; refine Z5p hO8 rfl _ _ rfl rfl rfl (by simp) (by omega) hbw8.size ?_; intro v9 w9 hown9 hgr9)
      have hb9 := Z41 hO8 hgr9 (by (repeat first|exact J0|assumption|(apply J1;assumption)|apply J2|apply J3|apply J4))
      clear hgr9; go_wp2; go_roundw; case rel => exact ⟨n', a', (x2, y2, s2) :: b', _, hA8, hB8, by simp at hn ⊢; omega, by omega, HE2, by simp; omega, hown9, hb9⟩
      case measure => simp only [hL1, Z9i]; omega
    ·by_cases hez : cv = 0
     ·have hee := HNZ.out.2.1 hez
      have HE : Hid (Z9h K a b = acc ++ ((if K true true then [(x2, y2, s2)] else []) ++ Z9g K n' a' b')) := by
       unfold Hid; rw [H.out]; simp only [Z9g]; rw [if_neg (fun h => by rw [hee] at h; exact Z4r _ h), if_pos hee]
      have t1 : (cv ≤ 0) = True := eq_true (by omega)
      have t2 : (0 ≤ cv) = True := eq_true (by omega)
      clear hlt hez hee; go_upto_region 4 with fail; refine Z0z [0, 1, 2, 3, 4, 5, 6] [] [7, 8] (by kernel_rfl) (by kernel_rfl) (fun d _ _ _ _ h => by cases d <;> exact h) ?_
      simp only [List.map_cons, List.map_nil, List.getD_cons_zero, List.getD_cons_succ]; repeat (go_big_quiet_step (fail))
      refine wpQuiet_nil ?_; refine Z10 ?_; go_wp2_with fail; refine (hc _).mono ?_
      rintro e w4 ⟨rfl, hb4⟩; have hbc : Below wo.heap.size wo w4 := by (repeat first|exact J0|assumption|(apply J1;assumption)|apply J2|apply J3|apply J4)
      have hrA4 := hrA0.below hbc
      have hrB4 := hrB0.below hbc
      clear hbb1 hbb2 d10 d11 d12 d20 d21 d22 hc hb4; obtain ⟨hbb1, d10, d11, d12⟩ := hrA4.barAt (show 0 < ((x1, y1, s1) :: a').length by simp)
      obtain ⟨hbb2, d20, d21, d22⟩ := hrB4.barAt (show 0 < ((x2, y2, s2) :: b').length by simp)
      simp only [List.getElem_cons_zero, Nat.zero_mul, Nat.add_zero] at d10 d11 d12 d20 d21 d22; go_upto_region 11 with fail; have hX := (Blk.new w4 111 #[.int .i64 0, .int .i64 0, .int .i64 0]).drew
      refine Z0y (w4.heap.size) [0, 1, 2, 3, 4] [(5, false)] [6] (by kernel_rfl) (by kernel_rfl) (fun d _ _ _ _ h => by cases d <;> exact h) ?_
      simp only [List.map_cons, List.map_nil, List.getD_cons_zero, List.getD_cons_succ]; repeat (go_big_quiet_step (fail))
      refine wpQuiet_nil ?_; refine Z11 rfl (fun K hK => ?_); refine Z9e hX _ _ _ rfl rfl rfl rfl (by kernel_rfl) (by kernel_rfl) ?_
      intro w7 hXw7 hcw7; have hbw7 : Below w4.heap.size w4 w7 := Z9f (by (repeat first|exact J0|assumption|(apply J1;assumption)|apply J2|apply J3|apply J4)) hcw7 (Nat.le_refl _)
      refine hK _ _ (((Chg.of_below (S := [w4.heap.size]) (Z05 Z03)).trans hcw7).below (by simp) (by first | (simp; done) | (have := Below.size (show Below w4.heap.size w4 w4 by (repeat first|exact J0|assumption|(apply J1;assumption)|apply J2|apply J3|apply J4)); omega))) ?_
      clear hK K hX; refine Z10 ?_; obtain ⟨vt1, hvt1⟩ : ∃ X, Value.slice (if c = 1 then some ⟨b1, off1, none⟩ else some ⟨b1, off1 + 3, none⟩) (m1 - 1) (c - 1) = X := ⟨_, rfl⟩
      have hT1 := Z9j hrA hml1 hlc hcm
      have hL1 : Z9d vt1 = m1 - 1 := by rw [← hvt1]; rfl
      rw [hvt1] at hT1 ⊢; clear hvt1; have hrB7 := hrB4.below hbw7
      obtain ⟨_, f20, f21, f22⟩ := hrB7.barAt (show 0 < ((x2, y2, s2) :: b').length by simp)
      simp only [List.getElem_cons_zero, Nat.zero_mul, Nat.add_zero] at f20 f21 f22; have hbb7 := Nat.lt_of_lt_of_le hbb2 (Below.size hbw7)
      go_upto_region 13 with fail; have hX := hXw7.drew
      refine Z0y (w4.heap.size) [0, 1, 2, 3, 4] [(5, false)] [6] (by kernel_rfl) (by kernel_rfl) (fun d _ _ _ _ h => by cases d <;> exact h) ?_
      simp only [List.map_cons, List.map_nil, List.getD_cons_zero, List.getD_cons_succ]; repeat (go_big_quiet_step (fail))
      refine wpQuiet_nil ?_; refine Z11 rfl (fun K hK => ?_); refine Z9e hX _ _ _ rfl rfl rfl rfl (by kernel_rfl) (by kernel_rfl) ?_
      intro w9 hXw9 hcw9; have hbw9 : Below w4.heap.size w4 w9 := Z9f (by (repeat first|exact J0|assumption|(apply J1;assumption)|apply J2|apply J3|apply J4)) hcw9 (Nat.le_refl _)
      refine hK _ _ (((Chg.of_below (S := [w4.heap.size]) (Z05 Z03)).trans hcw9).below (by simp) (by first | (simp; done) | (have := Below.size (show Below w4.heap.size w4 w7 by (repeat first|exact J0|assumption|(apply J1;assumption)|apply J2|apply J3|apply J4)); omega))) ?_
      clear hK K hX; refine Z10 ?_; obtain ⟨vt2, hvt2⟩ : ∃ X, Value.slice (if c2 = 1 then some ⟨b2, off2, none⟩ else some ⟨b2, off2 + 3, none⟩) (m2 - 1) (c2 - 1) = X := ⟨_, rfl⟩
      have hT2 := Z9j hrB hml2 hlc2 hcm2
      have hL2 : Z9d vt2 = m2 - 1 := by rw [← hvt2]; rfl
      rw [hvt2] at hT2 ⊢; clear hvt2; go_upto_region 14 with fail; go_cut [53] from 12 to 57 (fun s wx => s = .bool (K true true) ∧ Below w9.heap.size w9 wx)
      case first =>
       clear H HE; obtain rfl := hg3.out
       all_goals
        go_wp2_with fail; refine (hg _ _ _).mono ?_
        rintro e w8 ⟨rfl, hb8⟩; go_wp2_with fail; go_meet; case rel => exact ⟨rfl, by (repeat first|exact J0|assumption|(apply J1;assumption)|apply J2|apply J3|apply J4)⟩
      obtain ⟨rfl, hb8⟩ := hcut; obtain ⟨w8, rfl⟩ : ∃ x, x = wc := ⟨_, rfl⟩
      have hX8 := hXw9.below hb8
      have fX8 := hX8.facts
      have hb80 : Below wo.heap.size wo w8 := by (repeat first|exact J0|assumption|(apply J1;assumption)|apply J2|apply J3|apply J4)
      have hA8 := hT1
      have hB8 := hT2
      have hO8 := hO.below hb80
      have hbw8 := Z08 hb80 hbw
      obtain ⟨q, hq⟩ : ∃ q, K true true = q := ⟨_, rfl⟩
      rw [hq] at HE ⊢; clear hq hX8 hXw9; cases q
      ·have HE2 : Hid (Z9h K a b = acc ++ Z9g K n' (a') (b')) := by unfold Hid; rw [HE.out]; simp
       go_wp2; go_roundw; case rel => exact ⟨n', a', b', acc, hA8, hB8, by simp at hn ⊢; omega, by omega, HE2, by omega, hO8, hbw8⟩
       case measure => simp only [hL1, hL2, Z9i]; omega
      ·have HE2 : Hid (Z9h K a b = (acc ++ [(x2, y2, s2)]) ++ Z9g K n' (a') (b')) := by unfold Hid; rw [HE.out]; simp
       go_wp2_with (at_builtin; refine Z5p hO8 rfl _ _ rfl rfl rfl (by simp) (by omega) hbw8.size ?_; intro v9 w9 hown9 hgr9)
       have hb9 := Z41 hO8 hgr9 (by (repeat first|exact J0|assumption|(apply J1;assumption)|apply J2|apply J3|apply J4))
       clear hgr9; go_wp2; go_roundw; case rel => exact ⟨n', a', b', _, hA8, hB8, by simp at hn ⊢; omega, by omega, HE2, by simp; omega, hown9, hb9⟩
       case measure => simp only [hL1, hL2, Z9i]; omega
     ·have hpos : 0 < cv := by omega
      have hnb : ¬ bltP (x1, y1, s1) (x2, y2, s2) := fun h => hlt (HNZ.out.1.2 h)
      have hne : ¬ (x1, y1, s1) = (x2, y2, s2) := fun h => hez (HNZ.out.2.2 h)
      have HE : Hid (Z9h K a b = acc ++ ((if K false true then [(x2, y2, s2)] else []) ++ Z9g K n' ((x1, y1, s1) :: a') b')) := by
       unfold Hid; rw [H.out]; simp only [Z9g]; rw [if_neg hnb, if_neg hne]
      have t1 : (cv ≤ 0) = False := eq_false (by omega)
      have t2 : (0 ≤ cv) = True := eq_true (by omega)
      clear hlt hez hpos hnb hne; go_upto_region 4 with fail; refine Z0z [0, 1, 2, 3, 4, 5, 6] [] [7, 8] (by kernel_rfl) (by kernel_rfl) (fun d _ _ _ _ h => by cases d <;> exact h) ?_
      simp only [List.map_cons, List.map_nil, List.getD_cons_zero, List.getD_cons_succ]; repeat (go_big_quiet_step (fail))
      refine wpQuiet_nil ?_; refine Z10 ?_; go_wp2_with fail; refine (hc _).mono ?_
      rintro e w4 ⟨rfl, hb4⟩; have hbc : Below wo.heap.size wo w4 := by (repeat first|exact J0|assumption|(apply J1;assumption)|apply J2|apply J3|apply J4)
      have hrA4 := hrA0.below hbc
      have hrB4 := hrB0.below hbc
      clear hbb1 hbb2 d10 d11 d12 d20 d21 d22 hc hb4; obtain ⟨hbb1, d10, d11, d12⟩ := hrA4.barAt (show 0 < ((x1, y1, s1) :: a').length by simp)
      obtain ⟨hbb2, d20, d21, d22⟩ := hrB4.barAt (show 0 < ((x2, y2, s2) :: b').length by simp)
      simp only [List.getElem_cons_zero, Nat.zero_mul, Nat.add_zero] at d10 d11 d12 d20 d21 d22; go_upto_region 13 with fail; have hX := (Blk.new w4 111 #[.int .i64 0, .int .i64 0, .int .i64 0]).drew
      refine Z0y (w4.heap.size) [0, 1, 2, 3, 4] [(5, false)] [6] (by kernel_rfl) (by kernel_rfl) (fun d _ _ _ _ h => by cases d <;> exact h) ?_
      simp only [List.map_cons, List.map_nil, List.getD_cons_zero, List.getD_cons_succ]; repeat (go_big_quiet_step (fail))
      refine wpQuiet_nil ?_; refine Z11 rfl (fun K hK => ?_); refine Z9e hX _ _ _ rfl rfl rfl rfl (by kernel_rfl) (by kernel_rfl) ?_
      intro w7 hXw7 hcw7; have hbw7 : Below w4.heap.size w4 w7 := Z9f (by (repeat first|exact J0|assumption|(apply J1;assumption)|apply J2|apply J3|apply J4)) hcw7 (Nat.le_refl _)
      refine hK _ _ (((Chg.of_below (S := [w4.heap.size]) (Z05 Z03)).trans hcw7).below (by simp) (by first | (simp; done) | (have := Below.size (show Below w4.heap.size w4 w4 by (repeat first|exact J0|assumption|(apply J1;assumption)|apply J2|apply J3|apply J4)); omega))) ?_
      clear hK K hX; refine Z10 ?_; obtain ⟨vt2, hvt2⟩ : ∃ X, Value.slice (if c2 = 1 then some ⟨b2, off2, none⟩ else some ⟨b2, off2 + 3, none⟩) (m2 - 1) (c2 - 1) = X := ⟨_, rfl⟩
      have hT2 := Z9j hrB hml2 hlc2 hcm2
      have hL2 : Z9d vt2 = m2 - 1 := by rw [← hvt2]; rfl
      rw [hvt2] at hT2 ⊢; clear hvt2; go_upto_region 14 with fail; go_cut [53] from 12 to 57 (fun s wx => s = .bool (K false true) ∧ Below w7.heap.size w7 wx)
      case first =>
       clear H HE; obtain rfl := hg3.out
       all_goals
        go_wp2_with fail; refine (hg _ _ _).mono ?_
        rintro e w8 ⟨rfl, hb8⟩; go_wp2_with fail; go_meet; case rel => exact ⟨rfl, by (repeat first|exact J0|assumption|(apply J1;assumption)|apply J2|apply J3|apply J4)⟩
      obtain ⟨rfl, hb8⟩ := hcut; obtain ⟨w8, rfl⟩ : ∃ x, x = wc := ⟨_, rfl⟩
      have hX8 := hXw7.below hb8
      have fX8 := hX8.facts
      have hb80 : Below wo.heap.size wo w8 := by (repeat first|exact J0|assumption|(apply J1;assumption)|apply J2|apply J3|apply J4)
      have hA8 := hA
      have hB8 := hT2
      have hO8 := hO.below hb80
      have hbw8 := Z08 hb80 hbw
      obtain ⟨q, hq⟩ : ∃ q, K false true = q := ⟨_, rfl⟩
      rw [hq] at HE ⊢; clear hq hX8 hXw7; cases q
      ·have HE2 : Hid (Z9h K a b = acc ++ Z9g K n' ((x1, y1, s1) :: a') (b')) := by unfold Hid; rw [HE.out]; simp
       go_wp2; go_roundw; case rel => exact ⟨n', (x1, y1, s1) :: a', b', acc, hA8, hB8, by simp at hn ⊢; omega, by omega, HE2, by omega, hO8, hbw8⟩
       case measure => simp only [hL2, Z9i]; omega
      ·have HE2 : Hid (Z9h K a b = (acc ++ [(x2, y2, s2)]) ++ Z9g K n' ((x1, y1, s1) :: a') (b')) := by unfold Hid; rw [HE.out]; simp
       go_wp2_with (at_builtin; refine Z5p hO8 rfl _ _ rfl rfl rfl (by simp) (by omega) hbw8.size ?_; intro v9 w9 hown9 hgr9)
       have hb9 := Z41 hO8 hgr9 (by (repeat first|exact J0|assumption|(apply J1;assumption)|apply J2|apply J3|apply J4))
       clear hgr9; go_wp2; go_roundw; case rel => exact ⟨n', (x1, y1, s1) :: a', b', _, hA8, hB8, by simp at hn ⊢; omega, by omega, HE2, by simp; omega, hown9, hb9⟩
       case measure => simp only [hL2, Z9i]; omega
theorem Zgk {va vb : Value} (K : Bool → Bool → Bool) (g : Nat) (hg3 : Hid (g = 149)) (hg : ∀ o t W, Calls Tryz.prog g #[.bool o, .bool t] W (RV W (.bool (K o t)))) (a b : List Bar) (w : World) (ha : SlB w va a) (hb : SlB w vb b) :
    Calls Tryz.prog 108 #[va, vb, .func (.func g) #[] #[]] w (RBE w (putL K a b) (putE K a b)) := by
  have hF : ∀ A c W, Rd ic 1 W A [netE a, netE b] → Calls Tryz.prog 99 #[.slice A 2 c] W (RV W (.int .i64 (twoE a b))) := fun A c W hr => Z1m [netE a, netE b] A c W (by simp [maxLen]) hr
  by_cases hE : twoE a b = 0
  · obtain ⟨h1, h2⟩ := Z9l hE
    have hok1 := Z4v h1
    have hok2 := Z4v h2
    rw [hE] at hF; have HE := Lib.hid hE
    clear hE; by_cases hL : 4096 < (Z9h K a b).length
    · have HP : Hid (putL K a b = [] ∧ putE K a b = 5) := by
        have hp : putE K a b = 5 := by unfold putE; rw [if_neg (by rw [HE.out]; simp), if_pos hL]
        unfold Hid putL; rw [hp]; exact ⟨rfl, rfl⟩
      have hL' : (4096 < ((Z9h K a b).length : Int)) = True := eq_true (by omega)
      clear hL; go_enter Tryz.func108, Tryz.ntmps108
      go_wp2_with fail; refine (Z5v a _ ha).mono ?_
      rintro e w1 ⟨rfl, hb1⟩; go_wp2_with fail; refine (Z5v b _ (hb.below hb1)).mono ?_
      rintro e w2 ⟨rfl, hb2⟩; go_wp2_with fail; go_must (refine (hF _ _ _ (Rd.ints2 (by simp) (by go_simp) (by go_simp))).mono ?_)
      rintro e w3 ⟨rfl, hb3⟩; have hb03 : Below w.heap.size w w3 := by (repeat first|exact J0|assumption|(apply J1;assumption)|apply J2|apply J3|apply J4)
      go_wp2_with fail; refine (Zgj K g hg3 hg a b _ (ha.below hb03) (hb.below hb03) hok1.len1 hok2.len1).mono ?_
      rintro e w4 ⟨v4, rfl, hO4, hb4⟩; obtain ⟨A4, c4, rfl⟩ := hO4.shape; go_wp2; go_ret2
      exact ⟨_, by rw [HP.out.2]; rfl, by rw [HP.out.1]; exact Own.nil_, by (repeat first|exact J0|assumption|(apply J1;assumption)|apply J2|apply J3|apply J4)⟩
    · have HP : Hid (putL K a b = Z9h K a b ∧ putE K a b = 0) := by
        have : putE K a b = 0 := by unfold putE; rw [if_neg (by rw [HE.out]; simp), if_neg hL]
        unfold Hid putL; rw [if_pos this]; exact ⟨rfl, this⟩
      have hL' : (4096 < ((Z9h K a b).length : Int)) = False := eq_false (by omega)
      clear hL; go_enter Tryz.func108, Tryz.ntmps108
      go_wp2_with fail; refine (Z5v a _ ha).mono ?_
      rintro e w1 ⟨rfl, hb1⟩; go_wp2_with fail; refine (Z5v b _ (hb.below hb1)).mono ?_
      rintro e w2 ⟨rfl, hb2⟩; go_wp2_with fail; go_must (refine (hF _ _ _ (Rd.ints2 (by simp) (by go_simp) (by go_simp))).mono ?_)
      rintro e w3 ⟨rfl, hb3⟩; have hb03 : Below w.heap.size w w3 := by (repeat first|exact J0|assumption|(apply J1;assumption)|apply J2|apply J3|apply J4)
      go_wp2_with fail; refine (Zgj K g hg3 hg a b _ (ha.below hb03) (hb.below hb03) hok1.len1 hok2.len1).mono ?_
      rintro e w4 ⟨v4, rfl, hO4, hb4⟩; obtain ⟨A4, c4, rfl⟩ := hO4.shape; go_wp2; go_ret2
      exact ⟨_, by rw [HP.out.2]; rfl, by rw [HP.out.1]; exact hO4.base_mono hb03.size, by (repeat first|exact J0|assumption|(apply J1;assumption)|apply J2|apply J3|apply J4)⟩
  · have hE' : (twoE a b != 0) = true := by simpa using hE
    have HP : Hid (putL K a b = [] ∧ putE K a b = twoE a b) := by
      have : putE K a b = twoE a b := by unfold putE; rw [if_pos hE]
      unfold Hid putL; rw [this, if_neg hE]; exact ⟨rfl, rfl⟩
    clear hE; go_enter Tryz.func108, Tryz.ntmps108
    go_wp2_with fail; refine (Z5v a _ ha).mono ?_
    rintro e w1 ⟨rfl, hb1⟩; go_wp2_with fail; refine (Z5v b _ (hb.below hb1)).mono ?_
    rintro e w2 ⟨rfl, hb2⟩; go_wp2_with fail; go_must (refine (hF _ _ _ (Rd.ints2 (by simp) (by go_simp) (by go_simp))).mono ?_)
    rintro e w3 ⟨rfl, hb3⟩; go_wp2; go_ret2
    exact ⟨_, by rw [HP.out.2]; rfl, by rw [HP.out.1]; exact Own.nil_, by (repeat first|exact J0|assumption|(apply J1;assumption)|apply J2|apply J3|apply J4)⟩
theorem Zgl {va vb : Value} (a b : List Bar) (w : World) (ha : SlB w va a) (hb : SlB w vb b) : Calls Tryz.prog 89 #[va, vb] w (RBE w (putL Z9m a b) (putE Z9m a b)) := by
 go_enter Tryz.func89, Tryz.ntmps89
 go_wp2_with fail
 refine (Zgk Z9m _ (Lib.hid rfl) Z9k a b _ ha hb).mono ?_
 rintro e w1 ⟨v1, rfl, hO1, hb1⟩
 go_wp2
 go_ret2
 exact ⟨_, rfl, hO1, hb1⟩
end Go.Proofs.YtpcgeihemkhkjaaGreatDoor
namespace Go.Proofs.YtpcgeihemkhkjaaGreatDoor
open Go.RowKit Go.ChangeMaps
set_option maxHeartbeats 4000000
set_option maxRecDepth 100000
theorem Own.ne_own {α β : Type} {enc : α → List Value} {enc' : β → List Value} {sz sz' base base' : Nat} {e e' : TypeId} {w : World} {v u : Value} {l : List α} {r : List β} (h : Own enc sz base e w v l) (h' : Own enc' sz' base' e' w u r) (hne : e ≠ e') : v.ownBlock = none ∨ v.ownBlock ≠ u.ownBlock := by
 rcases h.2 with ⟨rfl, _⟩ | ⟨g, cap, cur, rfl, _, hh, _⟩
 ·exact .inl rfl
 ·refine .inr fun e1 => ?_
  rcases h'.2 with ⟨rfl, _⟩ | ⟨g', cap', cur', rfl, _, hh', _⟩
  ·cases e1
  ·have : g = g' := by simpa [Value.ownBlock] using e1
   subst this; rw [hh] at hh'; cases hh'
   exact hne rfl
def RRE (w : World) (Ls : List (List Bar)) (n : Int) (e : Ending) (w' : World) : Prop := ∃ v, e = .returned (.tuple #[v, .int .i64 n]) ∧ OwRR w.heap.size w' v Ls ∧ Below w.heap.size w w'
theorem OwRR.nil_ {base : Nat} {w : World} : OwRR base w (.slice none 0 0) [] := ⟨[], Own.nil_, trivial⟩
theorem OwRR.base_mono {base base' : Nat} {w : World} {v : Value} {Ls : List (List Bar)} (h : OwRR base w v Ls) (hb : base' ≤ base) : OwRR base' w v Ls := by
 obtain ⟨ts, h1, h2⟩ := h
 exact ⟨ts, h1.base_mono hb, h2.map_ fun v L h => h.base_mono hb⟩
theorem OwRR.below {base : Nat} {w w' : World} {v : Value} {Ls : List (List Bar)} (h : OwRR base w v Ls) (hb : Below w.heap.size w w') : OwRR base w' v Ls := by
 obtain ⟨ts, h1, h2⟩ := h
 exact ⟨ts, h1.below hb, h2.map_ fun v L h => h.below hb⟩
theorem OwRR.shape {base : Nat} {w : World} {v : Value} {Ls : List (List Bar)} (h : OwRR base w v Ls) : ∃ A c, v = .slice A Ls.length c := by
 obtain ⟨ts, h1, h2⟩ := h
 obtain ⟨A, c, rfl⟩ := h1.shape
 exact ⟨A, c, by rw [h2.len]⟩
variable {x y : Int} {c r : Nat}
theorem Zgm {e : Edg} (h : edgE e = 0) : Zdk e = ((edgS e).length : Int) := by
 obtain ⟨_, _, _, h4, h5⟩ := Z39 h
 unfold Zdk
 rw [if_pos (by omega), Z2h]
 push_cast
 rw [Int.toNat_of_nonneg (by omega), Int.mul_comm]
theorem Zgn : ∀ (l : List Edg), (∀ e ∈ l, edgE e = 0) → Zdl l = ((stpL l).length : Int)
 | [], _ => rfl
 | e :: r, h => by
  have ih := Zgn r fun x hx => h x (List.mem_cons_of_mem _ hx)
  unfold Zdl at ih ⊢; rw [List.map_cons, List.sum_cons, ih, Zgm (h e (List.mem_cons_self ..)), Z2i, List.length_append]
  push_cast
  rfl
theorem Zgo {l : List Edg} {n : Int} (h : Zdm l n = true) (ok : Z3b l) : ((stpL l).length : Int) ≤ n := by
 have hf := ok.few
 unfold Zdm at h
 rw [Bool.and_eq_true] at h
 have h := h.2
 rw [Bool.and_eq_true, Bool.or_eq_true] at h
 rcases h.2 with h | h
 ·rw [← Zgn l ok.ok]
  exact of_decide_eq_true h
 ·have := of_decide_eq_true h
  omega
structure Zgp (p : Pan) (n : Nat) : Prop where
 ok : Zas p
 wid : p.2.1 ≤ 8
 let_ : ∀ right, (stpL (Z33 p right)).length ≤ n
theorem Zgq {p : Pan} {n : Nat} (h : Zdr p n = true) (ok : Zas p) : Zgp p n := by
 have hw := ok.wid
 unfold Zdr at h
 rw [Bool.and_eq_true, Bool.and_eq_true, Bool.and_eq_true, Bool.or_eq_true] at h
 obtain ⟨_, h2, h3, h4⟩ := h
 have h3 := Zgo h3 ok.left
 have h4 := Zgo h4 ok.right
 refine ⟨ok, ?_, fun right => ?_⟩
 ·rcases h2 with h | h
  ·exact of_decide_eq_true h
  ·have := of_decide_eq_true h
   omega
 ·cases right
  ·show (stpL p.2.2.1).length ≤ n
   omega
  ·show (stpL p.2.2.2).length ≤ n
   omega
theorem Zgp.near {p : Pan} {n : Nat} (h : Zgp p n) (right : Bool) : ∀ k ∈ outP p right, -(16 + 2 * (n : Int)) ≤ k.1 ∧ k.1 ≤ 16 + 2 * (n : Int) := by
 intro k hk
 obtain ⟨i, hi, rfl⟩ := List.getElem_of_mem hk
 unfold outP at hi ⊢
 rw [Z2r]
 have hw := h.wid
 have hw1 := h.ok.wid
 have h0 : -16 ≤ (Z34 p right).1 ∧ (Z34 p right).1 ≤ 16 ∧ 0 ≤ (Z34 p right).2 ∧ (Z34 p right).2 ≤ 16 := by
  unfold Z34; split <;> simp only <;> omega
 have := Z2u (right := right) (n := 16) ((stpL (Z33 p right)).take i) h0
 have hl : (((stpL (Z33 p right)).take i).length : Int) ≤ n := by
  have := h.let_ right
  simp
  omega
 omega
structure Box (p : Pan) (m M : Int) : Prop where
 left : ∀ k ∈ outP p false, m ≤ k.1 ∧ k.1 ≤ M
 right : ∀ k ∈ outP p true, m ≤ k.1 ∧ k.1 ≤ M
theorem Zgp.box {p : Pan} {n : Nat} (h : Zgp p n) : Box p (-(16 + 2 * (n : Int))) (16 + 2 * (n : Int)) := ⟨h.near false, h.near true⟩
theorem Zas.box {p : Pan} (h : Zas p) : Box p (-4096) 4096 := ⟨Zcz p false h.wid (h.side false).1, Zcz p true h.wid (h.side true).1⟩
theorem Zgr {a b c d : Int} (h : Z17 [a, b, c, d] = 0) : a = 0 ∧ b = 0 ∧ c = 0 ∧ d = 0 := by
 simp only [Z17] at h
 split at h
 ·rename_i h1
  split at h
  ·rename_i h2
   split at h
   ·rename_i h3
    split at h
    ·rename_i h4; exact ⟨h1, h2, h3, h4⟩
    ·rename_i h4; exact absurd h h4
   ·rename_i h3; exact absurd h h3
  ·rename_i h2; exact absurd h h2
 ·rename_i h1; exact absurd h h1
theorem Zgs {p : Pan} (h : panE p = 0) : Z74 p = 0 ∧ Z75 p = 0 := by
 unfold panE at h
 split at h
 ·rename_i h0; exact absurd h h0
 ·rename_i h0
  split at h
  ·rename_i h1; exact absurd h h1
  ·rename_i h1
   exact ⟨by simpa using h0, by simpa using h1⟩
theorem Zgt {s : Strp} {x y c : Int} (hp : (x + y) % 2 = 0) (hc : c = -1 ∨ c = 1) (h1 : s.2.2.1 ≤ x + c) (h2 : x + c ≤ s.2.2.2) : (x, y, c) ∈ Z6z s y x := by
 rw [Zb9 hp]
 unfold Zb8 Zb7
 rcases hc with rfl | rfl
 ·rw [if_pos (show s.2.2.1 ≤ x + -1 ∧ x + -1 ≤ s.2.2.2 from ⟨h1, h2⟩)]
  simp
 ·rw [if_pos (show s.2.2.1 ≤ x + 1 ∧ x + 1 ≤ s.2.2.2 from ⟨h1, h2⟩)]
  simp
theorem Zgu {s : Strp} {y : Int} {b : Bar} {m : Nat} (hb : b ∈ Z6z s y (s.1 + (m : Int))) : ∀ n, m < n → b ∈ Z70 s y n
 | 0, h => by omega
 | n + 1, h => by
  rw [Z70, List.mem_append]; by_cases e : m = n
  ·subst e; exact .inr hb
  ·exact .inl (Zgu hb n (by omega))
theorem Zgv {s : Strp} {x y c : Int} (h1 : s.1 ≤ x) (h2 : x ≤ s.2.1) (hp : (x + y) % 2 = 0) (hc : c = -1 ∨ c = 1) (h3 : s.2.2.1 ≤ x + c) (h4 : x + c ≤ s.2.2.2) : (x, y, c) ∈ Z71 s y := by
 unfold Z71
 refine Zgu (m := (x - s.1).toNat) ?_ _ (by omega)
 rw [show s.1 + (((x - s.1).toNat : Nat) : Int) = x by omega]
 exact Zgt hp hc h3 h4
theorem Zgw (row : Int) : ∀ (l : List Knot) (y : Int) (a : Int × Int), ((Z6p row y l a).1 = a.1 ∨ hits row y l (Z6p row y l a).1) ∧ ((Z6p row y l a).2 = a.2 ∨ hits row y l (Z6p row y l a).2)
 | [], _, _ => ⟨.inl rfl, .inl rfl⟩
 | k :: r, y, a => by
  have ih := Zgw row r k.2 (if hitR row y k then Z6o a k.1 else a)
  rw [Z6p]; by_cases h : hitR row y k = true
  ·rw [if_pos h] at ih ⊢
   obtain ⟨i1, i2⟩ := ih; unfold hits; have e1 : (Z6o a k.1).1 = min a.1 k.1 := rfl
   have e2 : (Z6o a k.1).2 = max a.2 k.1 := rfl
   rw [e1] at i1; rw [e2] at i2; refine ⟨?_, ?_⟩
   ·rcases i1 with i1 | i1
    ·by_cases hm : a.1 ≤ k.1
     ·exact .inl (by omega)
     ·exact .inr (.inl ⟨h, by omega⟩)
    ·exact .inr (.inr i1)
   ·rcases i2 with i2 | i2
    ·by_cases hm : k.1 ≤ a.2
     ·exact .inl (by omega)
     ·exact .inr (.inl ⟨h, by omega⟩)
    ·exact .inr (.inr i2)
  ·rw [if_neg h] at ih ⊢
   obtain ⟨i1, i2⟩ := ih; unfold hits; exact ⟨i1.imp id .inr, i2.imp id .inr⟩
end Go.Proofs.YtpcgeihemkhkjaaGreatDoor

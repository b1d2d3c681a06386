/- NettingSets: the law, walked. Conditions: the variables are laid. -/
import Derived.Test.YtkmjcoofkgpanaaGreatDoorB21
import Derived.Test.YtkmjcoofkgpanaaGreatDoorB20
import Derived.Test.YtkmjcoofkgpanaaGreatDoorPmaJ
import Derived.Test.YtkmjcoofkgpanaaGreatDoorPmhJ
namespace Go.Proofs.YtkmjcoofkgpanaaGreatDoor
open Go.RowKit Go.ChangeMaps
set_option maxHeartbeats 4000000
set_option maxRecDepth 100000

theorem short_le {l : List Bar} {n : Int} (hs : shortB l n = true) (hn : n ≤ 40) (hE : netE l = 0) : l.length ≤ 40 := by
  have h1 : l.length ≤ 4096 := by
    unfold netE at hE
    split at hE
    · omega
    · omega
  unfold shortB at hs
  have := of_decide_eq_true hs
  omega
theorem short_len {l : List Bar} (hs : shortB l 40 = true) : l.length ≤ 4098 := by
  unfold shortB at hs
  have := of_decide_eq_true hs
  omega
theorem put_zero {K : Bool → Bool → Bool} {a b L : List Bar} (h : twoE a b = 0) (hm : mergeL K a b = L) (hl : L.length ≤ 4096) : putE K a b = 0 ∧ putL K a b = L := by
  have h1 : putE K a b = 0 := by unfold putE; rw [if_neg (by simp [h]), hm, if_neg (by omega)]
  exact ⟨h1, by unfold putL; rw [if_pos h1, hm]⟩
theorem put_err {K : Bool → Bool → Bool} {a b : List Bar} (h : twoE a b ≠ 0) : putE K a b = twoE a b ∧ putL K a b = [] := by
  have h1 : putE K a b = twoE a b := by unfold putE; rw [if_pos h]
  exact ⟨h1, by unfold putL; rw [if_neg (by rw [h1]; exact h)]⟩
theorem wout_le (a b : List Bar) : (wout a b).length ≤ a.length := List.length_filter_le _ _
theorem meetL_le (a b : List Bar) : (meetL a b).length ≤ a.length := List.length_filter_le _ _
theorem nettingSets_any (l r : List Bar) (w : World) {v u : Value} (h : SlB w v l) (h' : SlB w u r) (hL : Lay w) : Calls Tryz.prog 9 #[v, u] w (RV w (.bool true)) := by
  have ca := fun W (hb : Below w.heap.size w W) => awake_any W (hL.below hb)
  have s1 := fun W (hb : Below w.heap.size w W) => shortNet_any l 40 W (h.below hb)
  have s2 := fun W (hb : Below w.heap.size w W) => shortNet_any r 40 W (h'.below hb)
  by_cases hs1 : shortB l 40 = true
  · rw [hs1] at s1
    by_cases hs2 : shortB r 40 = true
    · rw [hs2] at s2
      have hl1 := short_len hs1
      have hl2 := short_len hs2
      go_enter Tryz.func9, Tryz.ntmps9
      go_wp2_with fail
      refine (ca _ (by (repeat (first | exact bl_refl | assumption | (apply bl_then; assumption) | refine bl_alloc ?_ _ | refine bl_drew ?_ | refine bl_drewN ?_ _)))).mono ?_
      rintro e w1 ⟨rfl, hb1⟩
      go_wp2_with fail
      refine (s1 _ (by (repeat (first | exact bl_refl | assumption | (apply bl_then; assumption) | refine bl_alloc ?_ _ | refine bl_drew ?_ | refine bl_drewN ?_ _)))).mono ?_
      rintro e w2 ⟨rfl, hb2⟩
      go_wp2_with fail
      refine (s2 _ (by (repeat (first | exact bl_refl | assumption | (apply bl_then; assumption) | refine bl_alloc ?_ _ | refine bl_drew ?_ | refine bl_drewN ?_ _)))).mono ?_
      rintro e w3 ⟨rfl, hb3⟩
      go_wp2_with fail
      refine (copied_any l _ (h.below (by (repeat (first | exact bl_refl | assumption | (apply bl_then; assumption) | refine bl_alloc ?_ _ | refine bl_drew ?_ | refine bl_drewN ?_ _)))) (by omega)).mono ?_
      rintro e w4 ⟨v4, rfl, hC4, hb4⟩
      go_wp2_with fail
      refine (copied_any r _ (h'.below (by (repeat (first | exact bl_refl | assumption | (apply bl_then; assumption) | refine bl_alloc ?_ _ | refine bl_drew ?_ | refine bl_drewN ?_ _)))) (by omega)).mono ?_
      rintro e w5 ⟨v5, rfl, hC5, hb5⟩
      go_wp2_with fail
      refine (apiUnion_any l r _ ((hC4.rd bc_len).below (by (repeat (first | exact bl_refl | assumption | (apply bl_then; assumption) | refine bl_alloc ?_ _ | refine bl_drew ?_ | refine bl_drewN ?_ _)))) (hC5.rd bc_len)).mono ?_
      rintro e w6 ⟨v6, rfl, hU6, hb6⟩
      go_wp2_with fail
      refine (copied_any l _ (h.below (by (repeat (first | exact bl_refl | assumption | (apply bl_then; assumption) | refine bl_alloc ?_ _ | refine bl_drew ?_ | refine bl_drewN ?_ _)))) (by omega)).mono ?_
      rintro e w7 ⟨v7, rfl, hC7, hb7⟩
      go_wp2_with fail
      refine (copied_any r _ (h'.below (by (repeat (first | exact bl_refl | assumption | (apply bl_then; assumption) | refine bl_alloc ?_ _ | refine bl_drew ?_ | refine bl_drewN ?_ _)))) (by omega)).mono ?_
      rintro e w8 ⟨v8, rfl, hC8, hb8⟩
      go_wp2_with fail
      refine (apiMinus_any l r _ ((hC7.rd bc_len).below (by (repeat (first | exact bl_refl | assumption | (apply bl_then; assumption) | refine bl_alloc ?_ _ | refine bl_drew ?_ | refine bl_drewN ?_ _)))) (hC8.rd bc_len)).mono ?_
      rintro e w9 ⟨v9, rfl, hM9, hb9⟩
      go_wp2_with fail
      refine (copied_any l _ (h.below (by (repeat (first | exact bl_refl | assumption | (apply bl_then; assumption) | refine bl_alloc ?_ _ | refine bl_drew ?_ | refine bl_drewN ?_ _)))) (by omega)).mono ?_
      rintro e w10 ⟨v10, rfl, hC10, hb10⟩
      go_wp2_with fail
      refine (copied_any r _ (h'.below (by (repeat (first | exact bl_refl | assumption | (apply bl_then; assumption) | refine bl_alloc ?_ _ | refine bl_drew ?_ | refine bl_drewN ?_ _)))) (by omega)).mono ?_
      rintro e w11 ⟨v11, rfl, hC11, hb11⟩
      go_wp2_with fail
      refine (apiMeet_any l r _ ((hC10.rd bc_len).below (by (repeat (first | exact bl_refl | assumption | (apply bl_then; assumption) | refine bl_alloc ?_ _ | refine bl_drew ?_ | refine bl_drewN ?_ _)))) (hC11.rd bc_len)).mono ?_
      rintro e w12 ⟨v12, rfl, hX12, hb12⟩
      go_wp2_with fail
      refine (rnet_sl l _ (h.below (by (repeat (first | exact bl_refl | assumption | (apply bl_then; assumption) | refine bl_alloc ?_ _ | refine bl_drew ?_ | refine bl_drewN ?_ _))))).mono ?_
      rintro e w13 ⟨rfl, hb13⟩
      go_wp2_with fail
      refine (rnet_sl r _ (h'.below (by (repeat (first | exact bl_refl | assumption | (apply bl_then; assumption) | refine bl_alloc ?_ _ | refine bl_drew ?_ | refine bl_drewN ?_ _))))).mono ?_
      rintro e w14 ⟨rfl, hb14⟩
      go_wp2_with fail
      go_must (refine (lfirst_any [netE l, netE r] _ _ _ (by simp [maxLen]) (Rd.ints2 (by simp) (by go_simp) (by go_simp))).mono ?_)
      rintro e w15 ⟨rfl, hb15⟩
      rw [show firstI [netE l, netE r] = twoE l r from rfl]
      clear hC4 hC5 hC7 hC8 hC10 hC11
      have hU := hU6.rd bc_len
      have hM := hM9.rd bc_len
      have hX := hX12.rd bc_len
      have hU15 := hU.below (show Below w6.heap.size w6 w15 by (repeat (first | exact bl_refl | assumption | (apply bl_then; assumption) | refine bl_alloc ?_ _ | refine bl_drew ?_ | refine bl_drewN ?_ _)))
      have hM15 := hM.below (show Below w9.heap.size w9 w15 by (repeat (first | exact bl_refl | assumption | (apply bl_then; assumption) | refine bl_alloc ?_ _ | refine bl_drew ?_ | refine bl_drewN ?_ _)))
      have hX15 := hX.below (show Below w12.heap.size w12 w15 by (repeat (first | exact bl_refl | assumption | (apply bl_then; assumption) | refine bl_alloc ?_ _ | refine bl_drew ?_ | refine bl_drewN ?_ _)))
      have hbw : Below w.heap.size w w15 := by (repeat (first | exact bl_refl | assumption | (apply bl_then; assumption) | refine bl_alloc ?_ _ | refine bl_drew ?_ | refine bl_drewN ?_ _))
      clear hU hM hX hU6 hM9 hX12 hb1 hb2 hb3 hb4 hb5 hb6 hb7 hb8 hb9 hb10 hb11 hb12 hb13 hb14 hb15
      by_cases hE : twoE l r = 0
      · obtain ⟨hz1, hz2⟩ := firstI_zero hE
        have hsl := (netE_ok hz1).sorted
        have hsr := (netE_ok hz2).sorted
        have q1 := short_le hs1 (by omega) hz1
        have q2 := short_le hs2 (by omega) hz2
        have hul : (setB (l ++ r)).length ≤ 4096 := by have := setB_len (l ++ r); simp at this; omega
        obtain ⟨e1, e2⟩ := put_zero hE (merge_union hsl hsr) hul
        obtain ⟨e3, e4⟩ := put_zero hE (merge_minus hsl hsr) (by have := wout_le l r; omega)
        obtain ⟨e5, e6⟩ := put_zero hE (merge_meet hsl hsr) (by have := meetL_le l r; omega)
        have hn : ∀ m : List Bar, netB m 0 0 m = true := fun m => by simp [netB]
        rw [e1, e3, e5, hE]
        rw [e2] at hU15
        rw [e4] at hM15
        rw [e6] at hX15
        clear e1 e2 e3 e4 e5 e6 hE hz1 hz2 hsl hsr hul
        go_wp2_with fail
        refine (runion_any l r _ (h.below (by (repeat (first | exact bl_refl | assumption | (apply bl_then; assumption) | refine bl_alloc ?_ _ | refine bl_drew ?_ | refine bl_drewN ?_ _)))) (h'.below (by (repeat (first | exact bl_refl | assumption | (apply bl_then; assumption) | refine bl_alloc ?_ _ | refine bl_drew ?_ | refine bl_drewN ?_ _)))) (by omega) (by omega)).mono ?_
        rintro e w16 ⟨v16, rfl, hR16, hb16⟩
        go_wp2_with fail
        refine (lnet_any _ _ _ _ _ (hU15.below (by (repeat (first | exact bl_refl | assumption | (apply bl_then; assumption) | refine bl_alloc ?_ _ | refine bl_drew ?_ | refine bl_drewN ?_ _)))) (hR16.rd bc_len)).mono ?_
        rintro e w17 ⟨rfl, hb17⟩
        rw [hn]
        go_wp2_with fail
        refine (rminus_any l r _ (h.below (by (repeat (first | exact bl_refl | assumption | (apply bl_then; assumption) | refine bl_alloc ?_ _ | refine bl_drew ?_ | refine bl_drewN ?_ _)))) (h'.below (by (repeat (first | exact bl_refl | assumption | (apply bl_then; assumption) | refine bl_alloc ?_ _ | refine bl_drew ?_ | refine bl_drewN ?_ _)))) (by omega)).mono ?_
        rintro e w18 ⟨v18, rfl, hR18, hb18⟩
        go_wp2_with fail
        refine (lnet_any _ _ _ _ _ (hM15.below (by (repeat (first | exact bl_refl | assumption | (apply bl_then; assumption) | refine bl_alloc ?_ _ | refine bl_drew ?_ | refine bl_drewN ?_ _)))) (hR18.rd bc_len)).mono ?_
        rintro e w19 ⟨rfl, hb19⟩
        rw [hn]
        go_wp2_with fail
        refine (rmeet_any l r _ (h.below (by (repeat (first | exact bl_refl | assumption | (apply bl_then; assumption) | refine bl_alloc ?_ _ | refine bl_drew ?_ | refine bl_drewN ?_ _)))) (h'.below (by (repeat (first | exact bl_refl | assumption | (apply bl_then; assumption) | refine bl_alloc ?_ _ | refine bl_drew ?_ | refine bl_drewN ?_ _)))) (by omega)).mono ?_
        rintro e w20 ⟨v20, rfl, hR20, hb20⟩
        go_wp2_with fail
        refine (lnet_any _ _ _ _ _ (hX15.below (by (repeat (first | exact bl_refl | assumption | (apply bl_then; assumption) | refine bl_alloc ?_ _ | refine bl_drew ?_ | refine bl_drewN ?_ _)))) (hR20.rd bc_len)).mono ?_
        rintro e w21 ⟨rfl, hb21⟩
        rw [hn]
        go_wp2
        go_ret
        exact ⟨rfl, by (repeat (first | exact bl_refl | assumption | (apply bl_then; assumption) | refine bl_alloc ?_ _ | refine bl_drew ?_ | refine bl_drewN ?_ _))⟩
      · have hE' : (twoE l r != 0) = true := by simp [hE]
        obtain ⟨e1, e2⟩ := put_err (K := unionK) hE
        obtain ⟨e3, e4⟩ := put_err (K := minusK) hE
        obtain ⟨e5, e6⟩ := put_err (K := meetK) hE
        have hn : netB [] (twoE l r) (twoE l r) [] = true := by unfold netB; rw [if_pos hE]; simp
        rw [e1, e3, e5]
        rw [e2] at hU15
        rw [e4] at hM15
        rw [e6] at hX15
        clear e1 e2 e3 e4 e5 e6 hE
        obtain ⟨E, hEE⟩ : ∃ E, twoE l r = E := ⟨_, rfl⟩
        rw [hEE] at hE' hn ⊢
        clear hEE
        go_wp2_with fail
        refine (lnet_any [] [] E E _ hU15 Sl.nil_).mono ?_
        rintro e w16 ⟨rfl, hb16⟩
        rw [hn]
        go_wp2_with fail
        refine (lnet_any [] [] E E _ (hM15.below (by (repeat (first | exact bl_refl | assumption | (apply bl_then; assumption) | refine bl_alloc ?_ _ | refine bl_drew ?_ | refine bl_drewN ?_ _)))) Sl.nil_).mono ?_
        rintro e w17 ⟨rfl, hb17⟩
        rw [hn]
        go_wp2_with fail
        refine (lnet_any [] [] E E _ (hX15.below (by (repeat (first | exact bl_refl | assumption | (apply bl_then; assumption) | refine bl_alloc ?_ _ | refine bl_drew ?_ | refine bl_drewN ?_ _)))) Sl.nil_).mono ?_
        rintro e w18 ⟨rfl, hb18⟩
        rw [hn]
        go_wp2
        go_ret
        exact ⟨rfl, by (repeat (first | exact bl_refl | assumption | (apply bl_then; assumption) | refine bl_alloc ?_ _ | refine bl_drew ?_ | refine bl_drewN ?_ _))⟩
    · rw [show shortB r 40 = false by simpa using hs2] at s2
      go_enter Tryz.func9, Tryz.ntmps9
      go_wp2_with fail
      refine (ca _ (by (repeat (first | exact bl_refl | assumption | (apply bl_then; assumption) | refine bl_alloc ?_ _ | refine bl_drew ?_ | refine bl_drewN ?_ _)))).mono ?_
      rintro e w1 ⟨rfl, hb1⟩
      go_wp2_with fail
      refine (s1 _ (by (repeat (first | exact bl_refl | assumption | (apply bl_then; assumption) | refine bl_alloc ?_ _ | refine bl_drew ?_ | refine bl_drewN ?_ _)))).mono ?_
      rintro e w2 ⟨rfl, hb2⟩
      go_wp2_with fail
      refine (s2 _ (by (repeat (first | exact bl_refl | assumption | (apply bl_then; assumption) | refine bl_alloc ?_ _ | refine bl_drew ?_ | refine bl_drewN ?_ _)))).mono ?_
      rintro e w3 ⟨rfl, hb3⟩
      go_wp2_with fail
      refine (ca _ (by (repeat (first | exact bl_refl | assumption | (apply bl_then; assumption) | refine bl_alloc ?_ _ | refine bl_drew ?_ | refine bl_drewN ?_ _)))).mono ?_
      rintro e w4 ⟨rfl, hb4⟩
      go_wp2
      go_ret
      exact ⟨rfl, by (repeat (first | exact bl_refl | assumption | (apply bl_then; assumption) | refine bl_alloc ?_ _ | refine bl_drew ?_ | refine bl_drewN ?_ _))⟩
  · rw [show shortB l 40 = false by simpa using hs1] at s1
    go_enter Tryz.func9, Tryz.ntmps9
    go_wp2_with fail
    refine (ca _ (by (repeat (first | exact bl_refl | assumption | (apply bl_then; assumption) | refine bl_alloc ?_ _ | refine bl_drew ?_ | refine bl_drewN ?_ _)))).mono ?_
    rintro e w1 ⟨rfl, hb1⟩
    go_wp2_with fail
    refine (s1 _ (by (repeat (first | exact bl_refl | assumption | (apply bl_then; assumption) | refine bl_alloc ?_ _ | refine bl_drew ?_ | refine bl_drewN ?_ _)))).mono ?_
    rintro e w2 ⟨rfl, hb2⟩
    go_wp2_with fail
    refine (ca _ (by (repeat (first | exact bl_refl | assumption | (apply bl_then; assumption) | refine bl_alloc ?_ _ | refine bl_drew ?_ | refine bl_drewN ?_ _)))).mono ?_
    rintro e w3 ⟨rfl, hb3⟩
    go_wp2
    go_ret
    exact ⟨rfl, by (repeat (first | exact bl_refl | assumption | (apply bl_then; assumption) | refine bl_alloc ?_ _ | refine bl_drew ?_ | refine bl_drewN ?_ _))⟩
end Go.Proofs.YtkmjcoofkgpanaaGreatDoor

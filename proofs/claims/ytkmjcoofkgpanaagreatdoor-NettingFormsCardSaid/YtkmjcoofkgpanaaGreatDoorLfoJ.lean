/- NettingForms: the law, walked. Conditions: the variables are laid. -/
import Derived.Test.YtkmjcoofkgpanaaGreatDoorB21
import Derived.Test.YtkmjcoofkgpanaaGreatDoorNfoJ
import Derived.Test.YtkmjcoofkgpanaaGreatDoorLmoJ
namespace Go.Proofs.YtkmjcoofkgpanaaGreatDoor
open Go.RowKit Go.ChangeMaps
set_option maxHeartbeats 4000000
set_option maxRecDepth 100000

theorem short_len24 {l : List Bar} (hs : shortB l 24 = true) : l.length ≤ 4098 := by
  unfold shortB at hs
  have := of_decide_eq_true hs
  omega
theorem forms_ok {l : List Bar} (hE : netE l = 0) : netB (canL l) (canE l) (whenI (!rcA l 8) 3) (rcB l 8) = true := by
  have hok := netE_ok hE
  have hd : ∀ b ∈ l, Sided b := fun b hb => (hok.ok b hb).2.2
  have ha := rcA_allN hok.sorted hd (k := 7) (by omega)
  have hb := rcB_bst hok.sorted hd (k := 7) (by omega)
  rw [ha, hb]
  unfold canL canE
  by_cases h0 : l = []
  · subst h0
    have h1 : allN [] 8 = true := by rw [← ha]; decide
    have h2 : bst [] 8 = [] := List.eq_nil_of_length_eq_zero (by have := bst_len [] 8; simpa using this)
    rw [if_pos (.inr rfl), if_neg (fun q => q hE), if_pos rfl, h1, h2]
    rfl
  · rw [if_neg (by rintro (q | q); exact q hE; exact h0 q), if_neg (show ¬ netE l ≠ 0 from fun q => q hE), if_neg h0]
    cases allN l 8
    · simp [netB, whenI]
    · simp [netB, whenI]
theorem nettingForms_any (l : List Bar) (w : World) {v : Value} (h : SlB w v l) (hL : Lay w) : Calls Tryz.prog 5 #[v] w (RV w (.bool true)) := by
  have ca := fun W (hb : Below w.heap.size w W) => awake_any W (hL.below hb)
  have s1 := fun W (hb : Below w.heap.size w W) => shortNet_any l 24 W (h.below hb)
  by_cases hs1 : shortB l 24 = true
  rotate_left
  · rw [show shortB l 24 = false by simpa using hs1] at s1
    go_enter Tryz.func5, Tryz.ntmps5
    go_wp2_with fail
    refine (ca _ (by (repeat (first | exact bl_refl | assumption | (apply bl_then; assumption) | refine bl_alloc ?_ _ | refine bl_drew ?_ | refine bl_drewN ?_ _)))).mono ?_
    rintro e w1 ⟨rfl, hb1⟩
    go_wp2_with fail
    refine (s1 _ (by (repeat (first | exact bl_refl | assumption | (apply bl_then; assumption) | refine bl_alloc ?_ _ | refine bl_drew ?_ | refine bl_drewN ?_ _)))).mono ?_
    rintro e w2 ⟨rfl, hb2⟩
    go_wp2_with fail
    refine (ca _ (by (repeat (first | exact bl_refl | assumption | (apply bl_then; assumption) | refine bl_alloc ?_ _ | refine bl_drew ?_ | refine bl_drewN ?_ _)))).mono ?_
    rintro e w3 ⟨rfl, hb3⟩
    go_wp2
    go_ret
    exact ⟨rfl, by (repeat (first | exact bl_refl | assumption | (apply bl_then; assumption) | refine bl_alloc ?_ _ | refine bl_drew ?_ | refine bl_drewN ?_ _))⟩
  rw [hs1] at s1
  have hl1 := short_len24 hs1
  have la : l.length ≤ 100000 := by omega
  have r1 := fun W (hb : Below w.heap.size w W) => rnet_sl l W (h.below hb)
  have m1 := fun W z (p : SlB W z l) => canon_any l W p
  by_cases hE : netE l = 0
  · have rc := fun W (hb : Below w.heap.size w W) => rcanon_any l W (h.below hb) hE
    have hN := forms_ok hE
    rw [hE] at r1
    obtain ⟨C, hC⟩ : ∃ C, canL l = C := ⟨_, rfl⟩
    obtain ⟨e1, he1⟩ : ∃ C, canE l = C := ⟨_, rfl⟩
    obtain ⟨a, ha⟩ : ∃ C, rcA l 8 = C := ⟨_, rfl⟩
    obtain ⟨B, hB⟩ : ∃ C, rcB l 8 = C := ⟨_, rfl⟩
    rw [hC, he1] at m1
    rw [ha, hB] at rc
    rw [hC, he1, ha, hB] at hN
    clear hs1 hl1 hE hC he1 ha hB
    go_enter Tryz.func5, Tryz.ntmps5
    go_wp2_with fail
    refine (ca _ (by (repeat (first | exact bl_refl | assumption | (apply bl_then; assumption) | refine bl_alloc ?_ _ | refine bl_drew ?_ | refine bl_drewN ?_ _)))).mono ?_
    rintro e w1 ⟨rfl, hb1⟩
    go_wp2_with fail
    refine (s1 _ (by (repeat (first | exact bl_refl | assumption | (apply bl_then; assumption) | refine bl_alloc ?_ _ | refine bl_drew ?_ | refine bl_drewN ?_ _)))).mono ?_
    rintro e w2 ⟨rfl, hb2⟩
    go_wp2_with fail
    refine (copied_any l _ (h.below (by (repeat (first | exact bl_refl | assumption | (apply bl_then; assumption) | refine bl_alloc ?_ _ | refine bl_drew ?_ | refine bl_drewN ?_ _)))) la).mono ?_
    rintro e w3 ⟨v3, rfl, hC3, hb3⟩
    go_wp2_with fail
    refine (m1 _ _ (hC3.rd bc_len)).mono ?_
    rintro e w4 ⟨v4, rfl, hC4, hb4⟩
    go_wp2_with fail
    refine (r1 _ (by (repeat (first | exact bl_refl | assumption | (apply bl_then; assumption) | refine bl_alloc ?_ _ | refine bl_drew ?_ | refine bl_drewN ?_ _)))).mono ?_
    rintro e w5 ⟨rfl, hb5⟩
    go_wp2_with fail
    refine (rc _ (by (repeat (first | exact bl_refl | assumption | (apply bl_then; assumption) | refine bl_alloc ?_ _ | refine bl_drew ?_ | refine bl_drewN ?_ _)))).mono ?_
    rintro e w6 ⟨v6, rfl, hB6, hb6⟩
    go_wp2_with fail
    refine (lwhen_any (!a) 3 _).mono ?_
    rintro e w7 ⟨rfl, hb7⟩
    go_wp2_with fail
    refine (lnet_any C B e1 _ _ ((hC4.rd bc_len).below (by (repeat (first | exact bl_refl | assumption | (apply bl_then; assumption) | refine bl_alloc ?_ _ | refine bl_drew ?_ | refine bl_drewN ?_ _)))) (hB6.below (by (repeat (first | exact bl_refl | assumption | (apply bl_then; assumption) | refine bl_alloc ?_ _ | refine bl_drew ?_ | refine bl_drewN ?_ _))))).mono ?_
    rintro e w8 ⟨rfl, hb8⟩
    rw [hN]
    go_wp2
    go_ret
    exact ⟨rfl, by (repeat (first | exact bl_refl | assumption | (apply bl_then; assumption) | refine bl_alloc ?_ _ | refine bl_drew ?_ | refine bl_drewN ?_ _))⟩
  · have e1 : canE l = netE l := by unfold canE; rw [if_pos hE]
    have e2 : canL l = [] := by unfold canL; rw [if_pos (.inl hE)]
    have t1 : (netE l == 0) = false := beq_false_of_ne hE
    have hN := net_err hE
    rw [e1, e2] at m1
    obtain ⟨E, hEE⟩ : ∃ E, netE l = E := ⟨_, rfl⟩
    rw [hEE] at t1 m1 r1 hN
    clear hs1 hl1 hE hEE e1 e2
    go_enter Tryz.func5, Tryz.ntmps5
    go_wp2_with fail
    refine (ca _ (by (repeat (first | exact bl_refl | assumption | (apply bl_then; assumption) | refine bl_alloc ?_ _ | refine bl_drew ?_ | refine bl_drewN ?_ _)))).mono ?_
    rintro e w1 ⟨rfl, hb1⟩
    go_wp2_with fail
    refine (s1 _ (by (repeat (first | exact bl_refl | assumption | (apply bl_then; assumption) | refine bl_alloc ?_ _ | refine bl_drew ?_ | refine bl_drewN ?_ _)))).mono ?_
    rintro e w2 ⟨rfl, hb2⟩
    go_wp2_with fail
    refine (copied_any l _ (h.below (by (repeat (first | exact bl_refl | assumption | (apply bl_then; assumption) | refine bl_alloc ?_ _ | refine bl_drew ?_ | refine bl_drewN ?_ _)))) la).mono ?_
    rintro e w3 ⟨v3, rfl, hC3, hb3⟩
    go_wp2_with fail
    refine (m1 _ _ (hC3.rd bc_len)).mono ?_
    rintro e w4 ⟨v4, rfl, hC4, hb4⟩
    go_wp2_with fail
    refine (r1 _ (by (repeat (first | exact bl_refl | assumption | (apply bl_then; assumption) | refine bl_alloc ?_ _ | refine bl_drew ?_ | refine bl_drewN ?_ _)))).mono ?_
    rintro e w5 ⟨rfl, hb5⟩
    go_wp2_with fail
    refine (lnet_any [] [] E E _ ((hC4.rd bc_len).below (by (repeat (first | exact bl_refl | assumption | (apply bl_then; assumption) | refine bl_alloc ?_ _ | refine bl_drew ?_ | refine bl_drewN ?_ _)))) Sl.nil_).mono ?_
    rintro e w8 ⟨rfl, hb8⟩
    rw [hN]
    go_wp2
    go_ret
    exact ⟨rfl, by (repeat (first | exact bl_refl | assumption | (apply bl_then; assumption) | refine bl_alloc ?_ _ | refine bl_drew ?_ | refine bl_drewN ?_ _))⟩
end Go.Proofs.YtkmjcoofkgpanaaGreatDoor

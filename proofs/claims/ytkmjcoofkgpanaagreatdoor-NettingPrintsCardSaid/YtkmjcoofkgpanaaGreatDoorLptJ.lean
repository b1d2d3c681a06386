/- NettingPrints: the law, walked. Conditions: the variables are laid. -/
import Derived.Test.YtkmjcoofkgpanaaGreatDoorB21
import Derived.Test.YtkmjcoofkgpanaaGreatDoorPprJ
import Derived.Test.YtkmjcoofkgpanaaGreatDoorLmoJ
import Derived.Test.YtkmjcoofkgpanaaGreatDoorLalJ
namespace Go.Proofs.YtkmjcoofkgpanaaGreatDoor
open Go.RowKit Go.ChangeMaps
set_option maxHeartbeats 4000000
set_option maxRecDepth 100000

theorem nettingPrints_any (l : List Bar) (s : Str) (w : World) {v : Value} (h : SlB w v l) (hz : s.length ≤ maxLen) (hL : Lay w) : Calls Tryz.prog 7 #[v, .string ⟨s.toArray⟩] w (RV w (.bool true)) := by
  have ca := fun W (hb : Below w.heap.size w W) => awake_any W (hL.below hb)
  have r1 := fun W (hb : Below w.heap.size w W) => rnet_sl l W (h.below hb)
  unfold maxLen at hz
  have hA := h
  obtain ⟨A0, c0, rfl, _, _, _⟩ := h
  by_cases h1 : 40 < l.length
  · have t1 : (40 < (l.length : Int)) = True := eq_true (by omega)
    clear h1
    go_enter Tryz.func7, Tryz.ntmps7
    go_wp2_with fail
    refine (ca _ (by (repeat (first | exact bl_refl | assumption | (apply bl_then; assumption) | refine bl_alloc ?_ _ | refine bl_drew ?_ | refine bl_drewN ?_ _)))).mono ?_
    rintro e w1 ⟨rfl, hb1⟩
    go_wp2_with fail
    refine (ca _ (by (repeat (first | exact bl_refl | assumption | (apply bl_then; assumption) | refine bl_alloc ?_ _ | refine bl_drew ?_ | refine bl_drewN ?_ _)))).mono ?_
    rintro e w2 ⟨rfl, hb2⟩
    go_wp2
    go_ret
    exact ⟨rfl, by (repeat (first | exact bl_refl | assumption | (apply bl_then; assumption) | refine bl_alloc ?_ _ | refine bl_drew ?_ | refine bl_drewN ?_ _))⟩
  have t1 : (40 < (l.length : Int)) = False := eq_false (by omega)
  by_cases hE : netE l = 0
  rotate_left
  · have t2 : (netE l != 0) = true := by simp [hE]
    clear h1 hE
    go_enter Tryz.func7, Tryz.ntmps7
    go_wp2_with fail
    refine (ca _ (by (repeat (first | exact bl_refl | assumption | (apply bl_then; assumption) | refine bl_alloc ?_ _ | refine bl_drew ?_ | refine bl_drewN ?_ _)))).mono ?_
    rintro e w1 ⟨rfl, hb1⟩
    go_wp2_with fail
    refine (r1 _ (by (repeat (first | exact bl_refl | assumption | (apply bl_then; assumption) | refine bl_alloc ?_ _ | refine bl_drew ?_ | refine bl_drewN ?_ _)))).mono ?_
    rintro e w2 ⟨rfl, hb2⟩
    go_wp2_with fail
    refine (ca _ (by (repeat (first | exact bl_refl | assumption | (apply bl_then; assumption) | refine bl_alloc ?_ _ | refine bl_drew ?_ | refine bl_drewN ?_ _)))).mono ?_
    rintro e w3 ⟨rfl, hb3⟩
    go_wp2
    go_ret
    exact ⟨rfl, by (repeat (first | exact bl_refl | assumption | (apply bl_then; assumption) | refine bl_alloc ?_ _ | refine bl_drew ?_ | refine bl_drewN ?_ _))⟩
  by_cases h3 : 1000 < s.length
  · have t3 : (1000 < (s.length : Int)) = True := eq_true (by omega)
    rw [hE] at r1
    clear h1 hE h3
    go_enter Tryz.func7, Tryz.ntmps7
    go_wp2_with fail
    refine (ca _ (by (repeat (first | exact bl_refl | assumption | (apply bl_then; assumption) | refine bl_alloc ?_ _ | refine bl_drew ?_ | refine bl_drewN ?_ _)))).mono ?_
    rintro e w1 ⟨rfl, hb1⟩
    go_wp2_with fail
    refine (r1 _ (by (repeat (first | exact bl_refl | assumption | (apply bl_then; assumption) | refine bl_alloc ?_ _ | refine bl_drew ?_ | refine bl_drewN ?_ _)))).mono ?_
    rintro e w2 ⟨rfl, hb2⟩
    go_wp2_with fail
    refine (ca _ (by (repeat (first | exact bl_refl | assumption | (apply bl_then; assumption) | refine bl_alloc ?_ _ | refine bl_drew ?_ | refine bl_drewN ?_ _)))).mono ?_
    rintro e w3 ⟨rfl, hb3⟩
    go_wp2
    go_ret
    exact ⟨rfl, by (repeat (first | exact bl_refl | assumption | (apply bl_then; assumption) | refine bl_alloc ?_ _ | refine bl_drew ?_ | refine bl_drewN ?_ _))⟩
  have t3 : (1000 < (s.length : Int)) = False := eq_false (by omega)
  have hpl := print_len hE (by omega)
  have pE : printE l = 0 := by unfold printE; rw [if_neg (fun q => q hE), if_neg (by omega)]
  have pS : printS l = printL l := by unfold printS; rw [if_pos pE]
  have hpp := parse_print hE (by omega)
  have p1 := fun W z (q : SlB W z l) (hb : Below w.heap.size w W) => apiPrint_any l W q (hL.below hb)
  rw [pE, pS] at p1
  have q1 := fun W (hb : Below w.heap.size w W) => apiParse_any (printL l) W (hL.below hb)
  rw [hpp] at q1
  have hcut : l ≠ [] → printL l ≠ [] ∧ ∃ k : Nat, parseR ((printL l).take ((printL l).length - 1)) = ([], (k : Int), 25) := fun hne => parse_cut hE hne (by omega)
  have hemp : l = [] → printL l = [] := fun e => by rw [e]; rfl
  obtain ⟨T, hT⟩ : ∃ T, printL l = T := ⟨_, rfl⟩
  rw [hT] at p1 q1 hcut hemp hpl
  rw [hE] at r1
  unfold sV at p1
  have HC := Lib.hid hcut
  have HM := Lib.hid hemp
  have la : l.length ≤ 100000 := by omega
  have q2 := fun W (hb : Below w.heap.size w W) => apiParse_any s W (hL.below hb)
  obtain ⟨⟨X, at_, e3⟩, hX⟩ : ∃ o, parseR s = o := ⟨_, rfl⟩
  rw [hX] at q2
  have HX : Hid (e3 = 0 → netE X = 0 ∧ printL X = s ∧ s.length ≤ 65536) := fun e => print_parse (by rw [hX, e])
  clear h1 h3 hE pE pS hpp hcut hemp hT hX
  go_enter Tryz.func7, Tryz.ntmps7
  go_wp2_with fail
  refine (ca _ (by (repeat (first | exact bl_refl | assumption | (apply bl_then; assumption) | refine bl_alloc ?_ _ | refine bl_drew ?_ | refine bl_drewN ?_ _)))).mono ?_
  rintro e w1 ⟨rfl, hb1⟩
  go_wp2_with fail
  refine (r1 _ (by (repeat (first | exact bl_refl | assumption | (apply bl_then; assumption) | refine bl_alloc ?_ _ | refine bl_drew ?_ | refine bl_drewN ?_ _)))).mono ?_
  rintro e w2 ⟨rfl, hb2⟩
  go_wp2_with fail
  refine (copied_any l _ (hA.below (by (repeat (first | exact bl_refl | assumption | (apply bl_then; assumption) | refine bl_alloc ?_ _ | refine bl_drew ?_ | refine bl_drewN ?_ _)))) la).mono ?_
  rintro e w3 ⟨v3, rfl, hC3, hb3⟩
  go_wp2_with fail
  refine (p1 _ _ (hC3.rd bc_len) (by (repeat (first | exact bl_refl | assumption | (apply bl_then; assumption) | refine bl_alloc ?_ _ | refine bl_drew ?_ | refine bl_drewN ?_ _)))).mono ?_
  rintro e w4 ⟨rfl, hb4⟩
  go_wp2_with fail
  refine (q1 _ (by (repeat (first | exact bl_refl | assumption | (apply bl_then; assumption) | refine bl_alloc ?_ _ | refine bl_drew ?_ | refine bl_drewN ?_ _)))).mono ?_
  rintro e w5 ⟨v5, rfl, hP5, hb5⟩
  go_wp2_with fail
  refine (aSame _ _ _ (hP5.rd bc_len) (hA.below (by (repeat (first | exact bl_refl | assumption | (apply bl_then; assumption) | refine bl_alloc ?_ _ | refine bl_drew ?_ | refine bl_drewN ?_ _)))) rfl).mono ?_
  rintro e w6 ⟨rfl, hb6⟩
  go_wp2_with fail
  refine (q2 _ (by (repeat (first | exact bl_refl | assumption | (apply bl_then; assumption) | refine bl_alloc ?_ _ | refine bl_drew ?_ | refine bl_drewN ?_ _)))).mono ?_
  rintro e w7 ⟨v7, rfl, hP7, hb7⟩
  have hS7 := hP7.rd bc_len
  have hbw7 : Below w.heap.size w w7 := by (repeat (first | exact bl_refl | assumption | (apply bl_then; assumption) | refine bl_alloc ?_ _ | refine bl_drew ?_ | refine bl_drewN ?_ _))
  clear hb1 hb2 hb3 hb4 hb5 hb6 hb7 hC3 hP5 hP7
  simp only at hS7
  go_upto_if 69 with fail
  go_cut [13, 14] from 68 (fun _ _ wx => Below w7.heap.size w7 wx)
  case first =>
    by_cases he : e3 = 0
    · obtain ⟨x1, x2, x3⟩ := HX.out he
      have y1 : printE X = 0 := by unfold printE; rw [if_neg (fun q => q x1), if_neg (by rw [x2]; omega)]
      have y2 : printS X = s := by unfold printS; rw [if_pos y1, x2]
      have p2 := fun W z (q : SlB W z X) (hb : Below w.heap.size w W) => apiPrint_any X W q (hL.below hb)
      rw [y1, y2] at p2
      unfold sV at p2
      have hXl := (netE_ok x1).len
      subst he
      clear x1 x2 x3 y1 y2
      go_wp2_with fail
      refine (copied_any X _ hS7 (by omega)).mono ?_
      rintro e w8 ⟨v8, rfl, hC8, hb8⟩
      go_wp2_with fail
      refine (p2 _ _ (hC8.rd bc_len) (by (repeat (first | exact bl_refl | assumption | (apply bl_then; assumption) | refine bl_alloc ?_ _ | refine bl_drew ?_ | refine bl_drewN ?_ _)))).mono ?_
      rintro e w9 ⟨rfl, hb9⟩
      go_wp2_with fail
      go_meet
      case rel => exact (by (repeat (first | exact bl_refl | assumption | (apply bl_then; assumption) | refine bl_alloc ?_ _ | refine bl_drew ?_ | refine bl_drewN ?_ _)))
    · have t4 : (e3 == 0) = false := beq_false_of_ne he
      clear he
      go_wp2_with fail
      go_meet
      case rel => exact (by (repeat (first | exact bl_refl | assumption | (apply bl_then; assumption) | refine bl_alloc ?_ _ | refine bl_drew ?_ | refine bl_drewN ?_ _)))
  have hbw8 := bl_then hcut hbw7
  clear hcut hbw7 hS7
  by_cases hl0 : l = []
  · have hT0 := HM.out hl0
    subst hT0 hl0
    go_wp2
    go_ret
    exact ⟨rfl, hbw8⟩
  · obtain ⟨hTn, k, hk⟩ := HC.out hl0
    have t5 : ((T.length : Int) == 0) = false := beq_false_of_ne (by have := List.length_pos_iff.2 hTn; omega)
    have hTp := List.length_pos_iff.2 hTn
    have q3 := fun W (hb : Below w.heap.size w W) => apiParse_any (T.take (T.length - 1)) W (hL.below hb)
    rw [hk, ← str_take] at q3
    have t6 : ((T.length : Int) - 1) = ((T.length - 1 : Nat) : Int) := by omega
    have t7 : (0 ≤ (k : Int)) = True := eq_true (by omega)
    go_wp2_with fail
    refine (q3 _ hbw8).mono ?_
    rintro e w9 ⟨v9, rfl, hP9, hb9⟩
    go_wp2
    go_ret
    exact ⟨rfl, by (repeat (first | exact bl_refl | assumption | (apply bl_then; assumption) | refine bl_alloc ?_ _ | refine bl_drew ?_ | refine bl_drewN ?_ _))⟩
end Go.Proofs.YtkmjcoofkgpanaaGreatDoor

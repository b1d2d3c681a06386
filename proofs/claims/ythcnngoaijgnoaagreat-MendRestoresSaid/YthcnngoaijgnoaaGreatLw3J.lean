/- The statement MendPatches, walked. Conditions: slices that read as lists. -/
import Derived.Test.YthcnngoaijgnoaaGreatK11
import Derived.Test.YthcnngoaijgnoaaGreatLw1J
import Derived.Test.YthcnngoaijgnoaaGreatRcwJ
namespace Go.Proofs.YthcnngoaijgnoaaGreat
open Go.RowKit Go.ChangeMaps
set_option maxHeartbeats 8000000
set_option maxRecDepth 100000

theorem firstI_two (a b : Int) : firstI [a, b] = if a = 0 then b else a := by
  unfold firstI
  split
  · unfold firstI
    split
    · rename_i h; rw [h]; rfl
    · rfl
  · rfl
theorem Sl.chg1 {α : Type} {enc : α → List Value} {sz g : Nat} {w w' : World} {v : Value} {l : List α} (h : Sl enc sz w v l) (hc : Chg [g] w w') (hn : v.ownBlock ≠ some g) : Sl enc sz w' v l := by
  obtain ⟨A, c, rfl, h1, h2, hr⟩ := h
  refine ⟨A, c, rfl, h1, h2, fun i x hx => ?_⟩
  obtain ⟨b, off, rfl, hb, hcl⟩ := hr i x hx
  have hbg : b ∉ [g] := by
    intro hm
    obtain rfl : b = g := by simpa using hm
    exact hn rfl
  have hh := hc.block b hb hbg
  refine ⟨b, off, rfl, Nat.lt_of_lt_of_le hb hc.size, fun j u hu => ?_⟩
  rw [← hcl j u hu]
  simp [World.cell?, hh]
theorem patchE_some (N D P : List Bar) : firstI [tornE N D, someE P D] = patchE N D P := by
  unfold patchE netsE
  rw [firstI_two, firstI_two]
  unfold someE
  by_cases h1 : tornE N D = 0
  · rw [if_pos h1, if_pos h1]
  · rw [if_neg h1, if_neg h1, if_neg h1]
theorem mendPatches_any {v u z : Value} (N D P : List Bar) (w : World) (hN : SlB w v N) (hD : SlB w u D) (hP : SlB w z P) : Calls Tryz.prog 5 #[.agg #[v, u], z] w (RV w (.bool true)) := by
  have hD' := hD
  obtain ⟨A2, c2, rfl, hlc2, hcm2, hr2⟩ := hD'
  have hP' := hP
  obtain ⟨A3, c3, rfl, hlc3, hcm3, hr3⟩ := hP'
  have hN' := hN
  obtain ⟨A1, c1, rfl, _, _, hr1⟩ := hN'
  clear hr2 hr3 hr1
  have hl2 : D.length ≤ maxLen := Nat.le_trans hlc2 hcm2
  have hl3 : P.length ≤ maxLen := Nat.le_trans hlc3 hcm3
  unfold maxLen at hl2 hl3
  have hB := Blk.new w 24 #[.slice A1 N.length c1, .slice A2 D.length c2]
  have fhB := hB.facts
  have hshort := fun W (hN : SlB W (.slice A1 N.length c1) N) (hD : SlB W (.slice A2 D.length c2) D) => short_any N D 40 W hN hD
  obtain ⟨qs, hqs⟩ : ∃ q, (decide ((N.length : Int) ≤ 40) && decide ((D.length : Int) ≤ 40)) = q := ⟨_, rfl⟩
  simp only [hqs] at hshort
  cases qs
  · clear hqs
    go_enter Tryz.func5, Tryz.ntmps5
    go_wp2_with fail
    refine (hshort _ (hN.below (by (repeat (first | exact bl_refl | assumption | (apply bl_then; assumption) | refine bl_alloc ?_ _ | refine bl_drew ?_ | refine bl_drewN ?_ _)))) (hD.below (by (repeat (first | exact bl_refl | assumption | (apply bl_then; assumption) | refine bl_alloc ?_ _ | refine bl_drew ?_ | refine bl_drewN ?_ _))))).mono ?_
    rintro e w1 ⟨rfl, hb1⟩
    replace hB := hB.below (show Below _ _ w1 by (repeat (first | exact bl_refl | assumption | (apply bl_then; assumption) | refine bl_alloc ?_ _ | refine bl_drew ?_ | refine bl_drewN ?_ _)))
    replace fhB := hB.facts
    go_wp2_with fail
    refine (awake_any _).mono ?_
    rintro e w2 ⟨rfl, hb2⟩
    go_wp2
    go_ret
    exact ⟨rfl, by (repeat (first | exact bl_refl | assumption | (apply bl_then; assumption) | refine bl_alloc ?_ _ | refine bl_drew ?_ | refine bl_drewN ?_ _))⟩
  · have hs : N.length ≤ 40 ∧ D.length ≤ 40 := by simp at hqs; omega
    clear hqs
    by_cases hp : P.length ≤ 40
    · have hp' : ((40 : Int) < (P.length : Int)) = False := by simp; omega
      go_enter Tryz.func5, Tryz.ntmps5
      go_wp2_with fail
      refine (hshort _ (hN.below (by (repeat (first | exact bl_refl | assumption | (apply bl_then; assumption) | refine bl_alloc ?_ _ | refine bl_drew ?_ | refine bl_drewN ?_ _)))) (hD.below (by (repeat (first | exact bl_refl | assumption | (apply bl_then; assumption) | refine bl_alloc ?_ _ | refine bl_drew ?_ | refine bl_drewN ?_ _))))).mono ?_
      rintro e w1 ⟨rfl, hb1⟩
      replace hB := hB.below (show Below _ _ w1 by (repeat (first | exact bl_refl | assumption | (apply bl_then; assumption) | refine bl_alloc ?_ _ | refine bl_drew ?_ | refine bl_drewN ?_ _)))
      replace fhB := hB.facts
      clear hshort
      go_wp2_with fail
      refine (torn_any N D _ (hN.below (by (repeat (first | exact bl_refl | assumption | (apply bl_then; assumption) | refine bl_alloc ?_ _ | refine bl_drew ?_ | refine bl_drewN ?_ _)))) (hD.below (by (repeat (first | exact bl_refl | assumption | (apply bl_then; assumption) | refine bl_alloc ?_ _ | refine bl_drew ?_ | refine bl_drewN ?_ _)))) (by omega) (by omega)).mono ?_
      rintro e w2 ⟨v2, u2, rfl, hN2, hD2, hb2⟩
      replace hB := hB.below (show Below _ _ w2 by (repeat (first | exact bl_refl | assumption | (apply bl_then; assumption) | refine bl_alloc ?_ _ | refine bl_drew ?_ | refine bl_drewN ?_ _)))
      replace fhB := hB.facts
      go_wp2_with fail
      refine (pinner_any N D _ (hN2.rd bc_len) (hD2.rd bc_len)).mono ?_
      rintro e w3 ⟨v3, rfl, hI3, hb3⟩
      replace hB := hB.below (show Below _ _ w3 by (repeat (first | exact bl_refl | assumption | (apply bl_then; assumption) | refine bl_alloc ?_ _ | refine bl_drew ?_ | refine bl_drewN ?_ _)))
      replace fhB := hB.facts
      obtain ⟨A4, c4, rfl⟩ := hI3.shape
      clear hN2 hD2
      go_wp2_with fail
      refine (torn_any N D _ (hN.below (by (repeat (first | exact bl_refl | assumption | (apply bl_then; assumption) | refine bl_alloc ?_ _ | refine bl_drew ?_ | refine bl_drewN ?_ _)))) (hD.below (by (repeat (first | exact bl_refl | assumption | (apply bl_then; assumption) | refine bl_alloc ?_ _ | refine bl_drew ?_ | refine bl_drewN ?_ _)))) (by omega) (by omega)).mono ?_
      rintro e w4 ⟨v4, u4, rfl, hN4, hD4, hb4⟩
      replace hB := hB.below (show Below _ _ w4 by (repeat (first | exact bl_refl | assumption | (apply bl_then; assumption) | refine bl_alloc ?_ _ | refine bl_drew ?_ | refine bl_drewN ?_ _)))
      replace fhB := hB.facts
      go_wp2_with fail
      refine (bars_any P _ (hP.below (by (repeat (first | exact bl_refl | assumption | (apply bl_then; assumption) | refine bl_alloc ?_ _ | refine bl_drew ?_ | refine bl_drewN ?_ _)))) (by omega)).mono ?_
      rintro e w5 ⟨v5, rfl, hP5, hb5⟩
      replace hB := hB.below (show Below _ _ w5 by (repeat (first | exact bl_refl | assumption | (apply bl_then; assumption) | refine bl_alloc ?_ _ | refine bl_drew ?_ | refine bl_drewN ?_ _)))
      replace fhB := hB.facts
      go_wp2_with fail
      refine (seam_any N D P _ ((hN4.rd bc_len).below (by (repeat (first | exact bl_refl | assumption | (apply bl_then; assumption) | refine bl_alloc ?_ _ | refine bl_drew ?_ | refine bl_drewN ?_ _)))) ((hD4.rd bc_len).below (by (repeat (first | exact bl_refl | assumption | (apply bl_then; assumption) | refine bl_alloc ?_ _ | refine bl_drew ?_ | refine bl_drewN ?_ _)))) (hP5.rd bc_len)).mono ?_
      rintro e w6 ⟨v6, u6, rfl, hN6, hD6, _, hb6⟩
      replace hB := hB.below (show Below _ _ w6 by (repeat (first | exact bl_refl | assumption | (apply bl_then; assumption) | refine bl_alloc ?_ _ | refine bl_drew ?_ | refine bl_drewN ?_ _)))
      replace fhB := hB.facts
      obtain ⟨A6, c6, rfl⟩ := hN6.shape
      obtain ⟨A7, c7, rfl⟩ := hD6.shape
      clear hN4 hD4 hP5
      have hS := Blk.new w6 32 #[.slice A6 (seamN N D P).length c6, .slice A7 (seamD N D P).length c7]
      replace hB := hB.alloc (.cells #[.slice A6 (seamN N D P).length c6, .slice A7 (seamD N D P).length c7] 32)
      replace fhB := hB.facts
      have fhS := hS.facts
      go_wp2_with fail
      refine (torn_any N D _ (hN.below (by (repeat (first | exact bl_refl | assumption | (apply bl_then; assumption) | refine bl_alloc ?_ _ | refine bl_drew ?_ | refine bl_drewN ?_ _)))) (hD.below (by (repeat (first | exact bl_refl | assumption | (apply bl_then; assumption) | refine bl_alloc ?_ _ | refine bl_drew ?_ | refine bl_drewN ?_ _)))) (by omega) (by omega)).mono ?_
      rintro e w7 ⟨v7, u7, rfl, hN7, hD7, hb7⟩
      replace hB := hB.below (show Below _ _ w7 by (repeat (first | exact bl_refl | assumption | (apply bl_then; assumption) | refine bl_alloc ?_ _ | refine bl_drew ?_ | refine bl_drewN ?_ _)))
      replace fhB := hB.facts
      replace hS := hS.below (show Below _ _ w7 by (repeat (first | exact bl_refl | assumption | (apply bl_then; assumption) | refine bl_alloc ?_ _ | refine bl_drew ?_ | refine bl_drewN ?_ _)))
      replace fhS := hS.facts
      go_wp2_with fail
      refine (bars_any P _ (hP.below (by (repeat (first | exact bl_refl | assumption | (apply bl_then; assumption) | refine bl_alloc ?_ _ | refine bl_drew ?_ | refine bl_drewN ?_ _)))) (by omega)).mono ?_
      rintro e w8 ⟨v8, rfl, hP8, hb8⟩
      replace hB := hB.below (show Below _ _ w8 by (repeat (first | exact bl_refl | assumption | (apply bl_then; assumption) | refine bl_alloc ?_ _ | refine bl_drew ?_ | refine bl_drewN ?_ _)))
      replace fhB := hB.facts
      replace hS := hS.below (show Below _ _ w8 by (repeat (first | exact bl_refl | assumption | (apply bl_then; assumption) | refine bl_alloc ?_ _ | refine bl_drew ?_ | refine bl_drewN ?_ _)))
      replace fhS := hS.facts
      go_wp2_with fail
      refine (checkPatchP_any N D P _ ((hN7.rd bc_len).below (by (repeat (first | exact bl_refl | assumption | (apply bl_then; assumption) | refine bl_alloc ?_ _ | refine bl_drew ?_ | refine bl_drewN ?_ _)))) ((hD7.rd bc_len).below (by (repeat (first | exact bl_refl | assumption | (apply bl_then; assumption) | refine bl_alloc ?_ _ | refine bl_drew ?_ | refine bl_drewN ?_ _)))) (hP8.rd bc_len)).mono ?_
      rintro e w9 ⟨rfl, hb9⟩
      replace hB := hB.below (show Below _ _ w9 by (repeat (first | exact bl_refl | assumption | (apply bl_then; assumption) | refine bl_alloc ?_ _ | refine bl_drew ?_ | refine bl_drewN ?_ _)))
      replace fhB := hB.facts
      replace hS := hS.below (show Below _ _ w9 by (repeat (first | exact bl_refl | assumption | (apply bl_then; assumption) | refine bl_alloc ?_ _ | refine bl_drew ?_ | refine bl_drewN ?_ _)))
      replace fhS := hS.facts
      clear hN7 hD7 hP8
      go_wp2_with fail
      refine (rtorn_any N D _ (hN.below (by (repeat (first | exact bl_refl | assumption | (apply bl_then; assumption) | refine bl_alloc ?_ _ | refine bl_drew ?_ | refine bl_drewN ?_ _)))) (hD.below (by (repeat (first | exact bl_refl | assumption | (apply bl_then; assumption) | refine bl_alloc ?_ _ | refine bl_drew ?_ | refine bl_drewN ?_ _))))).mono ?_
      rintro e w10 ⟨rfl, hb10⟩
      replace hB := hB.below (show Below _ _ w10 by (repeat (first | exact bl_refl | assumption | (apply bl_then; assumption) | refine bl_alloc ?_ _ | refine bl_drew ?_ | refine bl_drewN ?_ _)))
      replace fhB := hB.facts
      replace hS := hS.below (show Below _ _ w10 by (repeat (first | exact bl_refl | assumption | (apply bl_then; assumption) | refine bl_alloc ?_ _ | refine bl_drew ?_ | refine bl_drewN ?_ _)))
      replace fhS := hS.facts
      go_wp2_with fail
      refine (rsome_any P D _ (hP.below (by (repeat (first | exact bl_refl | assumption | (apply bl_then; assumption) | refine bl_alloc ?_ _ | refine bl_drew ?_ | refine bl_drewN ?_ _)))) (hD.below (by (repeat (first | exact bl_refl | assumption | (apply bl_then; assumption) | refine bl_alloc ?_ _ | refine bl_drew ?_ | refine bl_drewN ?_ _))))).mono ?_
      rintro e w11 ⟨rfl, hb11⟩
      replace hB := hB.below (show Below _ _ w11 by (repeat (first | exact bl_refl | assumption | (apply bl_then; assumption) | refine bl_alloc ?_ _ | refine bl_drew ?_ | refine bl_drewN ?_ _)))
      replace fhB := hB.facts
      replace hS := hS.below (show Below _ _ w11 by (repeat (first | exact bl_refl | assumption | (apply bl_then; assumption) | refine bl_alloc ?_ _ | refine bl_drew ?_ | refine bl_drewN ?_ _)))
      replace fhS := hS.facts
      go_wp2_with fail
      refine (first2_any (tornE N D) (someE P D) _).mono ?_
      rintro e w12 ⟨rfl, hb12⟩
      replace hB := hB.below (show Below _ _ w12 by (repeat (first | exact bl_refl | assumption | (apply bl_then; assumption) | refine bl_alloc ?_ _ | refine bl_drew ?_ | refine bl_drewN ?_ _)))
      replace fhB := hB.facts
      replace hS := hS.below (show Below _ _ w12 by (repeat (first | exact bl_refl | assumption | (apply bl_then; assumption) | refine bl_alloc ?_ _ | refine bl_drew ?_ | refine bl_drewN ?_ _)))
      replace fhS := hS.facts
      rw [patchE_some]
      have hI12 : SlB w12 _ _ := (hI3.rd bc_len).below (by (repeat (first | exact bl_refl | assumption | (apply bl_then; assumption) | refine bl_alloc ?_ _ | refine bl_drew ?_ | refine bl_drewN ?_ _)))
      have hN12 : SlB w12 _ _ := (hN6.rd bc_len).below (by (repeat (first | exact bl_refl | assumption | (apply bl_then; assumption) | refine bl_alloc ?_ _ | refine bl_drew ?_ | refine bl_drewN ?_ _)))
      have hD12 : SlB w12 _ _ := (hD6.rd bc_len).below (by (repeat (first | exact bl_refl | assumption | (apply bl_then; assumption) | refine bl_alloc ?_ _ | refine bl_drew ?_ | refine bl_drewN ?_ _)))
      have hIg : (Value.slice A4 (innerL N D).length c4).ownBlock ≠ some w12.heap.size := fun h => by have h1 := (hI3.lt _ h).2; have h2 := (show Below w3.heap.size w3 w12 by (repeat (first | exact bl_refl | assumption | (apply bl_then; assumption) | refine bl_alloc ?_ _ | refine bl_drew ?_ | refine bl_drewN ?_ _))).size; omega
      have hNg : (Value.slice A6 (seamN N D P).length c6).ownBlock ≠ some w12.heap.size := fun h => by have h1 := (hN6.lt _ h).2; have h2 := (show Below w6.heap.size w6 w12 by (repeat (first | exact bl_refl | assumption | (apply bl_then; assumption) | refine bl_alloc ?_ _ | refine bl_drew ?_ | refine bl_drewN ?_ _))).size; omega
      have hDg : (Value.slice A7 (seamD N D P).length c7).ownBlock ≠ some w12.heap.size := fun h => by have h1 := (hD6.lt _ h).2; have h2 := (show Below w6.heap.size w6 w12 by (repeat (first | exact bl_refl | assumption | (apply bl_then; assumption) | refine bl_alloc ?_ _ | refine bl_drew ?_ | refine bl_drewN ?_ _))).size; omega
      have hbw12 : Below w.heap.size w w12 := by (repeat (first | exact bl_refl | assumption | (apply bl_then; assumption) | refine bl_alloc ?_ _ | refine bl_drew ?_ | refine bl_drewN ?_ _))
      clear hI3 hN6 hD6 hb1 hb2 hb3 hb4 hb5 hb6 hb7 hb8 hb9 hb10 hb11 hb12
      have hwB := hB.lt
      have hwS := hS.lt
      have hR := Blk.new w12 24 #[.slice none 0 0, .slice none 0 0]
      replace hB := hB.alloc (.cells #[.slice none 0 0, .slice none 0 0] 24)
      replace hS := hS.alloc (.cells #[.slice none 0 0, .slice none 0 0] 24)
      have hbx : Below w.heap.size w (w12.alloc (.cells #[.slice none 0 0, .slice none 0 0] 24)) := bl_alloc hbw12 _
      have hIx := hI12.alloc (.cells #[.slice none 0 0, .slice none 0 0] 24)
      have hNx := hN12.alloc (.cells #[.slice none 0 0, .slice none 0 0] 24)
      have hDx := hD12.alloc (.cells #[.slice none 0 0, .slice none 0 0] 24)
      obtain ⟨g, hg⟩ : ∃ g, w12.heap.size = g := ⟨_, rfl⟩
      obtain ⟨g6, hg6⟩ : ∃ g, w6.heap.size = g := ⟨_, rfl⟩
      rw [hg] at hR hwB hwS hIg hNg hDg
      rw [hg6] at hS hwS
      go_upto_if 54 with fail
      obtain ⟨w13, hw13⟩ : ∃ X, w12.alloc (.cells #[.slice none 0 0, .slice none 0 0] 24) = X := ⟨_, rfl⟩
      rw [hw13] at hB hS hR hbx hIx hNx hDx ⊢
      replace fhB := hB.facts
      replace fhS := hS.facts
      have fhR := hR.facts
      clear hI12 hN12 hD12 hbw12 hw13 hg hg6
      go_cut [13] from 15 (fun s wx => SlB wx s (innerL N D) ∧ s.ownBlock ≠ some g ∧ Below w13.heap.size w13 wx)
      case first =>
        by_cases hE : tornE N D = 0
        · have hE' : (tornE N D == 0) = true := by rw [hE]; rfl
          have hok := torn_ok hE
          have HR : Hid (innerL N D = D.filter (inB D)) := by unfold Hid innerL; rw [if_pos hE]
          clear hE
          go_wp2_with fail
          refine (rinner_any D _ (hD.below (by (repeat (first | exact bl_refl | assumption | (apply bl_then; assumption) | refine bl_alloc ?_ _ | refine bl_drew ?_ | refine bl_drewN ?_ _)))) hok.dam.ok (by omega)).mono ?_
          rintro e w14 ⟨v14, rfl, hX14, hb14⟩
          go_wp2_with fail
          go_meet
          case rel => exact ⟨by rw [HR.out]; exact hX14.rd bc_len, fun h => by have h1 := (hX14.lt _ h).1; have h2 := hR.lt; omega, by (repeat (first | exact bl_refl | assumption | (apply bl_then; assumption) | refine bl_alloc ?_ _ | refine bl_drew ?_ | refine bl_drewN ?_ _))⟩
        · have hE' : (tornE N D == 0) = false := by simpa using hE
          have HR : Hid (innerL N D = []) := by unfold Hid innerL; rw [if_neg hE]
          clear hE
          go_wp2_with fail
          go_meet
          case rel => exact ⟨by rw [HR.out]; exact Sl.nil_, (fun h => by cases h), by (repeat (first | exact bl_refl | assumption | (apply bl_then; assumption) | refine bl_alloc ?_ _ | refine bl_drew ?_ | refine bl_drewN ?_ _))⟩
      case rest =>
        obtain ⟨hJ, hJg, hbc⟩ := hcut
        replace hB := hB.below hbc
        replace hS := hS.below hbc
        replace hR := hR.below hbc
        replace fhB := hB.facts
        replace fhS := hS.facts
        replace fhR := hR.facts
        replace hIx := hIx.below hbc
        replace hNx := hNx.below hbc
        replace hDx := hDx.below hbc
        have hbwc : Below w.heap.size w wc := bl_then hbc hbx
        clear hbc hbx
        go_upto_if 58 with fail
        go_cut [12] from 15 (fun s wx => s = .int .i64 (cpatchE N D P) ∧ (∃ x0 x1, Blk wx g 24 #[x0, x1] ∧ SlB wx x0 (seamN N D P) ∧ SlB wx x1 (seamD N D P)) ∧ Blk wx g6 32 #[.slice A6 (seamN N D P).length c6, .slice A7 (seamD N D P).length c7] ∧ SlB wx (.slice A4 (innerL N D).length c4) (innerL N D) ∧ SlB wx u13 (innerL N D) ∧ SlB wx (.slice A6 (seamN N D P).length c6) (seamN N D P) ∧ SlB wx (.slice A7 (seamD N D P).length c7) (seamD N D P) ∧ Below w.heap.size w wx)
        case first =>
          by_cases hE : patchE N D P = 0
          · have hE' : (patchE N D P == 0) = true := by rw [hE]; rfl
            obtain ⟨hok, hnp, _⟩ := patch_ok hE
            have HC : Hid (cpatchE N D P = whenI (!rdyB (wout D P)) 18) := by unfold Hid cpatchE; rw [if_pos hE]
            have HSN : Hid (seamN N D P = N ∧ seamD N D P = wout D P) := by unfold Hid seamN seamD; rw [if_pos hE, if_pos hE]; exact ⟨rfl, rfl⟩
            have hwk : ∀ b ∈ wout D P, BarOk b := fun b hb => hok.dam.ok b (List.mem_filter.1 hb).1
            have hwl := wout_len D P
            clear hE
            go_wp2_with (first | (go_at_call 40; refine (rseam_any N D P _ (hN.below (by (repeat (first | exact bl_refl | assumption | (apply bl_then; assumption) | refine bl_alloc ?_ _ | refine bl_drew ?_ | refine bl_drewN ?_ _)))) (hD.below (by (repeat (first | exact bl_refl | assumption | (apply bl_then; assumption) | refine bl_alloc ?_ _ | refine bl_drew ?_ | refine bl_drewN ?_ _)))) (hP.below (by (repeat (first | exact bl_refl | assumption | (apply bl_then; assumption) | refine bl_alloc ?_ _ | refine bl_drew ?_ | refine bl_drewN ?_ _)))) (by omega)).mono ?_; rintro e w14 ⟨u14, rfl, hX14, hb14⟩; obtain ⟨A8, c8, rfl⟩ := hX14.shape; have hR14 := hR.below hb14) | (refine wpList_store_blk hR14 rfl _ _ _ rfl rfl rfl (by rfl) (by kernel_rfl) (by kernel_rfl) ?_; intro w15 hR15 hc15; have f15 := hR15.facts))
            have hb15 : Below w.heap.size w w15 := ((Chg.of_below (S := [g]) (bl_then hb14 hbwc)).trans hc15).below (by simp; omega) (Nat.le_refl _)
            have hS15 := (hS.below hb14).chg hc15 (by simp; omega)
            have hI15 := (hIx.below hb14).chg1 hc15 hIg
            have hJ15 := (hJ.below hb14).chg1 hc15 hJg
            have hN15 := (hNx.below hb14).chg1 hc15 hNg
            have hD15 := (hDx.below hb14).chg1 hc15 hDg
            have hX15 := (hX14.rd bc_len).chg1 hc15 (fun h => by have h1 := (hX14.lt _ h).1; have h2 := hR.lt; omega)
            refine (rready_any (wout D P) _ hX15 hwk (by omega)).mono ?_
            rintro e w16 ⟨rfl, hb16⟩
            go_wp2_with fail
            refine (lwhen_any (!rdyB (wout D P)) 18 _).mono ?_
            rintro e w17 ⟨rfl, hb17⟩
            have hbL : Below w15.heap.size w15 w17 := by (repeat (first | exact bl_refl | assumption | (apply bl_then; assumption) | refine bl_alloc ?_ _ | refine bl_drew ?_ | refine bl_drewN ?_ _))
            go_wp2_with fail
            go_meet
            case rel => exact ⟨by rw [HC.out], ⟨_, _, hR15.below hbL, by rw [HSN.out.1]; exact hN.below (bl_then hbL hb15), by rw [HSN.out.2]; exact hX15.below hbL⟩, hS15.below hbL, hI15.below hbL, hJ15.below hbL, hN15.below hbL, hD15.below hbL, bl_then hbL hb15⟩
          · have hE' : (patchE N D P == 0) = false := by simpa using hE
            have HC : Hid (cpatchE N D P = patchE N D P) := by unfold Hid cpatchE; rw [if_neg hE]
            have HSN : Hid (seamN N D P = [] ∧ seamD N D P = []) := by unfold Hid seamN seamD; rw [if_neg hE, if_neg hE]; exact ⟨rfl, rfl⟩
            clear hE
            go_wp2_with fail
            go_meet
            case rel => exact ⟨by rw [HC.out], ⟨_, _, hR, by rw [HSN.out.1]; exact Sl.nil_, by rw [HSN.out.2]; exact Sl.nil_⟩, hS, hIx, hJ, hNx, hDx, hbwc⟩
        case rest =>
          obtain ⟨rfl, ⟨x0, x1, hR, hX0, hX1⟩, hS, hIx, hJ, hNx, hDx, hbwc⟩ := hcut
          have fhS := hS.facts
          have fhR := hR.facts
          go_wp2_with fail
          refine (sameBars_any _ _ _ hIx hJ).mono ?_
          rintro e w16 ⟨rfl, hb16⟩
          replace hS := hS.below (show Below _ _ w16 by (repeat (first | exact bl_refl | assumption | (apply bl_then; assumption) | refine bl_alloc ?_ _ | refine bl_drew ?_ | refine bl_drewN ?_ _)))
          replace fhS := hS.facts
          replace hR := hR.below (show Below _ _ w16 by (repeat (first | exact bl_refl | assumption | (apply bl_then; assumption) | refine bl_alloc ?_ _ | refine bl_drew ?_ | refine bl_drewN ?_ _)))
          replace fhR := hR.facts
          go_wp2_with fail
          refine (sameBars_any _ _ _ (hNx.below (by (repeat (first | exact bl_refl | assumption | (apply bl_then; assumption) | refine bl_alloc ?_ _ | refine bl_drew ?_ | refine bl_drewN ?_ _)))) (hX0.below (by (repeat (first | exact bl_refl | assumption | (apply bl_then; assumption) | refine bl_alloc ?_ _ | refine bl_drew ?_ | refine bl_drewN ?_ _))))).mono ?_
          rintro e w17 ⟨rfl, hb17⟩
          replace hS := hS.below (show Below _ _ w17 by (repeat (first | exact bl_refl | assumption | (apply bl_then; assumption) | refine bl_alloc ?_ _ | refine bl_drew ?_ | refine bl_drewN ?_ _)))
          replace fhS := hS.facts
          replace hR := hR.below (show Below _ _ w17 by (repeat (first | exact bl_refl | assumption | (apply bl_then; assumption) | refine bl_alloc ?_ _ | refine bl_drew ?_ | refine bl_drewN ?_ _)))
          replace fhR := hR.facts
          go_wp2_with fail
          refine (sameBars_any _ _ _ (hDx.below (by (repeat (first | exact bl_refl | assumption | (apply bl_then; assumption) | refine bl_alloc ?_ _ | refine bl_drew ?_ | refine bl_drewN ?_ _)))) (hX1.below (by (repeat (first | exact bl_refl | assumption | (apply bl_then; assumption) | refine bl_alloc ?_ _ | refine bl_drew ?_ | refine bl_drewN ?_ _))))).mono ?_
          rintro e w18 ⟨rfl, hb18⟩
          replace hS := hS.below (show Below _ _ w18 by (repeat (first | exact bl_refl | assumption | (apply bl_then; assumption) | refine bl_alloc ?_ _ | refine bl_drew ?_ | refine bl_drewN ?_ _)))
          replace fhS := hS.facts
          replace hR := hR.below (show Below _ _ w18 by (repeat (first | exact bl_refl | assumption | (apply bl_then; assumption) | refine bl_alloc ?_ _ | refine bl_drew ?_ | refine bl_drewN ?_ _)))
          replace fhR := hR.facts
          go_wp2_with fail
          refine (awake_any _).mono ?_
          rintro e w19 ⟨rfl, hb19⟩
          go_wp2
          go_ret
          exact ⟨rfl, by (repeat (first | exact bl_refl | assumption | (apply bl_then; assumption) | refine bl_alloc ?_ _ | refine bl_drew ?_ | refine bl_drewN ?_ _))⟩
    · have hp' : ((40 : Int) < (P.length : Int)) = True := by simp; omega
      go_enter Tryz.func5, Tryz.ntmps5
      go_wp2_with fail
      refine (hshort _ (hN.below (by (repeat (first | exact bl_refl | assumption | (apply bl_then; assumption) | refine bl_alloc ?_ _ | refine bl_drew ?_ | refine bl_drewN ?_ _)))) (hD.below (by (repeat (first | exact bl_refl | assumption | (apply bl_then; assumption) | refine bl_alloc ?_ _ | refine bl_drew ?_ | refine bl_drewN ?_ _))))).mono ?_
      rintro e w1 ⟨rfl, hb1⟩
      replace hB := hB.below (show Below _ _ w1 by (repeat (first | exact bl_refl | assumption | (apply bl_then; assumption) | refine bl_alloc ?_ _ | refine bl_drew ?_ | refine bl_drewN ?_ _)))
      replace fhB := hB.facts
      go_wp2_with fail
      refine (awake_any _).mono ?_
      rintro e w2 ⟨rfl, hb2⟩
      go_wp2
      go_ret
      exact ⟨rfl, by (repeat (first | exact bl_refl | assumption | (apply bl_then; assumption) | refine bl_alloc ?_ _ | refine bl_drew ?_ | refine bl_drewN ?_ _))⟩
end Go.Proofs.YthcnngoaijgnoaaGreat

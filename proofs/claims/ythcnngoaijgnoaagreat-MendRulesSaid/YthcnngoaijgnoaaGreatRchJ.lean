/- The bar that is trimmed next by rule, of the reference, walked. Conditions: bars within bounds. -/
import Derived.Test.YthcnngoaijgnoaaGreatK11
import Derived.Test.YthcnngoaijgnoaaGreatPruJ
import Derived.Test.YthcnngoaijgnoaaGreatRklJ
import Derived.Test.YthcnngoaijgnoaaGreatValJ
namespace Go.Proofs.YthcnngoaijgnoaaGreat
open Go.RowKit Go.ChangeMaps
set_option maxHeartbeats 8000000
set_option maxRecDepth 100000

theorem rchosen_any {v u : Value} (N D : List Bar) (w : World) (hN : SlB w v N) (hD : SlB w u D) (hkN : ∀ b ∈ N, BarOk b) (hkD : ∀ b ∈ D, BarOk b) (hlN : N.length ≤ 1000) (hlD : D.length ≤ 1000) :
    Calls Tryz.prog 120 #[.agg #[v, u]] w (RV w (optB (chosenB D (wout N D)))) := by
  have hD' := hD
  obtain ⟨A2, c2, rfl, _, _, _⟩ := hD'
  have hT := (Blk.new w 24 #[v, .slice A2 D.length c2]).alloc (.cells #[.int .i64 0, .int .i64 0, .int .i64 0] 70)
  have hR := Blk.new1 w (.cells #[v, .slice A2 D.length c2] 24) 70 #[.int .i64 0, .int .i64 0, .int .i64 0]
  have hN0 := (hN.alloc (.cells #[v, .slice A2 D.length c2] 24)).alloc (.cells #[.int .i64 0, .int .i64 0, .int .i64 0] 70)
  have hD0 := (hD.alloc (.cells #[v, .slice A2 D.length c2] 24)).alloc (.cells #[.int .i64 0, .int .i64 0, .int .i64 0] 70)
  have fhT := hT.facts
  have fhR := hR.facts
  have HNR := Lib.hid (hole_near hkD)
  have hHl := hole_len (D := D)
  have hSk : ∀ b ∈ wout N D, BarOk b := fun b hb => hkN b (wout_mem.1 hb).1
  have hSl : (wout N D).length ≤ N.length := List.length_filter_le _ _
  have hho := fun (v : Value) X (hX : SlB X (.slice A2 D.length c2) D) => rhole_any (v := v) D X hX hkD (by omega)
  have hso := fun X (hN : SlB X v N) (hX : SlB X (.slice A2 D.length c2) D) => rsound_any N D X hN hX (by omega)
  obtain ⟨H, hH⟩ : ∃ H, holeK D = H := ⟨_, rfl⟩
  obtain ⟨S, hS⟩ : ∃ S, wout N D = S := ⟨_, rfl⟩
  have HC : Hid (chosenB D (wout N D) = match lastK D S H with | some b => some b | none => wantF D S 3) := by unfold Hid chosenB; subst hH hS; rfl
  simp only [hH, hS] at hho hso HNR hHl hSk hSl
  have HSK := Lib.hid hSk
  clear hH hS hkN hkD hSk
  go_enter Tryz.func120, Tryz.ntmps120
  go_wp2_with fail
  refine wp_region_ords [0, 2] [(1, false)] [3, 4, 5] (by kernel_rfl) (by kernel_rfl) (fun d _ _ _ _ h => by cases d <;> exact h) ?_
  simp only [List.map_cons, List.map_nil, List.getD_cons_zero, List.getD_cons_succ]
  repeat (go_big_quiet_step (fail))
  refine wpQuiet_nil ?_
  refine wpMid_run rfl (fun K hK => ?_)
  go_simp
  refine (hho v _ (hD0.below (by (repeat (first | exact bl_refl | assumption | (apply bl_then; assumption) | refine bl_alloc ?_ _ | refine bl_drew ?_ | refine bl_drewN ?_ _))))).mono ?_
  rintro e w1 ⟨v1, rfl, hH1, hb1⟩
  refine hK _ _ (by (repeat (first | exact bl_refl | assumption | (apply bl_then; assumption) | refine bl_alloc ?_ _ | refine bl_drew ?_ | refine bl_drewN ?_ _))) ?_
  clear hK K
  have hT_w1 := hT.below (show Below _ _ w1 by (repeat (first | exact bl_refl | assumption | (apply bl_then; assumption) | refine bl_alloc ?_ _ | refine bl_drew ?_ | refine bl_drewN ?_ _)))
  have fhT_w1 := hT_w1.facts
  have hR_w1 := hR.below (show Below _ _ w1 by (repeat (first | exact bl_refl | assumption | (apply bl_then; assumption) | refine bl_alloc ?_ _ | refine bl_drew ?_ | refine bl_drewN ?_ _)))
  have fhR_w1 := hR_w1.facts
  refine wpMid_nil ?_
  obtain ⟨A1, c1, rfl⟩ := hH1.shape
  have hH1' : SlK w1 _ _ := hH1.rd kc_len
  go_wp2_with fail
  refine (hso _ (hN0.below (by (repeat (first | exact bl_refl | assumption | (apply bl_then; assumption) | refine bl_alloc ?_ _ | refine bl_drew ?_ | refine bl_drewN ?_ _)))) (hD0.below (by (repeat (first | exact bl_refl | assumption | (apply bl_then; assumption) | refine bl_alloc ?_ _ | refine bl_drew ?_ | refine bl_drewN ?_ _))))).mono ?_
  rintro e w2 ⟨v2, rfl, hS2, hb2⟩
  obtain ⟨A3, c3, rfl⟩ := hS2.shape
  have hS2' : SlB w2 _ _ := hS2.rd bc_len
  have hH2 : SlK w2 _ _ := hH1'.below (show Below _ _ w2 by (repeat (first | exact bl_refl | assumption | (apply bl_then; assumption) | refine bl_alloc ?_ _ | refine bl_drew ?_ | refine bl_drewN ?_ _)))
  have hD2 := hD0.below (show Below _ _ w2 by (repeat (first | exact bl_refl | assumption | (apply bl_then; assumption) | refine bl_alloc ?_ _ | refine bl_drew ?_ | refine bl_drewN ?_ _)))
  have hT2 := hT_w1.below (show Below _ _ w2 by (repeat (first | exact bl_refl | assumption | (apply bl_then; assumption) | refine bl_alloc ?_ _ | refine bl_drew ?_ | refine bl_drewN ?_ _)))
  have hR2 := hR_w1.below (show Below _ _ w2 by (repeat (first | exact bl_refl | assumption | (apply bl_then; assumption) | refine bl_alloc ?_ _ | refine bl_drew ?_ | refine bl_drewN ?_ _)))
  have hbw2 : Below w.heap.size w w2 := by (repeat (first | exact bl_refl | assumption | (apply bl_then; assumption) | refine bl_alloc ?_ _ | refine bl_drew ?_ | refine bl_drewN ?_ _))
  obtain ⟨A1', c1', e1, _, _, hrH⟩ := hH2
  obtain ⟨rfl, rfl⟩ : A1 = A1' ∧ c1 = c1' := by simpa using e1
  obtain ⟨A3', c3', e3, _, _, hrS⟩ := hS2'
  obtain ⟨rfl, rfl⟩ : A3 = A3' ∧ c3 = c3' := by simpa using e3
  have hRw : w.heap.size ≤ w.heap.size + 1 := Nat.le_succ _
  clear e1 e3 hT hR hT_w1 hR_w1 fhT_w1 fhR_w1 fhT fhR hH1 hH1' hS2 hb1 hb2 hN0 hD0 hho hso hN hD
  go_wp2_with fail
  go_loopw [6] (fun i wr => ∃ k : Nat, k ≤ H.length ∧ i = .int .i64 k ∧ Hid (lastK D S H = lastK D S (H.drop k)) ∧ Below w2.heap.size w2 wr) (fun i _ => H.length - (intOf i).toNat)
  case atStart => exact ⟨0, Nat.zero_le _, rfl, rfl, bl_refl⟩
  case round =>
    obtain ⟨wo, rfl⟩ : ∃ wo, wo = wr := ⟨_, rfl⟩
    obtain ⟨k, hk, rfl, HL, hbr⟩ := hrel
    have hT3 := hT2.below hbr
    have fT3 := hT3.facts
    have hR3 := hR2.below hbr
    have fR3 := hR3.facts
    have hbwo : Below w.heap.size w wo := bl_then hbr hbw2
    by_cases hlt : k < H.length
    · have hr := hrH.below hbr
      obtain ⟨b, off, rfl, hb, e0, e1⟩ := hr.knot hlt
      have hnr := HNR.out _ (List.getElem_mem hlt)
      have HLD := Lib.hid (lastK_drop (D := D) (S := S) hlt)
      obtain ⟨⟨x, y⟩, hx⟩ : ∃ z, H[k] = z := ⟨_, rfl⟩
      have HX := Lib.hid hx
      rw [hx] at e0 e1 hnr HLD
      unfold nearK at hnr
      simp only at e0 e1 hnr
      have hx1 : -1000000 ≤ x ∧ x ≤ 1000000 := by omega
      have hy1 : -1000000 ≤ y ∧ y ≤ 1000000 := by omega
      clear hx hnr
      have hDo := hD2.below hbr
      go_wp2_with (first | (go_at_call 88; refine (four_any x y hx1 hy1 _).mono ?_; rintro e w3 ⟨rfl, hb3⟩) | (refine wpList_store_blk (Blk.new _ _ _) rfl _ _ _ rfl rfl rfl (by rfl) (by kernel_rfl) (by kernel_rfl) ?_; intro w4 hF4 hc4))
      have hb4 : Below wo.heap.size wo w4 := chg_bl (bl_alloc hb3 _) hc4 hb3.size
      have hgF := hF4.lt
      have hT4 := hT3.below hb4
      have hR4 := hR3.below hb4
      have hD4 := hDo.below hb4
      clear hc4 hb3
      by_cases h3 : cnt (legsAt D (x, y)) = 3
      · have hms : ∀ (v : Value) (W : World), SlB W (.slice A2 D.length c2) D → Calls Tryz.prog 26 #[.agg #[v, .slice A2 D.length c2], .agg #[.int .i64 x, .int .i64 y]] W (RV W (.int .i64 3)) := fun v W h => by
          have := missing_any (v := v) D x y W h hx1 hy1
          rwa [show missN D (x, y) = 3 from h3] at this
        have HLO : Hid (lastOf D S (x, y) = (armsL (x, y)).find? (hasb S)) := by unfold Hid lastOf; rw [if_pos h3]
        clear h3
        go_wp2_with fail
        go_loopw [8] (fun i wr => ∃ a : Nat, a ≤ 4 ∧ i = .int .i64 a ∧ Hid ((armsL (x, y)).find? (hasb S) = ((armsL (x, y)).drop a).find? (hasb S)) ∧ Below w4.heap.size w4 wr) (fun i _ => 4 - (intOf i).toNat)
        case atStart => exact ⟨0, by omega, rfl, rfl, bl_refl⟩
        case round =>
          obtain ⟨a, ha, rfl, HA, hbq⟩ := hrel
          have hT5 := hT4.below hbq
          have fT5 := hT5.facts
          have hR5 := hR4.below hbq
          have fR5 := hR5.facts
          have hF5 := hF4.below hbq
          have hF5' : Blk wr w3.heap.size 120 (fourA x y) := hF5
          have hD5 := hD4.below hbq
          have hr5 := hr.below (bl_then hbq hb4)
          obtain ⟨_, k0, k1⟩ := hr5.knotAt hlt
          rw [HX.out] at k0 k1
          simp only at k0 k1
          by_cases hlt4 : a < 4
          · have hal : a < (armsL (x, y)).length := hlt4
            have hlt4' : ((a : Int) < 4) = True := by simp; omega
            have HFD := Lib.hid (find_drop (hasb S) hal)
            rw [armsL_get _ hal] at HFD
            obtain ⟨⟨p, q, s⟩, hp⟩ : ∃ z, armB (x, y) a = z := ⟨_, rfl⟩
            obtain ⟨g, hg⟩ : ∃ g, hasb S (p, q, s) = g := ⟨_, rfl⟩
            have HP := Lib.hid hp
            have HG := Lib.hid hg
            clear hp hg
            go_wp2_with fail
            refine wp_region_ords [0, 1, 2, 3, 4, 5, 6, 7] [] [8, 9, 10] (by kernel_rfl) (by kernel_rfl) (fun d _ _ _ _ h => by cases d <;> exact h) ?_
            simp only [List.map_cons, List.map_nil, List.getD_cons_zero, List.getD_cons_succ]
            repeat (go_big_quiet_step (fail))
            refine wpQuiet_nil ?_
            refine wpMid_nil ?_
            go_wp2_with fail
            refine (hms _ _ (hD5.below (by (repeat (first | exact bl_refl | assumption | (apply bl_then; assumption) | refine bl_alloc ?_ _ | refine bl_drew ?_ | refine bl_drewN ?_ _))))).mono ?_
            rintro e w6 ⟨rfl, hb6⟩
            have hF6 := hF5'.below (show Below _ _ w6 by (repeat (first | exact bl_refl | assumption | (apply bl_then; assumption) | refine bl_alloc ?_ _ | refine bl_drew ?_ | refine bl_drewN ?_ _)))
            have fF6 := hF6.facts.2
            have f4 := four_cells hF6 hlt4
            rw [HP.out] at f4
            simp only at f4
            have hR6 := hR5.below (show Below _ _ w6 by (repeat (first | exact bl_refl | assumption | (apply bl_then; assumption) | refine bl_alloc ?_ _ | refine bl_drew ?_ | refine bl_drewN ?_ _)))
            have fR6 := hR6.facts
            have hhs : ∀ (W : World), SlB W (.slice A3 S.length c3) S → Calls Tryz.prog 46 #[.slice A3 S.length c3, .agg #[.int .i64 p, .int .i64 q, .int .i64 s]] W (RV W (.bool g)) := fun W h => by
              have := has_any S p q s W h
              rwa [HG.out] at this
            have hS6 : SlB w6 (.slice A3 S.length c3) S := ⟨A3, c3, rfl, by assumption, by assumption, hrS.below (by (repeat (first | exact bl_refl | assumption | (apply bl_then; assumption) | refine bl_alloc ?_ _ | refine bl_drew ?_ | refine bl_drewN ?_ _)))⟩
            go_wp2_with fail
            refine (hhs _ hS6).mono ?_
            rintro e w7 ⟨rfl, hb7⟩
            have hF7 := hF6.below (show Below _ _ w7 by (repeat (first | exact bl_refl | assumption | (apply bl_then; assumption) | refine bl_alloc ?_ _ | refine bl_drew ?_ | refine bl_drewN ?_ _)))
            have fF7 := hF7.facts.2
            have f47 := four_cells hF7 hlt4
            rw [HP.out] at f47
            simp only at f47
            have hR7 := hR6.below (show Below _ _ w7 by (repeat (first | exact bl_refl | assumption | (apply bl_then; assumption) | refine bl_alloc ?_ _ | refine bl_drew ?_ | refine bl_drewN ?_ _)))
            have fR7 := hR7.facts
            cases g
            · go_wp2_with fail
              go_roundw
              case rel => exact ⟨a + 1, by omega, by go_num, by unfold Hid; rw [HA.out, HFD.out, HP.out, HG.out]; rfl, by (repeat (first | exact bl_refl | assumption | (apply bl_then; assumption) | refine bl_alloc ?_ _ | refine bl_drew ?_ | refine bl_drewN ?_ _))⟩
              case measure => simp [intOf]; omega
            · go_wp2_with (refine wpList_store_blk hR7 rfl _ _ _ rfl rfl rfl (by rfl) (by kernel_rfl) (by kernel_rfl) ?_; intro w8 hR8 hc8; have fR8 := hR8.facts)
              refine bodyPost_ret (v := .tuple #[.agg #[.int .i64 p, .int .i64 q, .int .i64 s], .bool true]) (by simp [results, Tryz.results120, go_sem, fR8]) rfl ?_
              have hE : chosenB D (wout N D) = some (p, q, s) := by
                rw [HC.out, HL.out, HLD.out, HLO.out, HA.out, HFD.out, HP.out, HG.out]; rfl
              exact ⟨by rw [hE]; rfl, chg_bl (by (repeat (first | exact bl_refl | assumption | (apply bl_then; assumption) | refine bl_alloc ?_ _ | refine bl_drew ?_ | refine bl_drewN ?_ _))) hc8 hRw⟩
          · obtain rfl : a = 4 := by omega
            have hnone : lastOf D S (x, y) = none := by rw [HLO.out, HA.out]; rfl
            go_wp2_with fail
            refine wp_region_ords [0, 1, 2, 3, 4, 5, 6, 7] [] [8, 9, 10] (by kernel_rfl) (by kernel_rfl) (fun d _ _ _ _ h => by cases d <;> exact h) ?_
            simp only [List.map_cons, List.map_nil, List.getD_cons_zero, List.getD_cons_succ]
            repeat (go_big_quiet_step (fail))
            refine wpQuiet_nil ?_
            refine wpMid_nil ?_
            go_wp2_with fail
            go_roundw
            case rel => exact ⟨k + 1, by omega, by go_num, by unfold Hid; rw [HL.out, HLD.out, hnone], by (repeat (first | exact bl_refl | assumption | (apply bl_then; assumption) | refine bl_alloc ?_ _ | refine bl_drew ?_ | refine bl_drewN ?_ _))⟩
            case measure => simp [intOf]; omega
      · have hn3 : ((missN D (x, y) : Int) == 3) = false := by
          have : missN D (x, y) ≠ 3 := h3
          simp; omega
        have HLO : Hid (lastOf D S (x, y) = none) := by unfold Hid lastOf; rw [if_neg h3]
        clear h3
        go_wp2_with fail
        go_loopw [8] (fun i wr => i = .int .i64 0 ∧ Below w4.heap.size w4 wr) (fun _ _ => 0)
        case atStart => exact ⟨rfl, bl_refl⟩
        case round =>
          obtain ⟨rfl, hbq⟩ := hrel
          have hT5 := hT4.below hbq
          have fT5 := hT5.facts
          have hD5 := hD4.below hbq
          have hr5 := hr.below (bl_then hbq hb4)
          obtain ⟨_, k0, k1⟩ := hr5.knotAt hlt
          rw [HX.out] at k0 k1
          simp only at k0 k1
          go_wp2_with fail
          refine wp_region_ords [0, 1, 2, 3, 4, 5, 6, 7] [] [8, 9, 10] (by kernel_rfl) (by kernel_rfl) (fun d _ _ _ _ h => by cases d <;> exact h) ?_
          simp only [List.map_cons, List.map_nil, List.getD_cons_zero, List.getD_cons_succ]
          repeat (go_big_quiet_step (fail))
          refine wpQuiet_nil ?_
          refine wpMid_nil ?_
          go_wp2_with fail
          refine (missing_any D x y _ (hD5.below (by (repeat (first | exact bl_refl | assumption | (apply bl_then; assumption) | refine bl_alloc ?_ _ | refine bl_drew ?_ | refine bl_drewN ?_ _)))) hx1 hy1).mono ?_
          rintro e w6 ⟨rfl, hb6⟩
          go_wp2_with fail
          go_roundw
          case rel => exact ⟨k + 1, by omega, by go_num, by unfold Hid; rw [HL.out, HLD.out, HLO.out], by (repeat (first | exact bl_refl | assumption | (apply bl_then; assumption) | refine bl_alloc ?_ _ | refine bl_drew ?_ | refine bl_drewN ?_ _))⟩
          case measure => simp [intOf]; omega
    · have hl0 : lastK D S H = none := by rw [HL.out, List.drop_eq_nil_of_le (by omega)]; rfl
      have HC3 : Hid (chosenB D (wout N D) = wantF D S 3) := by unfold Hid; rw [HC.out, hl0]
      have hDo := hD2.below hbr
      have hrSo := hrS.below hbr
      clear HL hl0 hbr hrH hrS hD2 hT2 hR2 HC
      go_wp2_with fail
      go_loopw [9] (fun i wr => ∃ wv : Nat, wv ≤ 3 ∧ i = .int .i64 ((wv : Int) - 1) ∧ Hid (wantF D S 3 = wantF D S wv) ∧ Below wo.heap.size wo wr) (fun i _ => (intOf i + 1).toNat)
      case atStart => exact ⟨3, by omega, rfl, rfl, bl_refl⟩
      case round =>
        obtain ⟨w5, rfl⟩ : ∃ w5, w5 = wr := ⟨_, rfl⟩
        obtain ⟨wv, hwv, rfl, HW, hb5⟩ := hrel
        have hT5 := hT3.below hb5
        have fT5 := hT5.facts
        have hR5 := hR3.below hb5
        have fR5 := hR5.facts
        have hD5 := hDo.below hb5
        have hrS5 := hrSo.below hb5
        cases wv with
        | zero =>
          have hE : chosenB D (wout N D) = none := by rw [HC3.out, HW.out]; rfl
          go_wp2_with (refine wpList_store_blk hR5 rfl _ _ _ rfl rfl rfl (by rfl) (by kernel_rfl) (by kernel_rfl) ?_; intro w8 hR8 hc8; have fR8 := hR8.facts)
          refine bodyPost_ret (v := .tuple #[.agg #[.int .i64 0, .int .i64 0, .int .i64 0], .bool false]) (by simp [results, Tryz.results120, go_sem, fR8]) rfl ?_
          exact ⟨by rw [hE]; rfl, chg_bl (by (repeat (first | exact bl_refl | assumption | (apply bl_then; assumption) | refine bl_alloc ?_ _ | refine bl_drew ?_ | refine bl_drewN ?_ _))) hc8 hRw⟩
        | succ wv =>
          rw [show (((wv + 1 : Nat) : Int) - 1) = (wv : Int) by omega]
          have hw0 : ((0 : Int) ≤ (wv : Int)) = True := by simp
          go_wp2_with fail
          go_loopw [10] (fun i wr => ∃ j : Nat, j ≤ S.length ∧ i = .int .i64 j ∧ Hid (S.find? (wantB D wv) = (S.drop j).find? (wantB D wv)) ∧ Below w5.heap.size w5 wr) (fun i _ => S.length - (intOf i).toNat)
          case atStart => exact ⟨0, Nat.zero_le _, rfl, rfl, bl_refl⟩
          case round =>
            obtain ⟨j, hj, rfl, HJ, hb6⟩ := hrel
            have hT6 := hT5.below hb6
            have fT6 := hT6.facts
            have hR6 := hR5.below hb6
            have hD6 := hD5.below hb6
            have hrS6 := hrS5.below hb6
            by_cases hlj : j < S.length
            · obtain ⟨b, off, rfl, hb, e0, e1, e2⟩ := hrS6.bar hlj
              have hbo := HSK.out _ (List.getElem_mem hlj)
              have HFD := Lib.hid (find_drop (wantB D wv) hlj)
              obtain ⟨⟨x, y, s⟩, hx⟩ : ∃ z, S[j] = z := ⟨_, rfl⟩
              have HX := Lib.hid hx
              rw [hx] at e0 e1 e2 hbo HFD
              unfold BarOk at hbo
              simp only at e0 e1 e2 hbo
              obtain ⟨a, ha⟩ : ∃ a, missN D (x, y) = a := ⟨_, rfl⟩
              obtain ⟨c, hc⟩ : ∃ c, missN D (x + s, y + 1) = c := ⟨_, rfl⟩
              have hma : ∀ (v : Value) (W : World), SlB W (.slice A2 D.length c2) D → Calls Tryz.prog 26 #[.agg #[v, .slice A2 D.length c2], .agg #[.int .i64 x, .int .i64 y]] W (RV W (.int .i64 a)) := fun v W h => by
                have := missing_any (v := v) D x y W h (by omega) (by omega)
                rwa [ha] at this
              have hmc : ∀ (v : Value) (W : World), SlB W (.slice A2 D.length c2) D → Calls Tryz.prog 26 #[.agg #[v, .slice A2 D.length c2], .agg #[.int .i64 (x + s), .int .i64 (y + 1)]] W (RV W (.int .i64 c)) := fun v W h => by
                have := missing_any (v := v) D (x + s) (y + 1) W h (by omega) (by omega)
                rwa [hc] at this
              have HWB : Hid (wantB D wv (x, y, s) = (decide (wv ≤ a % 2 + c % 2) && (decide (0 < wv) || decide (0 < a + c)))) := by unfold Hid; rw [← ha, ← hc]; rfl
              have ha4 : a ≤ 4 := by rw [← ha]; exact cnt_le _
              have hc4 : c ≤ 4 := by rw [← hc]; exact cnt_le _
              have hx1 : -1000000 ≤ x ∧ x ≤ 1000000 := by omega
              have hy1 : -1000000 ≤ y ∧ y ≤ 1000000 := by omega
              have hs1 : -10 ≤ s ∧ s ≤ 10 := by omega
              clear hx ha hc hbo
              go_wp2_with fail
              refine wp_region_ords [0, 1, 2, 3, 4, 7, 8, 9, 10, 11] [(5, false), (6, false), (12, false)] [13, 14, 15] (by kernel_rfl) (by kernel_rfl) (fun d _ _ _ _ h => by cases d <;> exact h) ?_
              simp only [List.map_cons, List.map_nil, List.getD_cons_zero, List.getD_cons_succ]
              repeat (go_big_quiet_step (fail))
              refine wpQuiet_nil ?_
              refine wpMid_run rfl (fun K hK => ?_)
              go_simp
              refine (low_any x y s _).mono ?_
              rintro e w6 ⟨rfl, hb7⟩
              refine hK _ _ (by (repeat (first | exact bl_refl | assumption | (apply bl_then; assumption) | refine bl_alloc ?_ _ | refine bl_drew ?_ | refine bl_drewN ?_ _))) ?_
              clear hK K
              refine wpMid_run rfl (fun K hK => ?_)
              go_simp
              refine (hma _ _ (hD6.below (by (repeat (first | exact bl_refl | assumption | (apply bl_then; assumption) | refine bl_alloc ?_ _ | refine bl_drew ?_ | refine bl_drewN ?_ _))))).mono ?_
              rintro e w7 ⟨rfl, hb8⟩
              refine hK _ _ (by (repeat (first | exact bl_refl | assumption | (apply bl_then; assumption) | refine bl_alloc ?_ _ | refine bl_drew ?_ | refine bl_drewN ?_ _))) ?_
              clear hK K
              refine wpMid_run rfl (fun K hK => ?_)
              go_simp
              refine (high_any x y s hx1 hy1 hs1 _).mono ?_
              rintro e w8 ⟨rfl, hb9⟩
              refine hK _ _ (by (repeat (first | exact bl_refl | assumption | (apply bl_then; assumption) | refine bl_alloc ?_ _ | refine bl_drew ?_ | refine bl_drewN ?_ _))) ?_
              clear hK K
              refine wpMid_nil ?_
              go_wp2_with fail
              refine (hmc _ _ (hD6.below (by (repeat (first | exact bl_refl | assumption | (apply bl_then; assumption) | refine bl_alloc ?_ _ | refine bl_drew ?_ | refine bl_drewN ?_ _))))).mono ?_
              rintro e w9 ⟨rfl, hb10⟩
              have hR9 := hR6.below (show Below _ _ w9 by (repeat (first | exact bl_refl | assumption | (apply bl_then; assumption) | refine bl_alloc ?_ _ | refine bl_drew ?_ | refine bl_drewN ?_ _)))
              have fR9 := hR9.facts
              obtain ⟨_, n0, n1, n2⟩ := (hrS6.below (show Below _ _ w9 by (repeat (first | exact bl_refl | assumption | (apply bl_then; assumption) | refine bl_alloc ?_ _ | refine bl_drew ?_ | refine bl_drewN ?_ _)))).barAt hlj
              rw [HX.out] at n0 n1 n2
              simp only at n0 n1 n2
              by_cases p1 : wv ≤ a % 2 + c % 2
              · have q1 : ((wv : Int) ≤ (a : Int) % 2 + (c : Int) % 2) = True := by simp; omega
                by_cases p2 : wv = 0
                · have q2 : (wv = 0) = True := by simp [p2]
                  have q2b : (0 < wv) = False := by simp [p2]
                  have q2c : ((0 : Int) < (wv : Int)) = False := by simp [p2]
                  by_cases p3 : 0 < a + c
                  · have q3 : ((0 : Int) < (a : Int) + (c : Int)) = True := by simp; omega
                    have HT : Hid (wantB D wv (x, y, s) = true) := by unfold Hid; rw [HWB.out]; simp [p1]; omega
                    clear p1 p2 p3
                    go_wp2_with (refine wpList_store_blk hR9 rfl _ _ _ rfl rfl rfl (by rfl) (by kernel_rfl) (by kernel_rfl) ?_; intro w10 hR10 hc10; have fR10 := hR10.facts)
                    refine bodyPost_ret (v := .tuple #[.agg #[.int .i64 x, .int .i64 y, .int .i64 s], .bool true]) (by simp [results, Tryz.results120, go_sem, fR10]) rfl ?_
                    have hE : chosenB D (wout N D) = some (x, y, s) := by rw [HC3.out, HW.out, wantF, HJ.out, HFD.out, HT.out]; rfl
                    exact ⟨by rw [hE]; rfl, chg_bl (by (repeat (first | exact bl_refl | assumption | (apply bl_then; assumption) | refine bl_alloc ?_ _ | refine bl_drew ?_ | refine bl_drewN ?_ _))) hc10 hRw⟩
                  · have q3 : ((0 : Int) < (a : Int) + (c : Int)) = False := by simp; omega
                    have HT : Hid (wantB D wv (x, y, s) = false) := by unfold Hid; rw [HWB.out]; simp; omega
                    clear p1 p2 p3
                    go_wp2_with fail
                    go_roundw
                    case rel => exact ⟨j + 1, by omega, by go_num, by unfold Hid; rw [HJ.out, HFD.out, HT.out]; rfl, by (repeat (first | exact bl_refl | assumption | (apply bl_then; assumption) | refine bl_alloc ?_ _ | refine bl_drew ?_ | refine bl_drewN ?_ _))⟩
                    case measure => simp [intOf]; omega
                · have q2 : (wv = 0) = False := by simp [p2]
                  have q2b : (0 < wv) = True := by simp; omega
                  have q2c : ((0 : Int) < (wv : Int)) = True := by simp; omega
                  have HT : Hid (wantB D wv (x, y, s) = true) := by unfold Hid; rw [HWB.out]; simp [p1]; omega
                  clear p1 p2
                  go_wp2_with (refine wpList_store_blk hR9 rfl _ _ _ rfl rfl rfl (by rfl) (by kernel_rfl) (by kernel_rfl) ?_; intro w10 hR10 hc10; have fR10 := hR10.facts)
                  refine bodyPost_ret (v := .tuple #[.agg #[.int .i64 x, .int .i64 y, .int .i64 s], .bool true]) (by simp [results, Tryz.results120, go_sem, fR10]) rfl ?_
                  have hE : chosenB D (wout N D) = some (x, y, s) := by rw [HC3.out, HW.out, wantF, HJ.out, HFD.out, HT.out]; rfl
                  exact ⟨by rw [hE]; rfl, chg_bl (by (repeat (first | exact bl_refl | assumption | (apply bl_then; assumption) | refine bl_alloc ?_ _ | refine bl_drew ?_ | refine bl_drewN ?_ _))) hc10 hRw⟩
              · have q1 : ((wv : Int) ≤ (a : Int) % 2 + (c : Int) % 2) = False := by simp; omega
                have HT : Hid (wantB D wv (x, y, s) = false) := by unfold Hid; rw [HWB.out]; simp; omega
                clear p1
                go_wp2_with fail
                go_roundw
                case rel => exact ⟨j + 1, by omega, by go_num, by unfold Hid; rw [HJ.out, HFD.out, HT.out]; rfl, by (repeat (first | exact bl_refl | assumption | (apply bl_then; assumption) | refine bl_alloc ?_ _ | refine bl_drew ?_ | refine bl_drewN ?_ _))⟩
                case measure => simp [intOf]; omega
            · have hno : S.find? (wantB D wv) = none := by rw [HJ.out, List.drop_eq_nil_of_le (by omega)]; rfl
              have HN : Hid (wantF D S 3 = wantF D S wv) := by unfold Hid; rw [HW.out, wantF, hno]
              go_wp2_with fail
              go_roundw
              case rel => exact ⟨wv, by omega, rfl, HN, by (repeat (first | exact bl_refl | assumption | (apply bl_then; assumption) | refine bl_alloc ?_ _ | refine bl_drew ?_ | refine bl_drewN ?_ _))⟩
              case measure => simp [intOf]
end Go.Proofs.YthcnngoaijgnoaaGreat

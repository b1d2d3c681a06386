/- The knots of a net, of the reference, walked. Conditions: bars within bounds. -/
import Derived.Test.YthkjgcldolnjaaaGreatDoorH08
namespace Go.Proofs.YthkjgcldolnjaaaGreatDoor
open Go.RowKit Go.ChangeMaps
set_option maxHeartbeats 4000000
set_option maxRecDepth 100000

/-- the knot at a place comes before another one -/
def hitK (l : List Knot) (k : Nat) (e : Knot) : Bool := match l[k]? with
  | some z => decide (kltP z e)
  | none => false
theorem rknots_any {v : Value} (l : List Bar) (w : World) (h : SlB w v l) (hk : ∀ b ∈ l, BarOk b) (hlen : l.length ≤ 10000) : Calls Tryz.prog 80 #[v] w (RK w (holeK l)) := by
  obtain ⟨A, c, rfl, hlc, hcm, h⟩ := h
  have HK := Lib.hid hk
  clear hk
  go_enter Tryz.func80, Tryz.ntmps80
  go_wp2
  go_loopw [3, 4] (fun o i wr => ∃ k : Nat, k ≤ 2 * l.length ∧ i = .int .i64 k ∧ OwK w.heap.size wr o (kIn l k) ∧ Below w.heap.size w wr) (fun _ i _ => 2 * l.length - (intOf i).toNat)
  case atStart => exact ⟨0, Nat.zero_le _, rfl, Own.nil_, by (repeat (first | exact bl_refl | assumption | (apply bl_then; assumption) | refine bl_alloc ?_ _ | refine bl_drew ?_ | refine bl_drewN ?_ _))⟩
  case round =>
    obtain ⟨i, hi, rfl, hO, hbw⟩ := hrel
    obtain ⟨wo, rfl⟩ : ∃ x, x = wr := ⟨_, rfl⟩
    by_cases hit : i < 2 * l.length
    · obtain ⟨j, hj⟩ : ∃ j, i / 2 = j := ⟨_, rfl⟩
      have hjl : j < l.length := by omega
      have HN := Lib.hid (kIn_succ (l := l) (i := i) (by omega))
      have hll := kIn_len l i
      obtain ⟨acc, hacc⟩ : ∃ acc, kIn l i = acc := ⟨_, rfl⟩
      rw [hacc] at hO HN hll
      have hll2 : acc.length ≤ 20000 := by omega
      clear hll hacc
      have hr := h.below hbw
      obtain ⟨b, off, rfl, hb, e0, e1, e2⟩ := hr.bar hjl
      have hbo := HK.out _ (List.getElem_mem hjl)
      obtain ⟨⟨x, y, s⟩, hx⟩ : ∃ z, l[j] = z := ⟨_, rfl⟩
      obtain ⟨⟨ex, ey⟩, hex⟩ : ∃ z, endK (x, y, s) (i % 2) = z := ⟨_, rfl⟩
      have HN2 : Hid (kIn l (i + 1) = insK acc (ex, ey)) := by
        unfold Hid
        rw [HN.out, ← hex, ← hx]
        congr 2
        simp only [hj]
      rw [hx] at e0 e1 e2 hbo
      simp only at e0 e1 e2
      clear hx HN
      obtain ⟨q1, q2, q3⟩ := hbo
      simp only at q1 q2 q3
      have d1 : ((i : Int) / 2) = (j : Int) := by omega
      have d2 : ((i : Int)).tdiv 2 = (j : Int) := by rw [Int.tdiv_eq_ediv_of_nonneg (by omega)]; exact d1
      have hit' : ((i : Int) < 2 * (l.length : Int)) = True := eq_true (by omega)
      have HJ := Lib.hid hj
      have HEX := Lib.hid hex
      clear hj hex
      obtain ⟨A3, c3, rfl⟩ := hO.shape
      obtain ⟨A3', c3', he3, hlc3, hcm3, hr3⟩ := hO.rd kc_len
      obtain ⟨rfl, rfl⟩ : A3 = A3' ∧ c3 = c3' := by simpa using he3
      clear he3
      go_upto_region 5 with fail
      go_cut [5] from 7 to 82 (fun s5 wx => ∃ g, s5 = .pointer (some ⟨g, 0, none⟩) ∧ wo.heap.size ≤ g ∧ Blk wx g 52 #[.int .i64 ex, .int .i64 ey] ∧ Below wo.heap.size wo wx)
      case first =>
        rcases Nat.mod_two_eq_zero_or_one i with hm | hm
        all_goals
          have HX := HEX.out
          rw [hm] at HX
          have d3 : ((i : Int) % 2) = ((i % 2 : Nat) : Int) := by omega
          rw [hm] at d3
          have d4 : ((i : Int)).tmod 2 = ((i : Int) % 2) := Int.tmod_eq_emod_of_nonneg (by omega)
          rw [d3] at d4
          simp only [Int.cast_ofNat_Int] at d3 d4
          obtain ⟨rfl, rfl⟩ : (endK (x, y, s) _).1 = ex ∧ (endK (x, y, s) _).2 = ey := by rw [HX]; exact ⟨rfl, rfl⟩
          clear HX hm
          go_wp2_with fail
          refine (rends_any _ _ _ (by omega) (by omega) (by omega) _).mono ?_
          rintro e w5 ⟨rfl, hb5⟩
          go_wp2
          go_meet
          case rel => exact ⟨_, rfl, Below.size (show Below wo.heap.size wo w5 by (repeat (first | exact bl_refl | assumption | (apply bl_then; assumption) | refine bl_alloc ?_ _ | refine bl_drew ?_ | refine bl_drewN ?_ _))), Blk.new _ _ _, by (repeat (first | exact bl_refl | assumption | (apply bl_then; assumption) | refine bl_alloc ?_ _ | refine bl_drew ?_ | refine bl_drewN ?_ _))⟩
      case rest =>
        as_aux_lemma =>
          obtain ⟨g5, rfl, hg5, hE, hbc⟩ := hcut
          obtain ⟨w5, rfl⟩ : ∃ x, x = wc := ⟨_, rfl⟩
          have hO5 := hO.below hbc
          have hr5 := hr3.below hbc
          have hbw5 := bl_then hbc hbw
          have fE := hE.facts
          clear e0 e1 e2 d1 d2 hr hO hr3
          go_wp2
          go_loopw [6] (fun i wz => ∃ k2 : Nat, k2 ≤ acc.length ∧ i = .int .i64 k2 ∧ Hid (insK acc (ex, ey) = acc.take k2 ++ insK (acc.drop k2) (ex, ey)) ∧ Below w5.heap.size w5 wz) (fun i _ => acc.length - (intOf i).toNat)
          case atStart => exact ⟨0, Nat.zero_le _, rfl, by simp [Hid], by (repeat (first | exact bl_refl | assumption | (apply bl_then; assumption) | refine bl_alloc ?_ _ | refine bl_drew ?_ | refine bl_drewN ?_ _))⟩
          case round =>
            obtain ⟨k2, hk2, rfl, H, hbz⟩ := hrel
            obtain ⟨w6, rfl⟩ : ∃ x, x = wr := ⟨_, rfl⟩
            have hE6 := hE.below hbz
            replace fE := hE6.facts
            have hr6 := hr5.below hbz
            have hkc3 : k2 ≤ c3 := by omega
            go_upto_region 7 with fail
            go_cut [56] from 23 to 58 (fun s wx => s = .bool (hitK acc k2 (ex, ey)) ∧ Below w6.heap.size w6 wx)
            case first =>
              by_cases hlt2 : k2 < acc.length
              · obtain ⟨b3, off3, rfl, hb3, z0, z1⟩ := hr6.knot hlt2
                have hh : hitK acc k2 (ex, ey) = decide (kltP acc[k2] (ex, ey)) := by unfold hitK; rw [List.getElem?_eq_getElem hlt2]
                obtain ⟨⟨zx, zy⟩, hz⟩ : ∃ z, acc[k2] = z := ⟨_, rfl⟩
                rw [hz] at z0 z1 hh
                simp only at z0 z1
                clear hz H
                by_cases h1 : zy < ey
                · have HH : Hid (hitK acc k2 (ex, ey) = true) := by unfold Hid; rw [hh]; exact decide_eq_true (.inl h1)
                  have t1 : decide (zy < ey) = true := decide_eq_true h1
                  clear hh h1
                  refine wp_region_ords [0, 1, 2, 3, 4, 5, 6, 7, 8, 9, 10, 11, 12, 13, 14, 15, 16, 17, 18, 19, 20, 21, 22, 23, 24, 25, 26, 27, 28, 29, 30, 31, 32, 33] [] [] (by kernel_rfl) (by kernel_rfl) (fun d _ _ _ _ h => by cases d <;> exact h) ?_
                  simp only [List.map_cons, List.map_nil, List.getD_cons_zero, List.getD_cons_succ]
                  repeat (go_big_quiet_step (fail))
                  refine wpQuiet_nil ?_
                  refine wpMid_nil ?_
                  go_wp2
                  go_meet
                  case rel => exact ⟨by rw [HH.out], by (repeat (first | exact bl_refl | assumption | (apply bl_then; assumption) | refine bl_alloc ?_ _ | refine bl_drew ?_ | refine bl_drewN ?_ _))⟩
                · have t1 : decide (zy < ey) = false := decide_eq_false h1
                  by_cases h2 : zy = ey
                  · subst h2
                    by_cases h3 : zx < ex
                    · have HH : Hid (hitK acc k2 (ex, zy) = true) := by unfold Hid; rw [hh]; exact decide_eq_true (.inr ⟨rfl, h3⟩)
                      have t3 : decide (zx < ex) = true := decide_eq_true h3
                      clear hh h1 h3 t1
                      refine wp_region_ords [0, 1, 2, 3, 4, 5, 6, 7, 8, 9, 10, 11, 12, 13, 14, 15, 16, 17, 18, 19, 20, 21, 22, 23, 24, 25, 26, 27, 28, 29, 30, 31, 32, 33] [] [] (by kernel_rfl) (by kernel_rfl) (fun d _ _ _ _ h => by cases d <;> exact h) ?_
                      simp only [List.map_cons, List.map_nil, List.getD_cons_zero, List.getD_cons_succ]
                      repeat (go_big_quiet_step (fail))
                      refine wpQuiet_nil ?_
                      refine wpMid_nil ?_
                      go_wp2
                      go_meet
                      case rel => exact ⟨by rw [HH.out], by (repeat (first | exact bl_refl | assumption | (apply bl_then; assumption) | refine bl_alloc ?_ _ | refine bl_drew ?_ | refine bl_drewN ?_ _))⟩
                    · have HH : Hid (hitK acc k2 (ex, zy) = false) := by unfold Hid; rw [hh]; exact decide_eq_false (by unfold kltP; simp only; omega)
                      have t3 : decide (zx < ex) = false := decide_eq_false h3
                      clear hh h1 h3 t1
                      refine wp_region_ords [0, 1, 2, 3, 4, 5, 6, 7, 8, 9, 10, 11, 12, 13, 14, 15, 16, 17, 18, 19, 20, 21, 22, 23, 24, 25, 26, 27, 28, 29, 30, 31, 32, 33] [] [] (by kernel_rfl) (by kernel_rfl) (fun d _ _ _ _ h => by cases d <;> exact h) ?_
                      simp only [List.map_cons, List.map_nil, List.getD_cons_zero, List.getD_cons_succ]
                      repeat (go_big_quiet_step (fail))
                      refine wpQuiet_nil ?_
                      refine wpMid_nil ?_
                      go_wp2
                      go_meet
                      case rel => exact ⟨by rw [HH.out], by (repeat (first | exact bl_refl | assumption | (apply bl_then; assumption) | refine bl_alloc ?_ _ | refine bl_drew ?_ | refine bl_drewN ?_ _))⟩
                  · have HH : Hid (hitK acc k2 (ex, ey) = false) := by unfold Hid; rw [hh]; exact decide_eq_false (by unfold kltP; simp only; omega)
                    have t2 : (zy == ey) = false := by simpa using h2
                    clear hh h1 h2
                    refine wp_region_ords [0, 1, 2, 3, 4, 5, 6, 7, 8, 9, 10, 11, 12, 13, 14, 15, 16, 17, 18, 19, 20, 21, 22, 23, 24, 25, 26, 27, 28, 29, 30, 31, 32, 33] [] [] (by kernel_rfl) (by kernel_rfl) (fun d _ _ _ _ h => by cases d <;> exact h) ?_
                    simp only [List.map_cons, List.map_nil, List.getD_cons_zero, List.getD_cons_succ]
                    repeat (go_big_quiet_step (fail))
                    refine wpQuiet_nil ?_
                    refine wpMid_nil ?_
                    go_wp2
                    go_meet
                    case rel => exact ⟨by rw [HH.out], by (repeat (first | exact bl_refl | assumption | (apply bl_then; assumption) | refine bl_alloc ?_ _ | refine bl_drew ?_ | refine bl_drewN ?_ _))⟩
              · have HH : Hid (hitK acc k2 (ex, ey) = false) := by unfold Hid hitK; rw [List.getElem?_eq_none (by omega)]
                clear H
                refine wp_region_ords [0, 1, 2, 3, 4, 5, 6, 7, 8, 9, 10, 11, 12, 13, 14, 15, 16, 17, 18, 19, 20, 21, 22, 23, 24, 25, 26, 27, 28, 29, 30, 31, 32, 33] [] [] (by kernel_rfl) (by kernel_rfl) (fun d _ _ _ _ h => by cases d <;> exact h) ?_
                simp only [List.map_cons, List.map_nil, List.getD_cons_zero, List.getD_cons_succ]
                repeat (go_big_quiet_step (fail))
                refine wpQuiet_nil ?_
                refine wpMid_nil ?_
                go_wp2
                go_meet
                case rel => exact ⟨by rw [HH.out], by (repeat (first | exact bl_refl | assumption | (apply bl_then; assumption) | refine bl_alloc ?_ _ | refine bl_drew ?_ | refine bl_drewN ?_ _))⟩
            case rest =>
              as_aux_lemma =>
                obtain ⟨rfl, hbc⟩ := hcut
                obtain ⟨w7, rfl⟩ : ∃ x, x = wc := ⟨_, rfl⟩
                have hE7 := hE6.below hbc
                replace fE := hE7.facts
                have hr7 := hr6.below hbc
                have hbz7 := bl_then hbc hbz
                clear hE6 hr6 hbc hbz
                obtain ⟨hit, hh⟩ : ∃ q, hitK acc k2 (ex, ey) = q := ⟨_, rfl⟩
                rw [hh]
                cases hit
                · by_cases hlt2 : k2 < acc.length
                  · have hkl : ¬ kltP acc[k2] (ex, ey) := by
                      unfold hitK at hh
                      rw [List.getElem?_eq_getElem hlt2] at hh
                      exact of_decide_eq_false hh
                    have HD : Hid (insK acc (ex, ey) = acc.take k2 ++ if acc[k2] = (ex, ey) then acc.drop k2 else (ex, ey) :: acc.drop k2) := by
                      unfold Hid
                      rw [H.out, insK_drop hlt2, if_neg hkl]
                    have hkf : ((k2 : Int) == (acc.length : Int)) = false := by simp; omega
                    obtain ⟨b3, off3, rfl, hb3, z0, z1⟩ := hr7.knot hlt2
                    obtain ⟨q, hqq⟩ : ∃ q, beqK acc[k2].1 acc[k2].2 ex ey = q := ⟨_, rfl⟩
                    clear hh hkl H
                    cases q
                    · have HE : Hid (insK acc (ex, ey) = (acc.take k2 ++ [(ex, ey)]) ++ acc.drop k2) := by
                        unfold Hid
                        rw [HD.out, if_neg (fun h => by have h2 : beqK acc[k2].1 acc[k2].2 ex ey = true := beqK_true.2 h; rw [hqq] at h2; cases h2), List.append_assoc]; rfl
                      clear HD
                      go_wp2
                      refine wp_region_ords [0, 1, 2, 3, 4, 5, 6, 7, 8, 9, 10, 11] [] [] (by kernel_rfl) (by kernel_rfl) (fun d _ _ _ _ h => by cases d <;> exact h) ?_
                      simp only [List.map_cons, List.map_nil, List.getD_cons_zero, List.getD_cons_succ]
                      repeat (go_big_quiet_step (fail))
                      refine wpQuiet_nil ?_
                      refine wpMid_nil ?_
                      go_wp2
                      obtain ⟨w8, hw8⟩ : ∃ X, w7.drew = X := ⟨_, rfl⟩
                      have hb8 : Below w7.heap.size w7 w8 := by rw [← hw8]; exact bl_drew bl_refl
                      rw [hw8]
                      have hT8 := (sl_pre hr7 hk2 hkc3 hcm3).below hb8
                      have hD8 := (sl_postS (k := k2) hr7 hlc3 hcm3).below hb8
                      have hE8 := hE7.below hb8
                      have fE8 := hE8.facts
                      have hbw8 : Below w.heap.size w w8 := bl_then hb8 (bl_then hbz7 hbw5)
                      clear fE
                      refine wp_region_tree [1, 2, 3, 5, 8, 9, 10] (.alt (.br 0 (.alt (.br 4 (.alt (.br 6 (.alt (.br 7 (.fin) (.stop))) (.stop))) (.br 6 (.alt (.br 4 (.alt (.br 7 (.fin) (.stop))) (.stop))) (.stop)))) (.br 6 (.alt (.br 0 (.alt (.br 4 (.alt (.br 7 (.fin) (.stop))) (.stop))) (.stop))) (.stop)))) [11, 12] (by kernel_rfl) (by kernel_rfl) (fun d _ _ _ _ h => by cases d <;> exact h) ?_
                      simp only [List.map_cons, List.map_nil, List.getD_cons_zero, List.getD_cons_succ]
                      repeat (go_big_quiet_step (fail))
                      refine wpQuiet_nil ?_
                      refine wpTree_alt (wpTree_br rfl rfl ?_ (wpTree_br rfl rfl ?_ wpTree_stop))
                      have own1 := (Own.empty kc 2 w8.drew 52).base_mono (show w8.heap.size ≤ (w8.drew).heap.size by simp <;> omega)
                      intro K hK
                      go_simp
                      refine hK _ _ (by (repeat (first | exact bl_refl | assumption | (apply bl_then; assumption) | refine bl_alloc ?_ _ | refine bl_drew ?_ | refine bl_drewN ?_ _))) ?_
                      clear hK K
                      refine wpTree_alt (wpTree_br rfl rfl ?_ (wpTree_br rfl rfl ?_ wpTree_stop))
                      intro K hK
                      simp only [Array.getD_eq_getD_getElem?, List.getElem?_toArray, List.getElem?_cons_succ, List.getElem?_cons_zero, Option.getD_some]
                      refine opK_app own1 (hT8.below (by (repeat (first | exact bl_refl | assumption | (apply bl_then; assumption) | refine bl_alloc ?_ _ | refine bl_drew ?_ | refine bl_drewN ?_ _)))) _ _ rfl rfl rfl (by simp; omega) (Below.size (by (repeat (first | exact bl_refl | assumption | (apply bl_then; assumption) | refine bl_alloc ?_ _ | refine bl_drew ?_ | refine bl_drewN ?_ _)))) ?_
                      intro v6 w6 own6 hg6
                      have hb6 := own_step own1 hg6 (by (repeat (first | exact bl_refl | assumption | (apply bl_then; assumption) | refine bl_alloc ?_ _ | refine bl_drew ?_ | refine bl_drewN ?_ _)))
                      refine hK _ _ hb6 ?_
                      clear hK K
                      have one1 := Blk.new w6 52 #[.int .i64 ex, .int .i64 ey]
                      refine wpTree_alt (wpTree_br rfl rfl ?_ wpTree_stop)
                      intro K hK
                      go_simp
                      refine hK _ _ (by (repeat (first | exact bl_refl | assumption | (apply bl_then; assumption) | refine bl_alloc ?_ _ | refine bl_drew ?_ | refine bl_drewN ?_ _))) ?_
                      clear hK K
                      refine wpTree_alt (wpTree_br rfl rfl ?_ wpTree_stop)
                      intro K hK
                      simp only [Array.getD_eq_getD_getElem?, List.getElem?_toArray, List.getElem?_cons_succ, List.getElem?_cons_zero, Option.getD_some]
                      refine opK_app (own6.alloc (.cells #[.int .i64 ex, .int .i64 ey] 52)) one1.one_knot _ _ rfl rfl rfl (by simp; omega) (Below.size (by (repeat (first | exact bl_refl | assumption | (apply bl_then; assumption) | refine bl_alloc ?_ _ | refine bl_drew ?_ | refine bl_drewN ?_ _)))) ?_
                      intro v9 w9 own9 hg9
                      have hb9 := own_step (own6.alloc (.cells #[.int .i64 ex, .int .i64 ey] 52)) hg9 (by (repeat (first | exact bl_refl | assumption | (apply bl_then; assumption) | refine bl_alloc ?_ _ | refine bl_drew ?_ | refine bl_drewN ?_ _)))
                      refine hK _ _ hb9 ?_
                      clear hK K
                      refine wpTree_fin ?_
                      rotate_left
                      have one1 := Blk.new (w8.drew.alloc (.cells #[] 52)) 52 #[.int .i64 ex, .int .i64 ey]
                      simp only [World.size_alloc] at one1
                      intro K hK
                      go_simp
                      refine hK _ _ (by (repeat (first | exact bl_refl | assumption | (apply bl_then; assumption) | refine bl_alloc ?_ _ | refine bl_drew ?_ | refine bl_drewN ?_ _))) ?_
                      clear hK K
                      refine wpTree_alt (wpTree_br rfl rfl ?_ wpTree_stop)
                      intro K hK
                      simp only [Array.getD_eq_getD_getElem?, List.getElem?_toArray, List.getElem?_cons_succ, List.getElem?_cons_zero, Option.getD_some]
                      refine opK_app (own1.alloc (.cells #[.int .i64 ex, .int .i64 ey] 52)) (hT8.below (by (repeat (first | exact bl_refl | assumption | (apply bl_then; assumption) | refine bl_alloc ?_ _ | refine bl_drew ?_ | refine bl_drewN ?_ _)))) _ _ rfl rfl rfl (by simp; omega) (Below.size (by (repeat (first | exact bl_refl | assumption | (apply bl_then; assumption) | refine bl_alloc ?_ _ | refine bl_drew ?_ | refine bl_drewN ?_ _)))) ?_
                      intro v6 w6 own6 hg6
                      have hb6 := own_step (own1.alloc (.cells #[.int .i64 ex, .int .i64 ey] 52)) hg6 (by (repeat (first | exact bl_refl | assumption | (apply bl_then; assumption) | refine bl_alloc ?_ _ | refine bl_drew ?_ | refine bl_drewN ?_ _)))
                      refine hK _ _ hb6 ?_
                      clear hK K
                      refine wpTree_alt (wpTree_br rfl rfl ?_ wpTree_stop)
                      intro K hK
                      simp only [Array.getD_eq_getD_getElem?, List.getElem?_toArray, List.getElem?_cons_succ, List.getElem?_cons_zero, Option.getD_some]
                      refine opK_app own6 (one1.grown hg6 (by simp [Value.ownBlock])).one_knot _ _ rfl rfl rfl (by simp; omega) (Below.size (by (repeat (first | exact bl_refl | assumption | (apply bl_then; assumption) | refine bl_alloc ?_ _ | refine bl_drew ?_ | refine bl_drewN ?_ _)))) ?_
                      intro v9 w9 own9 hg9
                      have hb9 := own_step own6 hg9 (by (repeat (first | exact bl_refl | assumption | (apply bl_then; assumption) | refine bl_alloc ?_ _ | refine bl_drew ?_ | refine bl_drewN ?_ _)))
                      refine hK _ _ hb9 ?_
                      clear hK K
                      refine wpTree_fin ?_
                      rotate_left
                      have one1 := Blk.new w8.drew 52 #[.int .i64 ex, .int .i64 ey]
                      intro K hK
                      go_simp
                      refine hK _ _ (by (repeat (first | exact bl_refl | assumption | (apply bl_then; assumption) | refine bl_alloc ?_ _ | refine bl_drew ?_ | refine bl_drewN ?_ _))) ?_
                      clear hK K
                      refine wpTree_alt (wpTree_br rfl rfl ?_ wpTree_stop)
                      have own1 := (Own.empty kc 2 (w8.drew.alloc (.cells #[.int .i64 ex, .int .i64 ey] 52)) 52).base_mono (show w8.heap.size ≤ ((w8.drew.alloc (.cells #[.int .i64 ex, .int .i64 ey] 52))).heap.size by simp <;> omega)
                      simp only [World.size_alloc] at own1
                      intro K hK
                      go_simp
                      refine hK _ _ (by (repeat (first | exact bl_refl | assumption | (apply bl_then; assumption) | refine bl_alloc ?_ _ | refine bl_drew ?_ | refine bl_drewN ?_ _))) ?_
                      clear hK K
                      refine wpTree_alt (wpTree_br rfl rfl ?_ wpTree_stop)
                      intro K hK
                      simp only [Array.getD_eq_getD_getElem?, List.getElem?_toArray, List.getElem?_cons_succ, List.getElem?_cons_zero, Option.getD_some]
                      refine opK_app own1 (hT8.below (by (repeat (first | exact bl_refl | assumption | (apply bl_then; assumption) | refine bl_alloc ?_ _ | refine bl_drew ?_ | refine bl_drewN ?_ _)))) _ _ rfl rfl rfl (by simp; omega) (Below.size (by (repeat (first | exact bl_refl | assumption | (apply bl_then; assumption) | refine bl_alloc ?_ _ | refine bl_drew ?_ | refine bl_drewN ?_ _)))) ?_
                      intro v6 w6 own6 hg6
                      have hb6 := own_step own1 hg6 (by (repeat (first | exact bl_refl | assumption | (apply bl_then; assumption) | refine bl_alloc ?_ _ | refine bl_drew ?_ | refine bl_drewN ?_ _)))
                      refine hK _ _ hb6 ?_
                      clear hK K
                      refine wpTree_alt (wpTree_br rfl rfl ?_ wpTree_stop)
                      intro K hK
                      simp only [Array.getD_eq_getD_getElem?, List.getElem?_toArray, List.getElem?_cons_succ, List.getElem?_cons_zero, Option.getD_some]
                      refine opK_app own6 ((one1.alloc (.cells #[] 52)).grown hg6 (by simp [Value.ownBlock])).one_knot _ _ rfl rfl rfl (by simp; omega) (Below.size (by (repeat (first | exact bl_refl | assumption | (apply bl_then; assumption) | refine bl_alloc ?_ _ | refine bl_drew ?_ | refine bl_drewN ?_ _)))) ?_
                      intro v9 w9 own9 hg9
                      have hb9 := own_step own6 hg9 (by (repeat (first | exact bl_refl | assumption | (apply bl_then; assumption) | refine bl_alloc ?_ _ | refine bl_drew ?_ | refine bl_drewN ?_ _)))
                      refine hK _ _ hb9 ?_
                      clear hK K
                      refine wpTree_fin ?_
                      rotate_left
                      all_goals
                        refine wpList_appKS own9 (hD8.below hb9) rfl _ _ rfl rfl rfl (by simp; omega) hb9.size ?_
                        intro vA wA ownA hgA
                        have hbA := own_step own9 hgA hb9
                        have hOA : OwK w.heap.size wA vA (insK acc (ex, ey)) := by rw [HE.out]; simpa using ownA.base_mono (Below.size hbw8)
                        have hbwA : Below w.heap.size w wA := bl_then hbA hbw8
                        clear ownA hgA own9 own6 own1 hb9 hb6 hg9
                        go_wp2
                        all_goals go_roundw
                        all_goals first | exact ⟨i + 1, by omega, by go_num, by rw [HN2.out]; exact hOA, hbwA⟩ | (simp [intOf]; omega)
                    · have HE : Hid (insK acc (ex, ey) = acc) := by
                        unfold Hid
                        rw [HD.out, if_pos (beqK_true.1 hqq), List.take_append_drop]
                      have hO7 := hO5.below hbz7
                      clear HD
                      go_wp2
                      refine wp_region_ords [0, 1, 2, 3, 4, 5, 6, 7, 8, 9, 10, 11] [] [] (by kernel_rfl) (by kernel_rfl) (fun d _ _ _ _ h => by cases d <;> exact h) ?_
                      simp only [List.map_cons, List.map_nil, List.getD_cons_zero, List.getD_cons_succ]
                      repeat (go_big_quiet_step (fail))
                      refine wpQuiet_nil ?_
                      refine wpMid_nil ?_
                      go_wp2
                      go_roundw
                      case rel => exact ⟨i + 1, by omega, by go_num, by rw [HN2.out, HE.out]; exact hO7.drew, by (repeat (first | exact bl_refl | assumption | (apply bl_then; assumption) | refine bl_alloc ?_ _ | refine bl_drew ?_ | refine bl_drewN ?_ _))⟩
                      case measure => simp [intOf]; omega
                  · have HE : Hid (insK acc (ex, ey) = (acc.take k2 ++ [(ex, ey)]) ++ acc.drop k2) := by
                      unfold Hid
                      rw [H.out, List.drop_eq_nil_of_le (by omega), List.append_nil]; rfl
                    have hkf : ((k2 : Int) == (acc.length : Int)) = true := by simp; omega
                    clear hh H
                    go_wp2
                    refine wp_region_ords [0, 1, 2, 3, 4, 5, 6, 7, 8, 9, 10, 11] [] [] (by kernel_rfl) (by kernel_rfl) (fun d _ _ _ _ h => by cases d <;> exact h) ?_
                    simp only [List.map_cons, List.map_nil, List.getD_cons_zero, List.getD_cons_succ]
                    repeat (go_big_quiet_step (fail))
                    refine wpQuiet_nil ?_
                    refine wpMid_nil ?_
                    go_wp2
                    obtain ⟨w8, hw8⟩ : ∃ X, w7.drew = X := ⟨_, rfl⟩
                    have hb8 : Below w7.heap.size w7 w8 := by rw [← hw8]; exact bl_drew bl_refl
                    rw [hw8]
                    have hT8 := (sl_pre hr7 hk2 hkc3 hcm3).below hb8
                    have hD8 := (sl_post hr7 hlc3 hk2 hcm3).below hb8
                    have hE8 := hE7.below hb8
                    have fE8 := hE8.facts
                    have hbw8 : Below w.heap.size w w8 := bl_then hb8 (bl_then hbz7 hbw5)
                    clear fE
                    refine wp_region_tree [1, 2, 3, 5, 8, 9, 10] (.alt (.br 0 (.alt (.br 4 (.alt (.br 6 (.alt (.br 7 (.fin) (.stop))) (.stop))) (.br 6 (.alt (.br 4 (.alt (.br 7 (.fin) (.stop))) (.stop))) (.stop)))) (.br 6 (.alt (.br 0 (.alt (.br 4 (.alt (.br 7 (.fin) (.stop))) (.stop))) (.stop))) (.stop)))) [11, 12] (by kernel_rfl) (by kernel_rfl) (fun d _ _ _ _ h => by cases d <;> exact h) ?_
                    simp only [List.map_cons, List.map_nil, List.getD_cons_zero, List.getD_cons_succ]
                    repeat (go_big_quiet_step (fail))
                    refine wpQuiet_nil ?_
                    refine wpTree_alt (wpTree_br rfl rfl ?_ (wpTree_br rfl rfl ?_ wpTree_stop))
                    have own1 := (Own.empty kc 2 w8.drew 52).base_mono (show w8.heap.size ≤ (w8.drew).heap.size by simp <;> omega)
                    intro K hK
                    go_simp
                    refine hK _ _ (by (repeat (first | exact bl_refl | assumption | (apply bl_then; assumption) | refine bl_alloc ?_ _ | refine bl_drew ?_ | refine bl_drewN ?_ _))) ?_
                    clear hK K
                    refine wpTree_alt (wpTree_br rfl rfl ?_ (wpTree_br rfl rfl ?_ wpTree_stop))
                    intro K hK
                    simp only [Array.getD_eq_getD_getElem?, List.getElem?_toArray, List.getElem?_cons_succ, List.getElem?_cons_zero, Option.getD_some]
                    refine opK_app own1 (hT8.below (by (repeat (first | exact bl_refl | assumption | (apply bl_then; assumption) | refine bl_alloc ?_ _ | refine bl_drew ?_ | refine bl_drewN ?_ _)))) _ _ rfl rfl rfl (by simp; omega) (Below.size (by (repeat (first | exact bl_refl | assumption | (apply bl_then; assumption) | refine bl_alloc ?_ _ | refine bl_drew ?_ | refine bl_drewN ?_ _)))) ?_
                    intro v6 w6 own6 hg6
                    have hb6 := own_step own1 hg6 (by (repeat (first | exact bl_refl | assumption | (apply bl_then; assumption) | refine bl_alloc ?_ _ | refine bl_drew ?_ | refine bl_drewN ?_ _)))
                    refine hK _ _ hb6 ?_
                    clear hK K
                    have one1 := Blk.new w6 52 #[.int .i64 ex, .int .i64 ey]
                    refine wpTree_alt (wpTree_br rfl rfl ?_ wpTree_stop)
                    intro K hK
                    go_simp
                    refine hK _ _ (by (repeat (first | exact bl_refl | assumption | (apply bl_then; assumption) | refine bl_alloc ?_ _ | refine bl_drew ?_ | refine bl_drewN ?_ _))) ?_
                    clear hK K
                    refine wpTree_alt (wpTree_br rfl rfl ?_ wpTree_stop)
                    intro K hK
                    simp only [Array.getD_eq_getD_getElem?, List.getElem?_toArray, List.getElem?_cons_succ, List.getElem?_cons_zero, Option.getD_some]
                    refine opK_app (own6.alloc (.cells #[.int .i64 ex, .int .i64 ey] 52)) one1.one_knot _ _ rfl rfl rfl (by simp; omega) (Below.size (by (repeat (first | exact bl_refl | assumption | (apply bl_then; assumption) | refine bl_alloc ?_ _ | refine bl_drew ?_ | refine bl_drewN ?_ _)))) ?_
                    intro v9 w9 own9 hg9
                    have hb9 := own_step (own6.alloc (.cells #[.int .i64 ex, .int .i64 ey] 52)) hg9 (by (repeat (first | exact bl_refl | assumption | (apply bl_then; assumption) | refine bl_alloc ?_ _ | refine bl_drew ?_ | refine bl_drewN ?_ _)))
                    refine hK _ _ hb9 ?_
                    clear hK K
                    refine wpTree_fin ?_
                    rotate_left
                    have one1 := Blk.new (w8.drew.alloc (.cells #[] 52)) 52 #[.int .i64 ex, .int .i64 ey]
                    simp only [World.size_alloc] at one1
                    intro K hK
                    go_simp
                    refine hK _ _ (by (repeat (first | exact bl_refl | assumption | (apply bl_then; assumption) | refine bl_alloc ?_ _ | refine bl_drew ?_ | refine bl_drewN ?_ _))) ?_
                    clear hK K
                    refine wpTree_alt (wpTree_br rfl rfl ?_ wpTree_stop)
                    intro K hK
                    simp only [Array.getD_eq_getD_getElem?, List.getElem?_toArray, List.getElem?_cons_succ, List.getElem?_cons_zero, Option.getD_some]
                    refine opK_app (own1.alloc (.cells #[.int .i64 ex, .int .i64 ey] 52)) (hT8.below (by (repeat (first | exact bl_refl | assumption | (apply bl_then; assumption) | refine bl_alloc ?_ _ | refine bl_drew ?_ | refine bl_drewN ?_ _)))) _ _ rfl rfl rfl (by simp; omega) (Below.size (by (repeat (first | exact bl_refl | assumption | (apply bl_then; assumption) | refine bl_alloc ?_ _ | refine bl_drew ?_ | refine bl_drewN ?_ _)))) ?_
                    intro v6 w6 own6 hg6
                    have hb6 := own_step (own1.alloc (.cells #[.int .i64 ex, .int .i64 ey] 52)) hg6 (by (repeat (first | exact bl_refl | assumption | (apply bl_then; assumption) | refine bl_alloc ?_ _ | refine bl_drew ?_ | refine bl_drewN ?_ _)))
                    refine hK _ _ hb6 ?_
                    clear hK K
                    refine wpTree_alt (wpTree_br rfl rfl ?_ wpTree_stop)
                    intro K hK
                    simp only [Array.getD_eq_getD_getElem?, List.getElem?_toArray, List.getElem?_cons_succ, List.getElem?_cons_zero, Option.getD_some]
                    refine opK_app own6 (one1.grown hg6 (by simp [Value.ownBlock])).one_knot _ _ rfl rfl rfl (by simp; omega) (Below.size (by (repeat (first | exact bl_refl | assumption | (apply bl_then; assumption) | refine bl_alloc ?_ _ | refine bl_drew ?_ | refine bl_drewN ?_ _)))) ?_
                    intro v9 w9 own9 hg9
                    have hb9 := own_step own6 hg9 (by (repeat (first | exact bl_refl | assumption | (apply bl_then; assumption) | refine bl_alloc ?_ _ | refine bl_drew ?_ | refine bl_drewN ?_ _)))
                    refine hK _ _ hb9 ?_
                    clear hK K
                    refine wpTree_fin ?_
                    rotate_left
                    have one1 := Blk.new w8.drew 52 #[.int .i64 ex, .int .i64 ey]
                    intro K hK
                    go_simp
                    refine hK _ _ (by (repeat (first | exact bl_refl | assumption | (apply bl_then; assumption) | refine bl_alloc ?_ _ | refine bl_drew ?_ | refine bl_drewN ?_ _))) ?_
                    clear hK K
                    refine wpTree_alt (wpTree_br rfl rfl ?_ wpTree_stop)
                    have own1 := (Own.empty kc 2 (w8.drew.alloc (.cells #[.int .i64 ex, .int .i64 ey] 52)) 52).base_mono (show w8.heap.size ≤ ((w8.drew.alloc (.cells #[.int .i64 ex, .int .i64 ey] 52))).heap.size by simp <;> omega)
                    simp only [World.size_alloc] at own1
                    intro K hK
                    go_simp
                    refine hK _ _ (by (repeat (first | exact bl_refl | assumption | (apply bl_then; assumption) | refine bl_alloc ?_ _ | refine bl_drew ?_ | refine bl_drewN ?_ _))) ?_
                    clear hK K
                    refine wpTree_alt (wpTree_br rfl rfl ?_ wpTree_stop)
                    intro K hK
                    simp only [Array.getD_eq_getD_getElem?, List.getElem?_toArray, List.getElem?_cons_succ, List.getElem?_cons_zero, Option.getD_some]
                    refine opK_app own1 (hT8.below (by (repeat (first | exact bl_refl | assumption | (apply bl_then; assumption) | refine bl_alloc ?_ _ | refine bl_drew ?_ | refine bl_drewN ?_ _)))) _ _ rfl rfl rfl (by simp; omega) (Below.size (by (repeat (first | exact bl_refl | assumption | (apply bl_then; assumption) | refine bl_alloc ?_ _ | refine bl_drew ?_ | refine bl_drewN ?_ _)))) ?_
                    intro v6 w6 own6 hg6
                    have hb6 := own_step own1 hg6 (by (repeat (first | exact bl_refl | assumption | (apply bl_then; assumption) | refine bl_alloc ?_ _ | refine bl_drew ?_ | refine bl_drewN ?_ _)))
                    refine hK _ _ hb6 ?_
                    clear hK K
                    refine wpTree_alt (wpTree_br rfl rfl ?_ wpTree_stop)
                    intro K hK
                    simp only [Array.getD_eq_getD_getElem?, List.getElem?_toArray, List.getElem?_cons_succ, List.getElem?_cons_zero, Option.getD_some]
                    refine opK_app own6 ((one1.alloc (.cells #[] 52)).grown hg6 (by simp [Value.ownBlock])).one_knot _ _ rfl rfl rfl (by simp; omega) (Below.size (by (repeat (first | exact bl_refl | assumption | (apply bl_then; assumption) | refine bl_alloc ?_ _ | refine bl_drew ?_ | refine bl_drewN ?_ _)))) ?_
                    intro v9 w9 own9 hg9
                    have hb9 := own_step own6 hg9 (by (repeat (first | exact bl_refl | assumption | (apply bl_then; assumption) | refine bl_alloc ?_ _ | refine bl_drew ?_ | refine bl_drewN ?_ _)))
                    refine hK _ _ hb9 ?_
                    clear hK K
                    refine wpTree_fin ?_
                    rotate_left
                    all_goals
                      refine wpList_appKS own9 (hD8.below hb9) rfl _ _ rfl rfl rfl (by simp; omega) hb9.size ?_
                      intro vA wA ownA hgA
                      have hbA := own_step own9 hgA hb9
                      have hOA : OwK w.heap.size wA vA (insK acc (ex, ey)) := by rw [HE.out]; simpa using ownA.base_mono (Below.size hbw8)
                      have hbwA : Below w.heap.size w wA := bl_then hbA hbw8
                      clear ownA hgA own9 own6 own1 hb9 hb6 hg9
                      go_wp2
                      all_goals go_roundw
                      all_goals first | exact ⟨i + 1, by omega, by go_num, by rw [HN2.out]; exact hOA, hbwA⟩ | (simp [intOf]; omega)
                · have hlt2 : k2 < acc.length := by
                    unfold hitK at hh
                    cases hg : acc[k2]? with
                    | none => rw [hg] at hh; cases hh
                    | some z => exact (List.getElem?_eq_some_iff.1 hg).1
                  have hkl : kltP acc[k2] (ex, ey) := by
                    unfold hitK at hh
                    rw [List.getElem?_eq_getElem hlt2] at hh
                    exact of_decide_eq_true hh
                  have HD : Hid (insK (acc.drop k2) (ex, ey) = acc[k2] :: insK (acc.drop (k2 + 1)) (ex, ey)) := by
                    unfold Hid
                    rw [insK_drop hlt2, if_pos hkl]
                  clear hh hkl
                  go_wp2
                  go_roundw
                  case rel => exact ⟨k2 + 1, by omega, by go_num, by unfold Hid; rw [H.out, HD.out, List.take_succ_eq_append_getElem hlt2, List.append_assoc]; rfl, by (repeat (first | exact bl_refl | assumption | (apply bl_then; assumption) | refine bl_alloc ?_ _ | refine bl_drew ?_ | refine bl_drewN ?_ _))⟩
                  case measure => simp [intOf]; omega
    · have hE : Hid (holeK l = kIn l i) := (kIn_all (by omega)).symm
      have hit' : ((i : Int) < 2 * (l.length : Int)) = False := eq_false (by omega)
      go_wp2
      go_ret
      exact ⟨_, rfl, by rw [hE.out]; exact hO, hbw⟩
end Go.Proofs.YthkjgcldolnjaaaGreatDoor

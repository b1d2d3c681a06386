/- The reference: a permutation by a key; lists of numbers compared; walked. Conditions: bounds. -/
import Derived.Test.YtpoaomdpcoaolaaC19
import Derived.Test.YtpoaomdpcoaolaaC14
import Derived.Test.YtpoaomdpcoaolaaC05
namespace Go.Proofs.Ytpoaomdpcoaolaa
open Go.RowKit Go.ChangeMaps
set_option maxHeartbeats 4000000
set_option maxRecDepth 100000

/-- does an answer agree with the reference: the error e and nothing, or no error and the same numbers -/
def lstB (l : List Int) (E e : Int) (m : List Int) : Bool := if e ≠ 0 then (decide (l = []) && E == e) else (E == 0 && decide (l = m))
def RIO (w : World) (l : List Int) (e : Ending) (w' : World) : Prop := ∃ v, e = .returned v ∧ OwI w.heap.size w' v l ∧ Below w.heap.size w w'
theorem ownI_shape0 {base : Nat} {e : TypeId} {w : World} {v : Value} {l : List Int} (h : Own ic 1 base e w v l) (hl : 0 < l.length) : ∃ g c, v = .slice (some ⟨g, 0, none⟩) l.length c ∧ base ≤ g := by
  obtain ⟨_, h⟩ := h
  rcases h with ⟨_, h0⟩ | ⟨g, cap, cur, hv, hb, _⟩
  · omega
  · exact ⟨g, cap, hv, hb⟩
theorem rdraw_any (key : Int) (m : Nat) (hk : 1 ≤ key ∧ key ≤ 2147483646) (hm : m ≤ 256) (w : World) : Calls Try.prog 16 #[.int .i64 key, .int .i64 m] w (RIO w (drawL key m)) := by
  have HL0 := Lib.hid (show drawL key m = drawF (m - 1) key (iotaL m) from rfl)
  go_enter Try.func16, Try.ntmps16
  go_wp2
  go_loopw [5, 6] (fun o i wr => ∃ k : Nat, k ≤ m ∧ i = .int .i64 k ∧ OwI w.heap.size wr o (iotaL k) ∧ Below w.heap.size w wr) (fun _ i _ => m - (intOf i).toNat)
  case atStart => exact ⟨0, Nat.zero_le _, rfl, Own.nil_, by (repeat (first | exact bl_refl | assumption | (apply bl_then; assumption) | refine bl_alloc ?_ _ | refine bl_drew ?_ | refine bl_drewN ?_ _))⟩
  case round =>
    obtain ⟨k, hk', rfl, hO, hbw⟩ := hrel
    obtain ⟨wa, rfl⟩ : ∃ x, x = wr := ⟨_, rfl⟩
    by_cases hlt : k < m
    · have hll := iotaL_len k
      have HI : Hid (iotaL (k + 1) = iotaL k ++ [(k : Int)]) := rfl
      go_wp2_with (at_builtin; refine wpList_appI hO rfl _ _ rfl rfl rfl rfl (by omega) (Below.size hbw) ?_; intro v2 w2 hO2 hg2)
      have hbw2 := own_step (hO.alloc (.cells #[.int .i64 (k : Int)] 3)) hg2 (bl_alloc hbw _)
      go_wp2
      go_roundw
      case rel => exact ⟨k + 1, by omega, by go_num, by rw [HI.out]; exact hO2, hbw2⟩
      case measure => simp [intOf]; omega
    · obtain rfl : k = m := by omega
      have hll := iotaL_len k
      have hks := Lib.hid hk
      by_cases hk0 : k = 0
      · subst hk0
        go_wp2
        go_loopw [7] (fun i wr => i = .int .i64 (-1) ∧ wr = wa) (fun _ _ => 0)
        case atStart => exact ⟨rfl, rfl⟩
        case round =>
          obtain ⟨rfl, rfl⟩ := hrel
          go_wp2
          go_ret
          exact ⟨_, rfl, hO, hbw⟩
      · obtain ⟨g, cap, rfl, hgb⟩ := ownI_shape0 hO (by omega)
        rw [hll] at hO ⊢
        go_wp2
        go_loopw [0, 7] (fun x i wr => ∃ (j : Nat) (X : Int) (l : List Int), 1 ≤ j ∧ j ≤ k ∧ i = .int .i64 ((j : Int) - 1) ∧ x = .int .i64 X ∧ Hid (0 ≤ X ∧ X ≤ 2147483646) ∧ l.length = k ∧ Hid (drawL key k = drawF (j - 1) X l) ∧ OwI w.heap.size wr (.slice (some ⟨g, 0, none⟩) k cap) l ∧ Below w.heap.size w wr) (fun _ i _ => (intOf i).toNat)
        case atStart => exact ⟨k, key, _, by omega, Nat.le_refl _, rfl, rfl, by have := hks.out; unfold Hid; omega, hll, HL0, hO, hbw⟩
        case round =>
          clear hO hbw HL0
          obtain ⟨j, X, l, hj1, hj, rfl, rfl, hX, hll, HD, hO, hbw⟩ := hrel
          obtain ⟨wo, rfl⟩ : ∃ x, x = wr := ⟨_, rfl⟩
          by_cases h2 : 2 ≤ j
          · obtain ⟨t, rfl⟩ : ∃ t, j = t + 2 := ⟨j - 2, by omega⟩
            have HD2 : Hid (drawL key k = drawF t (drawX X) (swpL l (t + 1) (drawX X % ((t : Int) + 2)).toNat)) := by unfold Hid; rw [HD.out, show t + 2 - 1 = t + 1 by omega]; rfl
            have hX0 := hX.out
            have hXr : 0 ≤ drawX X ∧ drawX X ≤ 2147483646 := by unfold drawX; omega
            have hx1 : (39373 * X).tmod 2147483647 = drawX X := by unfold drawX; rw [Int.tmod_eq_emod_of_nonneg (by omega)]
            have hx2 : 39373 * X % 2147483647 = drawX X := rfl
            obtain ⟨Z, hZ⟩ : ∃ Z, drawX X = Z := ⟨_, rfl⟩
            rw [hZ] at HD2 hXr hx1 hx2
            obtain ⟨K, hK⟩ : ∃ K : Nat, Z % ((t : Int) + 2) = (K : Int) := ⟨(Z % ((t : Int) + 2)).toNat, by have := Int.emod_nonneg Z (show (t : Int) + 2 ≠ 0 by omega); omega⟩
            have hKl : K < t + 2 := by have := Int.emod_lt_of_pos Z (show (0 : Int) < (t : Int) + 2 by omega); omega
            rw [hK, Int.toNat_natCast] at HD2
            have hk1 : Z % ((t : Int) + 1 + 1) = (K : Int) := by rw [← hK]; congr 1
            have hk2 : Z.tmod ((t : Int) + 1 + 1) = (K : Int) := by rw [Int.tmod_eq_emod_of_nonneg (by omega), hk1]
            have hk3 : Z.tmod ((t : Int) + 2) = (K : Int) := by rw [Int.tmod_eq_emod_of_nonneg (by omega), hK]
            have hi : ((t + 2 : Nat) : Int) - 1 = (t : Int) + 1 := by omega
            rw [hi]
            clear hX hZ HD hK
            obtain ⟨g1, ci, fi⟩ := ownI_cell hO hll (show t + 1 < k by omega)
            obtain ⟨_, ck, fk⟩ := ownI_cell hO hll (show K < k by omega)
            go_upto_region 11 with fail
            refine wp_region_treeB (w.heap.size) [0, 1, 2, 3, 4, 5, 6, 8, 9, 10] (.alt (.br 7 (.alt (.br 11 (.take 12 (.alt (.br 13 (.fin) (.stop)))) (.stop))) (.br 11 (.alt (.br 7 (.take 12 (.alt (.br 13 (.fin) (.stop)))) (.stop))) (.stop)))) [14, 15] (by kernel_rfl) (by kernel_rfl) (fun d _ _ _ _ h => by cases d <;> exact h) ?_
            simp only [List.map_cons, List.map_nil, List.getD_cons_zero, List.getD_cons_succ]
            repeat (go_big_quiet_step (fail))
            refine wpQuiet_nil ?_
            refine wpTree_alt ?_
            refine wpTree_br rfl rfl ?_ ?_
            · intro K hK
              go_simp
              refine hK _ _ (Below.refl _ _).drew ?_
              clear hK K
              refine wpTree_alt ?_
              refine wpTree_br rfl rfl ?_ wpTree_stop
              intro K hK
              go_simp
              refine hK _ _ (Below.refl _ _).drew ?_
              clear hK K
              refine wpTree_take rfl rfl ?_
              intro K hK
              simp only [Array.getD_eq_getD_getElem?, List.getElem?_toArray, List.getElem?_cons_succ, List.getElem?_cons_zero, Option.getD_some]
              go_big_quiet_op
              go_big_quiet_on
              refine wpTree_alt ?_
              refine wpTree_br rfl rfl ?_ wpTree_stop
              intro K hK
              refine op_store_ownI hO hll (i := t + 1) (by omega) _ _ rfl rfl rfl ?_
              intro w6 hO6 hg6
              refine hK _ _ ((Below.refl _ _).drew.trans ((below_of_grown hg6 (Nat.le_of_lt g1)).mono hgb)) ?_
              clear hK K
              refine wpTree_fin ?_
              go_wp2_with (refine wpList_store_ownI hO6 (by rw [List.length_set]; exact hll) (i := K) (by omega) rfl _ _ rfl rfl rfl ?_; intro w7 hO7 hg7)
              have hbw7 : Below w.heap.size w w7 := own_step hO6 hg7 (own_step hO hg6 (bl_drew hbw))
              go_roundw
              case rel => exact ⟨t + 1, Z, swpL l (t + 1) K, by omega, by omega, by go_num, rfl, hXr, by rw [swpL_len]; exact hll, HD2.out, hO7, hbw7⟩
              case measure => simp [intOf]
            · refine wpTree_br rfl rfl ?_ wpTree_stop
              intro K hK
              go_simp
              refine hK _ _ (Below.refl _ _).drew ?_
              clear hK K
              refine wpTree_alt ?_
              refine wpTree_br rfl rfl ?_ wpTree_stop
              intro K hK
              go_simp
              refine hK _ _ (Below.refl _ _).drew ?_
              clear hK K
              refine wpTree_take rfl rfl ?_
              intro K hK
              simp only [Array.getD_eq_getD_getElem?, List.getElem?_toArray, List.getElem?_cons_succ, List.getElem?_cons_zero, Option.getD_some]
              go_big_quiet_op
              go_big_quiet_on
              refine wpTree_alt ?_
              refine wpTree_br rfl rfl ?_ wpTree_stop
              intro K hK
              refine op_store_ownI hO hll (i := t + 1) (by omega) _ _ rfl rfl rfl ?_
              intro w6 hO6 hg6
              refine hK _ _ ((Below.refl _ _).drew.trans ((below_of_grown hg6 (Nat.le_of_lt g1)).mono hgb)) ?_
              clear hK K
              refine wpTree_fin ?_
              go_wp2_with (refine wpList_store_ownI hO6 (by rw [List.length_set]; exact hll) (i := K) (by omega) rfl _ _ rfl rfl rfl ?_; intro w7 hO7 hg7)
              have hbw7 : Below w.heap.size w w7 := own_step hO6 hg7 (own_step hO hg6 (bl_drew hbw))
              go_roundw
              case rel => exact ⟨t + 1, Z, swpL l (t + 1) K, by omega, by omega, by go_num, rfl, hXr, by rw [swpL_len]; exact hll, HD2.out, hO7, hbw7⟩
              case measure => simp [intOf]
          · have HE : Hid (drawL key k = l) := by unfold Hid; rw [HD.out, show j - 1 = 0 by omega]; rfl
            have hlt0 : ((0 : Int) < (j : Int) - 1) = False := by simp; omega
            go_wp2
            go_ret
            exact ⟨_, rfl, by rw [HE.out]; exact hO, hbw⟩
end Go.Proofs.Ytpoaomdpcoaolaa

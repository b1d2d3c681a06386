/- Walks checked and passed, lists of knots told apart, of the program, walked. Conditions: knots within bounds. -/
import Derived.Test.YtpompeancmonbaaGreatD16
namespace Go.Proofs.YtpompeancmonbaaGreat
open Go.RowKit Go.ChangeMaps
set_option maxHeartbeats 4000000
set_option maxRecDepth 100000

theorem equalK_any {v u : Value} (l r : List Knot) (w : World) (h : SlK w v l) (h' : SlK w u r) : Calls Tryz.prog 116 #[v, u] w (RV w (.bool (decide (l = r)))) := by
  obtain ⟨A, c, rfl, hlc, hcm, h⟩ := h
  obtain ⟨A', c', rfl, hlc', hcm', h'⟩ := h'
  have hl : l.length ≤ maxLen := Nat.le_trans hlc hcm
  have hl' : r.length ≤ maxLen := Nat.le_trans hlc' hcm'
  unfold maxLen at hl hl'
  by_cases hlen : l.length = r.length
  · have he2 : ((l.length : Int) != (r.length : Int)) = false := by simp [hlen]
    go_enter Tryz.func116, Tryz.ntmps116
    go_wp2
    go_loopw [13] (fun i wr => ∃ k : Nat, k ≤ l.length ∧ i = .int .i64 k ∧ Hid (decide (l = r) = decide (l.drop k = r.drop k)) ∧ Below w.heap.size w wr) (fun i _ => l.length - (intOf i).toNat)
    case atStart => exact ⟨0, Nat.zero_le _, rfl, by simp [Hid], by (repeat (first | exact bl_refl | assumption | (apply bl_then; assumption) | refine bl_alloc ?_ _ | refine bl_drew ?_ | refine bl_drewN ?_ _))⟩
    case round =>
      obtain ⟨k, hk, rfl, H, hbw⟩ := hrel
      by_cases hlt : k < l.length
      · have hr := h.below hbw
        have hr' := h'.below hbw
        obtain ⟨b, off, rfl, hb, e0, e1⟩ := hr.knot hlt
        obtain ⟨b', off', rfl, hb', e0', e1'⟩ := hr'.knot (hlen ▸ hlt)
        have HD := Lib.hid (same_drop hlen hlt)
        have hlt' : k < r.length := hlen ▸ hlt
        obtain ⟨g, hg⟩ : ∃ g, beqK l[k].1 l[k].2 r[k].1 r[k].2 = g := ⟨_, rfl⟩
        have hg' : decide (l[k] = r[k]) = g := hg
        cases g
        · go_wp2
          refine wp_region_ords [0, 1, 2, 3, 4, 5, 6, 7, 8] [] [] (by kernel_rfl) (by kernel_rfl) (fun d _ _ _ _ h => by cases d <;> exact h) ?_
          simp only [List.map_cons, List.map_nil, List.getD_cons_zero, List.getD_cons_succ]
          repeat (go_big_quiet_step (fail))
          refine wpQuiet_nil ?_
          refine wpMid_nil ?_
          go_wp2
          go_ret
          exact ⟨ret_bool (by rw [H.out, HD.out, hg']; rfl), by (repeat (first | exact bl_refl | assumption | (apply bl_then; assumption) | refine bl_alloc ?_ _ | refine bl_drew ?_ | refine bl_drewN ?_ _))⟩
        · go_wp2
          refine wp_region_ords [0, 1, 2, 3, 4, 5, 6, 7, 8] [] [] (by kernel_rfl) (by kernel_rfl) (fun d _ _ _ _ h => by cases d <;> exact h) ?_
          simp only [List.map_cons, List.map_nil, List.getD_cons_zero, List.getD_cons_succ]
          repeat (go_big_quiet_step (fail))
          refine wpQuiet_nil ?_
          refine wpMid_nil ?_
          go_wp2
          go_roundw
          case rel => exact ⟨k + 1, by omega, by go_num, by rw [H.out, HD.out, hg']; rfl, by (repeat (first | exact bl_refl | assumption | (apply bl_then; assumption) | refine bl_alloc ?_ _ | refine bl_drew ?_ | refine bl_drewN ?_ _))⟩
          case measure => simp [intOf]; omega
      · have hkl : k = l.length := by omega
        go_wp2
        go_ret
        refine ⟨ret_bool ?_, by (repeat (first | exact bl_refl | assumption | (apply bl_then; assumption) | refine bl_alloc ?_ _ | refine bl_drew ?_ | refine bl_drewN ?_ _))⟩
        rw [H.out, hkl, List.drop_length, hlen, List.drop_length]; rfl
  · have he2 : ((l.length : Int) != (r.length : Int)) = true := by simp; omega
    have hd : Hid (decide (l = r) = false) := by simp [Hid]; rintro rfl; exact hlen rfl
    go_enter Tryz.func116, Tryz.ntmps116
    go_wp2
    go_ret
    exact ⟨ret_bool hd.out.symm, by (repeat (first | exact bl_refl | assumption | (apply bl_then; assumption) | refine bl_alloc ?_ _ | refine bl_drew ?_ | refine bl_drewN ?_ _))⟩

theorem bl_set3 {w W : World} {g : Nat} (h : Below w.heap.size w W) (hg : w.heap.size ≤ g) (a b c : Value) : Below w.heap.size w (((W.setCell ⟨g, 0, none⟩ a).setCell ⟨g, 1, none⟩ b).setCell ⟨g, 2, none⟩ c) := bl_set (bl_set (bl_set h hg _) hg _) hg _
/-! ## the error of a walk -/
def knotsE (l : List Knot) : Int := firstI (l.map fun k => knotE k.1 k.2)
theorem knotsE_drop {l : List Knot} {k : Nat} (hk : k < l.length) : knotsE (l.drop k) = if knotE l[k].1 l[k].2 = 0 then knotsE (l.drop (k + 1)) else knotE l[k].1 l[k].2 := by
  unfold knotsE
  rw [List.drop_eq_getElem_cons hk]; rfl
def adjAll : List Knot → Bool
  | a :: b :: r => adjB a b && adjAll (b :: r)
  | _ => true
theorem adjAll_drop {l : List Knot} {k : Nat} (hk : k + 1 < l.length) : adjAll (l.drop k) = (adjB l[k] l[k + 1] && adjAll (l.drop (k + 1))) := by
  rw [List.drop_eq_getElem_cons (show k < l.length by omega), List.drop_eq_getElem_cons hk]; rfl
theorem adjAll_end {l : List Knot} {k : Nat} (hk : l.length ≤ k + 1) : adjAll (l.drop k) = true := by
  rcases Nat.lt_or_ge k l.length with h | h
  · rw [List.drop_eq_getElem_cons h, List.drop_eq_nil_of_le (by omega)]; rfl
  · rw [List.drop_eq_nil_of_le h]; rfl
/-- the error of a walk -/
def cwE (l : List Knot) : Int := if 4097 < l.length then 5 else if knotsE l = 0 then (if adjAll l then 0 else 2) else knotsE l
theorem knotsE_near {l : List Knot} (h : knotsE l = 0) : ∀ k ∈ l, nearK k ∧ knotE k.1 k.2 = 0 := by
  induction l with
  | nil => simp
  | cons x r ih =>
    have h' : (if knotE x.1 x.2 = 0 then knotsE r else knotE x.1 x.2) = 0 := h
    split at h'
    · rename_i h0
      intro k hk
      rcases List.mem_cons.1 hk with rfl | hk
      · obtain ⟨a1, a2, a3, a4, _⟩ := knotE_zero h0
        exact ⟨⟨by omega, by omega, by omega, by omega⟩, h0⟩
      · exact ih h' k hk
    · rename_i h0; exact absurd h' h0

theorem checkWalk_any {v : Value} (l : List Knot) (w : World) (h : SlK w v l) : Calls Tryz.prog 63 #[v] w (RV w (.int .i64 (cwE l))) := by
  obtain ⟨A, c, rfl, hlc, hcm, h⟩ := h
  have hl : l.length ≤ maxLen := Nat.le_trans hlc hcm
  unfold maxLen at hl
  by_cases hbig : 4097 < l.length
  · have HB : Hid (cwE l = 5) := by unfold Hid cwE; rw [if_pos hbig]
    go_enter Tryz.func63, Tryz.ntmps63
    go_wp2
    go_ret
    exact ⟨ret_int (by rw [HB.out]), by (repeat (first | exact bl_refl | assumption | (apply bl_then; assumption) | refine bl_alloc ?_ _ | refine bl_drew ?_ | refine bl_drewN ?_ _))⟩
  · have HB : Hid (cwE l = if knotsE l = 0 then (if adjAll l then 0 else 2) else knotsE l) := by unfold Hid cwE; rw [if_neg hbig]
    obtain ⟨m, hm⟩ : ∃ m, l.length - 1 = m := ⟨_, rfl⟩
    have hmx : max (0 : Int) ((l.length : Int) - 1) = (m : Int) := by omega
    go_enter Tryz.func63, Tryz.ntmps63
    go_wp2
    go_loopw [14] (fun i wr => ∃ k : Nat, k ≤ l.length ∧ i = .int .i64 k ∧ Hid (knotsE l = knotsE (l.drop k)) ∧ Below w.heap.size w wr) (fun i _ => l.length - (intOf i).toNat)
    case atStart => exact ⟨0, Nat.zero_le _, rfl, rfl, by (repeat (first | exact bl_refl | assumption | (apply bl_then; assumption) | refine bl_alloc ?_ _ | refine bl_drew ?_ | refine bl_drewN ?_ _))⟩
    case round =>
      obtain ⟨k, hk, rfl, H, hbw⟩ := hrel
      by_cases hlt : k < l.length
      · have hr := h.below hbw
        obtain ⟨b, off, rfl, hb, e0, e1⟩ := hr.knot hlt
        have HD := Lib.hid (knotsE_drop hlt)
        by_cases hz : knotE l[k].1 l[k].2 = 0
        · have hz' : (knotE l[k].1 l[k].2 != 0) = false := by simp [hz]
          have HZ := Lib.hid hz
          clear hz
          go_wp2_with (go_at_call 36; refine (nknot_any _ _ _).mono ?_; rintro e w1 ⟨rfl, hb1⟩)
          go_roundw
          case rel => exact ⟨k + 1, by omega, by go_num, by unfold Hid; rw [H.out, HD.out, if_pos HZ.out], by (repeat (first | exact bl_refl | assumption | (apply bl_then; assumption) | refine bl_alloc ?_ _ | refine bl_drew ?_ | refine bl_drewN ?_ _))⟩
          case measure => simp [intOf]; omega
        · have hz' : (knotE l[k].1 l[k].2 != 0) = true := by simpa using hz
          have HZ := Lib.hid hz
          clear hz
          go_wp2_with (go_at_call 36; refine (nknot_any _ _ _).mono ?_; rintro e w1 ⟨rfl, hb1⟩)
          go_ret
          refine ⟨ret_int ?_, by (repeat (first | exact bl_refl | assumption | (apply bl_then; assumption) | refine bl_alloc ?_ _ | refine bl_drew ?_ | refine bl_drewN ?_ _))⟩
          have he : knotsE l = knotE l[k].1 l[k].2 := by rw [H.out, HD.out, if_neg HZ.out]
          rw [HB.out, he, if_neg HZ.out]
      · have hkl : k = l.length := by omega
        have hkz : knotsE l = 0 := by rw [H.out, hkl, List.drop_length]; rfl
        have HN : Hid (∀ k ∈ l, nearK k ∧ knotE k.1 k.2 = 0) := knotsE_near hkz
        have HB2 : Hid (cwE l = if adjAll l then 0 else 2) := by unfold Hid; rw [HB.out, if_pos hkz]
        clear hkz
        obtain ⟨wo, rfl⟩ : ∃ wo : World, wo = wr := ⟨_, rfl⟩
        go_wp2
        go_loopw [28] (fun i wr => ∃ k : Nat, k ≤ m ∧ i = .int .i64 k ∧ Hid (adjAll l = adjAll (l.drop k)) ∧ Below w.heap.size w wr) (fun i _ => m - (intOf i).toNat)
        case atStart => exact ⟨0, Nat.zero_le _, rfl, rfl, hbw⟩
        case round =>
          clear H hlt hkl hk
          obtain ⟨k, hk, rfl, H, hbw⟩ := hrel
          by_cases hlt : k < m
          · have hr := h.below hbw
            have hlt1 : k < l.length := by omega
            have hlt2 : k + 1 < l.length := by omega
            obtain ⟨b, off, rfl, hb, e0, e1⟩ := hr.knot hlt1
            obtain ⟨_, e2, e3⟩ := hr.knotAt hlt2
            have HD := Lib.hid (adjAll_drop hlt2)
            have hnk : nearK (l[k].1, l[k].2) := (HN.out _ (List.getElem_mem hlt1)).1
            obtain ⟨g, hg⟩ : ∃ g, adjB l[k] l[k + 1] = g := ⟨_, rfl⟩
            have hbt := fun W => between_any l[k].1 l[k].2 l[k + 1].1 l[k + 1].2 W hnk
            have hg' : adjB (l[k].1, l[k].2) (l[k + 1].1, l[k + 1].2) = g := hg
            rw [hg'] at hbt
            rw [hg] at HD
            clear hg hg'
            cases g
            · go_wp2
              refine wp_region_tree [0, 1, 2, 3, 4, 5, 6, 7, 8] (.alt (.br 9 (.take 10 (.take 11 (.take 12 (.alt (.br 13 (.alt (.br 14 (.fin) (.stop))) (.stop)))))) (.br 13 (.alt (.br 9 (.take 10 (.take 11 (.take 12 (.alt (.br 14 (.fin) (.stop)))))) (.stop))) (.stop)))) [15] (by kernel_rfl) (by kernel_rfl) (fun d _ _ _ _ h => by cases d <;> exact h) ?_
              simp only [List.map_cons, List.map_nil, List.getD_cons_zero, List.getD_cons_succ]
              repeat (go_big_quiet_step (fail))
              refine wpQuiet_nil ?_
              refine wpTree_alt (wpTree_br rfl rfl ?_ (wpTree_br rfl rfl ?_ wpTree_stop))
              · intro K hK
                go_simp
                refine (hbt _).mono ?_
                rintro e w4 ⟨rfl, hb4⟩
                refine hK _ _ (by (repeat (first | exact bl_refl | assumption | (apply bl_then; assumption) | refine bl_alloc ?_ _ | refine bl_drew ?_ | refine bl_drewN ?_ _))) ?_
                clear hK K
                refine wpTree_take rfl rfl ?_
                intro K hK; simp only [Array.getD_eq_getD_getElem?, List.getElem?_toArray, List.getElem?_cons_succ, List.getElem?_cons_zero, Option.getD_some]; go_big_quiet_op; go_big_quiet_on
                refine wpTree_take rfl rfl ?_
                intro K hK; simp only [Array.getD_eq_getD_getElem?, List.getElem?_toArray, List.getElem?_cons_succ, List.getElem?_cons_zero, Option.getD_some]; go_big_quiet_op; go_big_quiet_on
                refine wpTree_take rfl rfl ?_
                intro K hK; simp only [Array.getD_eq_getD_getElem?, List.getElem?_toArray, List.getElem?_cons_succ, List.getElem?_cons_zero, Option.getD_some]; go_big_quiet_op; go_big_quiet_on
                refine wpTree_alt (wpTree_br rfl rfl ?_ wpTree_stop)
                intro K hK
                go_simp
                refine hK _ _ (by (repeat (first | exact bl_refl | assumption | (apply bl_then; assumption) | refine bl_alloc ?_ _ | refine bl_drew ?_ | refine bl_drewN ?_ _))) ?_
                clear hK K
                refine wpTree_alt (wpTree_br rfl rfl ?_ wpTree_stop)
                intro K hK
                go_simp
                refine hK _ _ (by (repeat (first | exact bl_refl | assumption | (apply bl_then; assumption) | refine bl_alloc ?_ _ | refine bl_drew ?_ | refine bl_drewN ?_ _))) ?_
                clear hK K
                refine wpTree_fin ?_
                go_wp2
                go_ret
                exact ⟨ret_int (by rw [HB2.out, H.out, HD.out]; rfl), by (repeat (first | exact bl_refl | assumption | (apply bl_then; assumption) | refine bl_alloc ?_ _ | refine bl_drew ?_ | refine bl_drewN ?_ _))⟩
              · intro K hK
                go_simp
                refine hK _ _ (by (repeat (first | exact bl_refl | assumption | (apply bl_then; assumption) | refine bl_alloc ?_ _ | refine bl_drew ?_ | refine bl_drewN ?_ _))) ?_
                clear hK K
                refine wpTree_alt (wpTree_br rfl rfl ?_ wpTree_stop)
                intro K hK
                go_simp
                refine (hbt _).mono ?_
                rintro e w4 ⟨rfl, hb4⟩
                refine hK _ _ (by (repeat (first | exact bl_refl | assumption | (apply bl_then; assumption) | refine bl_alloc ?_ _ | refine bl_drew ?_ | refine bl_drewN ?_ _))) ?_
                clear hK K
                have hBb := (Blk.new wr 46 #[.int .i64 0, .int .i64 0, .int .i64 0]).below (bl_d hb4)
                have fBb := hBb.facts
                refine wpTree_take rfl rfl ?_
                intro K hK; simp only [Array.getD_eq_getD_getElem?, List.getElem?_toArray, List.getElem?_cons_succ, List.getElem?_cons_zero, Option.getD_some]; go_big_quiet_op; go_big_quiet_on
                refine wpTree_take rfl rfl ?_
                intro K hK; simp only [Array.getD_eq_getD_getElem?, List.getElem?_toArray, List.getElem?_cons_succ, List.getElem?_cons_zero, Option.getD_some]; go_big_quiet_op; go_big_quiet_on
                refine wpTree_take rfl rfl ?_
                intro K hK; simp only [Array.getD_eq_getD_getElem?, List.getElem?_toArray, List.getElem?_cons_succ, List.getElem?_cons_zero, Option.getD_some]; go_big_quiet_op; go_big_quiet_on
                refine wpTree_alt (wpTree_br rfl rfl ?_ wpTree_stop)
                intro K hK
                go_simp
                refine hK _ _ ?_ ?_
                · exact bl_set3 (by (repeat (first | exact bl_refl | assumption | (apply bl_then; assumption) | refine bl_alloc ?_ _ | refine bl_drew ?_ | refine bl_drewN ?_ _))) (Nat.le_refl _) _ _ _
                clear hK K
                refine wpTree_fin ?_
                go_wp2
                go_ret
                exact ⟨ret_int (by rw [HB2.out, H.out, HD.out]; rfl), bl_set3 (by (repeat (first | exact bl_refl | assumption | (apply bl_then; assumption) | refine bl_alloc ?_ _ | refine bl_drew ?_ | refine bl_drewN ?_ _))) hbw.size _ _ _⟩
            · go_wp2
              refine wp_region_tree [0, 1, 2, 3, 4, 5, 6, 7, 8] (.alt (.br 9 (.take 10 (.take 11 (.take 12 (.alt (.br 13 (.alt (.br 14 (.fin) (.stop))) (.stop)))))) (.br 13 (.alt (.br 9 (.take 10 (.take 11 (.take 12 (.alt (.br 14 (.fin) (.stop)))))) (.stop))) (.stop)))) [15] (by kernel_rfl) (by kernel_rfl) (fun d _ _ _ _ h => by cases d <;> exact h) ?_
              simp only [List.map_cons, List.map_nil, List.getD_cons_zero, List.getD_cons_succ]
              repeat (go_big_quiet_step (fail))
              refine wpQuiet_nil ?_
              refine wpTree_alt (wpTree_br rfl rfl ?_ (wpTree_br rfl rfl ?_ wpTree_stop))
              · intro K hK
                go_simp
                refine (hbt _).mono ?_
                rintro e w4 ⟨rfl, hb4⟩
                refine hK _ _ (by (repeat (first | exact bl_refl | assumption | (apply bl_then; assumption) | refine bl_alloc ?_ _ | refine bl_drew ?_ | refine bl_drewN ?_ _))) ?_
                clear hK K
                refine wpTree_take rfl rfl ?_
                intro K hK; simp only [Array.getD_eq_getD_getElem?, List.getElem?_toArray, List.getElem?_cons_succ, List.getElem?_cons_zero, Option.getD_some]; go_big_quiet_op; go_big_quiet_on
                refine wpTree_take rfl rfl ?_
                intro K hK; simp only [Array.getD_eq_getD_getElem?, List.getElem?_toArray, List.getElem?_cons_succ, List.getElem?_cons_zero, Option.getD_some]; go_big_quiet_op; go_big_quiet_on
                refine wpTree_take rfl rfl ?_
                intro K hK; simp only [Array.getD_eq_getD_getElem?, List.getElem?_toArray, List.getElem?_cons_succ, List.getElem?_cons_zero, Option.getD_some]; go_big_quiet_op; go_big_quiet_on
                refine wpTree_alt (wpTree_br rfl rfl ?_ wpTree_stop)
                intro K hK
                go_simp
                refine hK _ _ (by (repeat (first | exact bl_refl | assumption | (apply bl_then; assumption) | refine bl_alloc ?_ _ | refine bl_drew ?_ | refine bl_drewN ?_ _))) ?_
                clear hK K
                refine wpTree_alt (wpTree_br rfl rfl ?_ wpTree_stop)
                intro K hK
                go_simp
                refine hK _ _ (by (repeat (first | exact bl_refl | assumption | (apply bl_then; assumption) | refine bl_alloc ?_ _ | refine bl_drew ?_ | refine bl_drewN ?_ _))) ?_
                clear hK K
                refine wpTree_fin ?_
                go_wp2
                go_roundw
                case rel => exact ⟨k + 1, by omega, by go_num, by unfold Hid; rw [H.out, HD.out]; rfl, by (repeat (first | exact bl_refl | assumption | (apply bl_then; assumption) | refine bl_alloc ?_ _ | refine bl_drew ?_ | refine bl_drewN ?_ _))⟩
                case measure => simp [intOf]; omega
              · intro K hK
                go_simp
                refine hK _ _ (by (repeat (first | exact bl_refl | assumption | (apply bl_then; assumption) | refine bl_alloc ?_ _ | refine bl_drew ?_ | refine bl_drewN ?_ _))) ?_
                clear hK K
                refine wpTree_alt (wpTree_br rfl rfl ?_ wpTree_stop)
                intro K hK
                go_simp
                refine (hbt _).mono ?_
                rintro e w4 ⟨rfl, hb4⟩
                refine hK _ _ (by (repeat (first | exact bl_refl | assumption | (apply bl_then; assumption) | refine bl_alloc ?_ _ | refine bl_drew ?_ | refine bl_drewN ?_ _))) ?_
                clear hK K
                have hBb := (Blk.new wr 46 #[.int .i64 0, .int .i64 0, .int .i64 0]).below (bl_d hb4)
                have fBb := hBb.facts
                refine wpTree_take rfl rfl ?_
                intro K hK; simp only [Array.getD_eq_getD_getElem?, List.getElem?_toArray, List.getElem?_cons_succ, List.getElem?_cons_zero, Option.getD_some]; go_big_quiet_op; go_big_quiet_on
                refine wpTree_take rfl rfl ?_
                intro K hK; simp only [Array.getD_eq_getD_getElem?, List.getElem?_toArray, List.getElem?_cons_succ, List.getElem?_cons_zero, Option.getD_some]; go_big_quiet_op; go_big_quiet_on
                refine wpTree_take rfl rfl ?_
                intro K hK; simp only [Array.getD_eq_getD_getElem?, List.getElem?_toArray, List.getElem?_cons_succ, List.getElem?_cons_zero, Option.getD_some]; go_big_quiet_op; go_big_quiet_on
                refine wpTree_alt (wpTree_br rfl rfl ?_ wpTree_stop)
                intro K hK
                go_simp
                refine hK _ _ ?_ ?_
                · exact bl_set3 (by (repeat (first | exact bl_refl | assumption | (apply bl_then; assumption) | refine bl_alloc ?_ _ | refine bl_drew ?_ | refine bl_drewN ?_ _))) (Nat.le_refl _) _ _ _
                clear hK K
                refine wpTree_fin ?_
                go_wp2
                go_roundw
                case rel => exact ⟨k + 1, by omega, by go_num, by unfold Hid; rw [H.out, HD.out]; rfl, bl_set3 (by (repeat (first | exact bl_refl | assumption | (apply bl_then; assumption) | refine bl_alloc ?_ _ | refine bl_drew ?_ | refine bl_drewN ?_ _))) hbw.size _ _ _⟩
                case measure => simp [intOf]; omega
          · have hkm : k = m := by omega
            have hA := Lib.hid (adjAll_end (l := l) (k := k) (by omega))
            go_wp2
            go_ret
            exact ⟨ret_int (by rw [HB2.out, H.out, hA.out]; rfl), by (repeat (first | exact bl_refl | assumption | (apply bl_then; assumption) | refine bl_alloc ?_ _ | refine bl_drew ?_ | refine bl_drewN ?_ _))⟩
end Go.Proofs.YtpompeancmonbaaGreat

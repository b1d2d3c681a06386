/- A list of knots checked as a walk and as a run, and the bars that it makes, of the reference, walked. Conditions: the slices read as lists. -/
import Derived.Test.YthcnngoaijgnoaaGreatK11
import Derived.Test.YthcnngoaijgnoaaGreatRckJ
namespace Go.Proofs.YthcnngoaijgnoaaGreat
open Go.RowKit Go.ChangeMaps
set_option maxHeartbeats 4000000
set_option maxRecDepth 100000

theorem rAdj_adj (a b : Knot) : rAdj a b = adjB a b := by
  obtain ⟨x, y⟩ := a
  obtain ⟨x', y'⟩ := b
  unfold rAdj adjB
  simp only
  rw [Bool.eq_iff_iff]
  split
  · simp only [Bool.and_eq_true, Bool.or_eq_true, decide_eq_true_eq]; omega
  · simp only [Bool.and_eq_true, Bool.or_eq_true, decide_eq_true_eq]; omega
theorem rcheckWalk_any {v : Value} (l : List Knot) (w : World) (h : SlK w v l) : Calls Tryz.prog 65 #[v] w (RV w (.int .i64 (cwE l))) := by
  obtain ⟨A, c, rfl, hlc, hcm, h⟩ := h
  have hl : l.length ≤ maxLen := Nat.le_trans hlc hcm
  unfold maxLen at hl
  by_cases hbig : 4097 < l.length
  · have HB : Hid (cwE l = 5) := by unfold Hid cwE; rw [if_pos hbig]
    go_enter Tryz.func65, Tryz.ntmps65
    go_wp2
    go_ret
    exact ⟨ret_int (by rw [HB.out]), by (repeat (first | exact bl_refl | assumption | (apply bl_then; assumption) | refine bl_alloc ?_ _ | refine bl_drew ?_ | refine bl_drewN ?_ _))⟩
  · have HB : Hid (cwE l = if knotsE l = 0 then (if adjAll l then 0 else 2) else knotsE l) := by unfold Hid cwE; rw [if_neg hbig]
    obtain ⟨m, hm⟩ : ∃ m, l.length - 1 = m := ⟨_, rfl⟩
    go_enter Tryz.func65, Tryz.ntmps65
    go_wp2
    go_loopw [3] (fun i wr => ∃ k : Nat, k ≤ l.length ∧ i = .int .i64 k ∧ Hid (knotsE l = knotsE (l.drop k)) ∧ Below w.heap.size w wr) (fun i _ => l.length - (intOf i).toNat)
    case atStart => exact ⟨0, Nat.zero_le _, rfl, rfl, by (repeat (first | exact bl_refl | assumption | (apply bl_then; assumption) | refine bl_alloc ?_ _ | refine bl_drew ?_ | refine bl_drewN ?_ _))⟩
    case round =>
      obtain ⟨k, hk, rfl, H, hbw⟩ := hrel
      by_cases hlt : k < l.length
      · have hr := h.below hbw
        obtain ⟨b, off, rfl, hb, e0, e1⟩ := hr.knot hlt
        have HD := Lib.hid (knotsE_drop hlt)
        by_cases hz : knotE l[k].1 l[k].2 = 0
        · have hz' : (knotE l[k].1 l[k].2 != 0) = false := by simp [hz]
          have HZ := Lib.hid hz
          clear hz
          go_wp2_with (go_at_call 23; refine (rknot_any _ _ _).mono ?_; rintro e w1 ⟨rfl, hb1⟩)
          go_roundw
          case rel => exact ⟨k + 1, by omega, by go_num, by unfold Hid; rw [H.out, HD.out, if_pos HZ.out], by (repeat (first | exact bl_refl | assumption | (apply bl_then; assumption) | refine bl_alloc ?_ _ | refine bl_drew ?_ | refine bl_drewN ?_ _))⟩
          case measure => simp [intOf]; omega
        · have hz' : (knotE l[k].1 l[k].2 != 0) = true := by simpa using hz
          have HZ := Lib.hid hz
          clear hz
          go_wp2_with (go_at_call 23; refine (rknot_any _ _ _).mono ?_; rintro e w1 ⟨rfl, hb1⟩)
          go_ret
          refine ⟨ret_int ?_, by (repeat (first | exact bl_refl | assumption | (apply bl_then; assumption) | refine bl_alloc ?_ _ | refine bl_drew ?_ | refine bl_drewN ?_ _))⟩
          have he : knotsE l = knotE l[k].1 l[k].2 := by rw [H.out, HD.out, if_neg HZ.out]
          rw [HB.out, he, if_neg HZ.out]
      · have hkz : knotsE l = 0 := by rw [H.out, show k = l.length by omega, List.drop_length]; rfl
        have HN : Hid (∀ k ∈ l, nearK k ∧ knotE k.1 k.2 = 0) := knotsE_near hkz
        have HB2 : Hid (cwE l = if adjAll l then 0 else 2) := by unfold Hid; rw [HB.out, if_pos hkz]
        clear hkz
        go_wp2
        go_loopw [5] (fun i wr => ∃ k : Nat, k ≤ m ∧ i = .int .i64 ((k : Int) + 1) ∧ Hid (adjAll l = adjAll (l.drop k)) ∧ Below w.heap.size w wr) (fun i _ => m + 1 - (intOf i).toNat)
        case atStart => exact ⟨0, Nat.zero_le _, rfl, rfl, hbw⟩
        case round =>
          clear H hlt hk hbw
          obtain ⟨k, hk, rfl, H, hbw⟩ := hrel
          by_cases hlt : k < m
          · have hr := h.below hbw
            have hlt1 : k < l.length := by omega
            have hlt2 : k + 1 < l.length := by omega
            obtain ⟨b, off, rfl, hb, e0, e1⟩ := hr.knot hlt1
            obtain ⟨_, e2, e3⟩ := hr.knotAt hlt2
            have hnk := (HN.out _ (List.getElem_mem hlt1)).1
            have hnk2 := (HN.out _ (List.getElem_mem hlt2)).1
            have hbt := fun W => rbetween_any l[k].1 l[k].2 l[k + 1].1 l[k + 1].2 hnk hnk2 W
            have HD := Lib.hid (adjAll_drop hlt2)
            rw [rAdj_adj] at hbt
            obtain ⟨g, hg⟩ : ∃ g, adjB (l[k].1, l[k].2) (l[k + 1].1, l[k + 1].2) = g := ⟨_, rfl⟩
            have HG : Hid (adjB l[k] l[k + 1] = g) := hg
            obtain ⟨⟨bx, by_, bs⟩, hbb⟩ : ∃ z, btwB (l[k].1, l[k].2) (l[k + 1].1, l[k + 1].2) = z := ⟨_, rfl⟩
            rw [hbb, hg] at hbt
            have hkt : ((k : Int) + 1 < (l.length : Int)) = True := by simp; omega
            clear hbb hg hnk hnk2
            cases g
            · have HE : Hid (cwE l = 2) := by unfold Hid; rw [HB2.out, H.out, HD.out, HG.out]; rfl
              go_wp2
              refine wp_region_tree [0, 1, 2, 3, 4, 5, 6, 7, 8] (.alt (.br 9 (.take 10 (.take 11 (.take 12 (.alt (.br 13 (.alt (.br 14 (.fin) (.stop))) (.stop)))))) (.br 13 (.alt (.br 9 (.take 10 (.take 11 (.take 12 (.alt (.br 14 (.fin) (.stop)))))) (.stop))) (.stop)))) [15] (by kernel_rfl) (by kernel_rfl) (fun d _ _ _ _ h => by cases d <;> exact h) ?_
              simp only [List.map_cons, List.map_nil, List.getD_cons_zero, List.getD_cons_succ]
              repeat (go_big_quiet_step (fail))
              refine wpQuiet_nil ?_
              refine wpTree_alt (wpTree_br rfl rfl ?_ (wpTree_br rfl rfl ?_ wpTree_stop))
              · intro K hK
                go_simp
                refine (hbt _).mono ?_
                rintro e w4 ⟨rfl, hb4⟩
                refine hK _ _ (by (repeat (first | exact bl_refl | assumption | (apply bl_then; assumption) | refine bl_alloc ?_ _ | refine bl_drew ?_ | refine bl_drewN ?_ _))) ?_
                clear hK K
                refine wpTree_take rfl rfl ?_
                intro K hK; simp only [Array.getD_eq_getD_getElem?, List.getElem?_toArray, List.getElem?_cons_succ, List.getElem?_cons_zero, Option.getD_some]; go_big_quiet_op; go_big_quiet_on
                refine wpTree_take rfl rfl ?_
                intro K hK; simp only [Array.getD_eq_getD_getElem?, List.getElem?_toArray, List.getElem?_cons_succ, List.getElem?_cons_zero, Option.getD_some]; go_big_quiet_op; go_big_quiet_on
                refine wpTree_take rfl rfl ?_
                intro K hK; simp only [Array.getD_eq_getD_getElem?, List.getElem?_toArray, List.getElem?_cons_succ, List.getElem?_cons_zero, Option.getD_some]; go_big_quiet_op; go_big_quiet_on
                refine wpTree_alt (wpTree_br rfl rfl ?_ wpTree_stop)
                intro K hK
                go_simp
                refine hK _ _ (by (repeat (first | exact bl_refl | assumption | (apply bl_then; assumption) | refine bl_alloc ?_ _ | refine bl_drew ?_ | refine bl_drewN ?_ _))) ?_
                clear hK K
                refine wpTree_alt (wpTree_br rfl rfl ?_ wpTree_stop)
                intro K hK
                go_simp
                refine hK _ _ (by (repeat (first | exact bl_refl | assumption | (apply bl_then; assumption) | refine bl_alloc ?_ _ | refine bl_drew ?_ | refine bl_drewN ?_ _))) ?_
                clear hK K
                refine wpTree_fin ?_
                go_wp2
                go_ret
                exact ⟨ret_int HE.out.symm, by (repeat (first | exact bl_refl | assumption | (apply bl_then; assumption) | refine bl_alloc ?_ _ | refine bl_drew ?_ | refine bl_drewN ?_ _))⟩
              · intro K hK
                go_simp
                refine hK _ _ (by (repeat (first | exact bl_refl | assumption | (apply bl_then; assumption) | refine bl_alloc ?_ _ | refine bl_drew ?_ | refine bl_drewN ?_ _))) ?_
                clear hK K
                refine wpTree_alt (wpTree_br rfl rfl ?_ wpTree_stop)
                intro K hK
                go_simp
                refine (hbt _).mono ?_
                rintro e w4 ⟨rfl, hb4⟩
                refine hK _ _ (by (repeat (first | exact bl_refl | assumption | (apply bl_then; assumption) | refine bl_alloc ?_ _ | refine bl_drew ?_ | refine bl_drewN ?_ _))) ?_
                clear hK K
                have hBb := (Blk.new wr 70 #[.int .i64 0, .int .i64 0, .int .i64 0]).below (show Below _ _ w4 from bl_d hb4)
                have fBb := hBb.facts
                refine wpTree_take rfl rfl ?_
                intro K hK; simp only [Array.getD_eq_getD_getElem?, List.getElem?_toArray, List.getElem?_cons_succ, List.getElem?_cons_zero, Option.getD_some]; go_big_quiet_op; go_big_quiet_on
                refine wpTree_take rfl rfl ?_
                intro K hK; simp only [Array.getD_eq_getD_getElem?, List.getElem?_toArray, List.getElem?_cons_succ, List.getElem?_cons_zero, Option.getD_some]; go_big_quiet_op; go_big_quiet_on
                refine wpTree_take rfl rfl ?_
                intro K hK; simp only [Array.getD_eq_getD_getElem?, List.getElem?_toArray, List.getElem?_cons_succ, List.getElem?_cons_zero, Option.getD_some]; go_big_quiet_op; go_big_quiet_on
                refine wpTree_alt (wpTree_br rfl rfl ?_ wpTree_stop)
                intro K hK
                go_simp
                refine hK _ _ (bl_set3 (by (repeat (first | exact bl_refl | assumption | (apply bl_then; assumption) | refine bl_alloc ?_ _ | refine bl_drew ?_ | refine bl_drewN ?_ _))) (Nat.le_refl _) _ _ _) ?_
                clear hK K
                refine wpTree_fin ?_
                have hbS : Below w.heap.size w (((w4.setCell ⟨wr.heap.size, 0, none⟩ (.int .i64 bx)).setCell ⟨wr.heap.size, 1, none⟩ (.int .i64 by_)).setCell ⟨wr.heap.size, 2, none⟩ (.int .i64 bs)) := bl_set3 (by (repeat (first | exact bl_refl | assumption | (apply bl_then; assumption) | refine bl_alloc ?_ _ | refine bl_drew ?_ | refine bl_drewN ?_ _))) hbw.size _ _ _
                go_wp2
                go_ret
                exact ⟨ret_int HE.out.symm, hbS⟩
            · go_wp2
              refine wp_region_tree [0, 1, 2, 3, 4, 5, 6, 7, 8] (.alt (.br 9 (.take 10 (.take 11 (.take 12 (.alt (.br 13 (.alt (.br 14 (.fin) (.stop))) (.stop)))))) (.br 13 (.alt (.br 9 (.take 10 (.take 11 (.take 12 (.alt (.br 14 (.fin) (.stop)))))) (.stop))) (.stop)))) [15] (by kernel_rfl) (by kernel_rfl) (fun d _ _ _ _ h => by cases d <;> exact h) ?_
              simp only [List.map_cons, List.map_nil, List.getD_cons_zero, List.getD_cons_succ]
              repeat (go_big_quiet_step (fail))
              refine wpQuiet_nil ?_
              refine wpTree_alt (wpTree_br rfl rfl ?_ (wpTree_br rfl rfl ?_ wpTree_stop))
              · intro K hK
                go_simp
                refine (hbt _).mono ?_
                rintro e w4 ⟨rfl, hb4⟩
                refine hK _ _ (by (repeat (first | exact bl_refl | assumption | (apply bl_then; assumption) | refine bl_alloc ?_ _ | refine bl_drew ?_ | refine bl_drewN ?_ _))) ?_
                clear hK K
                refine wpTree_take rfl rfl ?_
                intro K hK; simp only [Array.getD_eq_getD_getElem?, List.getElem?_toArray, List.getElem?_cons_succ, List.getElem?_cons_zero, Option.getD_some]; go_big_quiet_op; go_big_quiet_on
                refine wpTree_take rfl rfl ?_
                intro K hK; simp only [Array.getD_eq_getD_getElem?, List.getElem?_toArray, List.getElem?_cons_succ, List.getElem?_cons_zero, Option.getD_some]; go_big_quiet_op; go_big_quiet_on
                refine wpTree_take rfl rfl ?_
                intro K hK; simp only [Array.getD_eq_getD_getElem?, List.getElem?_toArray, List.getElem?_cons_succ, List.getElem?_cons_zero, Option.getD_some]; go_big_quiet_op; go_big_quiet_on
                refine wpTree_alt (wpTree_br rfl rfl ?_ wpTree_stop)
                intro K hK
                go_simp
                refine hK _ _ (by (repeat (first | exact bl_refl | assumption | (apply bl_then; assumption) | refine bl_alloc ?_ _ | refine bl_drew ?_ | refine bl_drewN ?_ _))) ?_
                clear hK K
                refine wpTree_alt (wpTree_br rfl rfl ?_ wpTree_stop)
                intro K hK
                go_simp
                refine hK _ _ (by (repeat (first | exact bl_refl | assumption | (apply bl_then; assumption) | refine bl_alloc ?_ _ | refine bl_drew ?_ | refine bl_drewN ?_ _))) ?_
                clear hK K
                refine wpTree_fin ?_
                go_wp2
                go_roundw
                case rel => exact ⟨k + 1, by omega, by go_num, by unfold Hid; rw [H.out, HD.out, HG.out]; rfl, by (repeat (first | exact bl_refl | assumption | (apply bl_then; assumption) | refine bl_alloc ?_ _ | refine bl_drew ?_ | refine bl_drewN ?_ _))⟩
                case measure => simp [intOf]; omega
              · intro K hK
                go_simp
                refine hK _ _ (by (repeat (first | exact bl_refl | assumption | (apply bl_then; assumption) | refine bl_alloc ?_ _ | refine bl_drew ?_ | refine bl_drewN ?_ _))) ?_
                clear hK K
                refine wpTree_alt (wpTree_br rfl rfl ?_ wpTree_stop)
                intro K hK
                go_simp
                refine (hbt _).mono ?_
                rintro e w4 ⟨rfl, hb4⟩
                refine hK _ _ (by (repeat (first | exact bl_refl | assumption | (apply bl_then; assumption) | refine bl_alloc ?_ _ | refine bl_drew ?_ | refine bl_drewN ?_ _))) ?_
                clear hK K
                have hBb := (Blk.new wr 70 #[.int .i64 0, .int .i64 0, .int .i64 0]).below (show Below _ _ w4 from bl_d hb4)
                have fBb := hBb.facts
                refine wpTree_take rfl rfl ?_
                intro K hK; simp only [Array.getD_eq_getD_getElem?, List.getElem?_toArray, List.getElem?_cons_succ, List.getElem?_cons_zero, Option.getD_some]; go_big_quiet_op; go_big_quiet_on
                refine wpTree_take rfl rfl ?_
                intro K hK; simp only [Array.getD_eq_getD_getElem?, List.getElem?_toArray, List.getElem?_cons_succ, List.getElem?_cons_zero, Option.getD_some]; go_big_quiet_op; go_big_quiet_on
                refine wpTree_take rfl rfl ?_
                intro K hK; simp only [Array.getD_eq_getD_getElem?, List.getElem?_toArray, List.getElem?_cons_succ, List.getElem?_cons_zero, Option.getD_some]; go_big_quiet_op; go_big_quiet_on
                refine wpTree_alt (wpTree_br rfl rfl ?_ wpTree_stop)
                intro K hK
                go_simp
                refine hK _ _ (bl_set3 (by (repeat (first | exact bl_refl | assumption | (apply bl_then; assumption) | refine bl_alloc ?_ _ | refine bl_drew ?_ | refine bl_drewN ?_ _))) (Nat.le_refl _) _ _ _) ?_
                clear hK K
                refine wpTree_fin ?_
                have hbS : Below w.heap.size w (((w4.setCell ⟨wr.heap.size, 0, none⟩ (.int .i64 bx)).setCell ⟨wr.heap.size, 1, none⟩ (.int .i64 by_)).setCell ⟨wr.heap.size, 2, none⟩ (.int .i64 bs)) := bl_set3 (by (repeat (first | exact bl_refl | assumption | (apply bl_then; assumption) | refine bl_alloc ?_ _ | refine bl_drew ?_ | refine bl_drewN ?_ _))) hbw.size _ _ _
                go_wp2
                go_roundw
                case rel => exact ⟨k + 1, by omega, by go_num, by unfold Hid; rw [H.out, HD.out, HG.out]; rfl, hbS⟩
                case measure => simp [intOf]; omega
          · have hkt : ((k : Int) + 1 < (l.length : Int)) = False := by simp; omega
            have HE : Hid (cwE l = 0) := by unfold Hid; rw [HB2.out, H.out, adjAll_end (by omega)]; rfl
            go_wp2
            go_ret
            exact ⟨ret_int HE.out.symm, by (repeat (first | exact bl_refl | assumption | (apply bl_then; assumption) | refine bl_alloc ?_ _ | refine bl_drew ?_ | refine bl_drewN ?_ _))⟩
def isRunAny (D : List Bar) (l : List Knot) : Bool := (oddK D).any fun k => decide (rwalkL D k = l) && isRunP D (rwalkL D k)
theorem any_dropK (f : Knot → Bool) {l : List Knot} {k : Nat} (hk : k < l.length) : (l.drop k).any f = (f l[k] || (l.drop (k + 1)).any f) := by
  rw [List.drop_eq_getElem_cons hk]; rfl
theorem risRunAny_any {v u z : Value} (D : List Bar) (l : List Knot) (w : World) (hD : SlB w u D) (hz : SlK w z l) (hk : ∀ b ∈ D, BarOk b) (hlen : D.length ≤ 50000) :
    Calls Tryz.prog 67 #[.agg #[v, u], z] w (RV w (.bool (isRunAny D l))) := by
  have hB := Blk.new w 24 #[v, u]
  have hD0 := hD.alloc (.cells #[v, u] 24)
  have hz0 := hz.alloc (.cells #[v, u] 24)
  have HN := Lib.hid (odd_near hk)
  have HKK := Lib.hid hk
  have hoo := fun (v : Value) X (hX : SlB X u D) => rodd_any (v := v) D X hX hk (by omega)
  have HI : Hid (isRunAny D l = (oddK D).any fun k => decide (rwalkL D k = l) && isRunP D (rwalkL D k)) := rfl
  have hol := oddK_len (D := D)
  obtain ⟨o, ho⟩ : ∃ o, oddK D = o := ⟨_, rfl⟩
  rw [ho] at hoo HN HI hol
  clear ho hk
  go_enter Tryz.func67, Tryz.ntmps67
  go_wp2_with (go_at_call 55; refine (hoo _ _ hD0).mono ?_; rintro e w1 ⟨v1, rfl, hown1, hb1⟩; obtain ⟨A1, c1, rfl⟩ := hown1.shape)
  have hB1 := hB.below hb1
  have hD1 := hD0.below hb1
  have hz1 := hz0.below hb1
  have hbw1 : Below w.heap.size w w1 := by (repeat (first | exact bl_refl | assumption | (apply bl_then; assumption) | refine bl_alloc ?_ _ | refine bl_drew ?_ | refine bl_drewN ?_ _))
  go_loopw [6] (fun i wr => ∃ k : Nat, k ≤ o.length ∧ i = .int .i64 k ∧ Hid (isRunAny D l = (o.drop k).any fun k => decide (rwalkL D k = l) && isRunP D (rwalkL D k)) ∧ Below w1.heap.size w1 wr) (fun i _ => o.length - (intOf i).toNat)
  case atStart => exact ⟨0, Nat.zero_le _, rfl, HI, Below.refl _ _⟩
  case round =>
    obtain ⟨k, hkl, rfl, H, hbw⟩ := hrel
    have hBr := hB1.below hbw
    have fB := hBr.facts
    have hDr := hD1.below hbw
    have hzr := hz1.below hbw
    have hlr := hown1.below hbw
    by_cases hlt : k < o.length
    · obtain ⟨A1', c1', he, hlc, hcm, hr⟩ := hlr.rd kc_len
      obtain ⟨rfl, rfl⟩ : A1 = A1' ∧ c1 = c1' := by simpa using he
      obtain ⟨b, off, rfl, hb, e0, e1⟩ := hr.knot hlt
      obtain ⟨hnk, hok⟩ := HN.out _ (List.getElem_mem hlt)
      have HD := Lib.hid (any_dropK (fun k => decide (rwalkL D k = l) && isRunP D (rwalkL D k)) hlt)
      obtain ⟨⟨x, y⟩, hx⟩ : ∃ z, o[k] = z := ⟨_, rfl⟩
      rw [hx] at e0 e1 hnk hok HD
      simp only at e0 e1
      have hle := odd_legs hok
      have hwk := fun (v : Value) X (hX : SlB X u D) => rwalk_any (v := v) D x y X hX HKK.out (by omega) hle
      have hwl := rwalk_len D (x, y)
      have hwn := Lib.hid (rwalk_near HKK.out hle)
      have hwne : Hid (rwalkL D (x, y) ≠ []) := by unfold Hid rwalkL; simp
      obtain ⟨W, hW⟩ : ∃ W, rwalkL D (x, y) = W := ⟨_, rfl⟩
      rw [hW] at hwk hwl hwn hwne
      have HD2 : Hid (isRunAny D l = ((decide (W = l) && isRunP D W) || (o.drop (k + 1)).any fun k => decide (rwalkL D k = l) && isRunP D (rwalkL D k))) := by unfold Hid; rw [H.out, HD.out, hW]
      have hir := fun (v z : Value) X (hX : SlB X u D) (hz : SlK X z W) => risRun_any (v := v) D W X hX hz hwne.out hwn.out (by omega)
      have hsk := fun (v z : Value) X (hX : SlK X v W) (hz : SlK X z l) => sameKnots_any W l X hX hz
      obtain ⟨g1, hg1⟩ : ∃ g, decide (W = l) = g := ⟨_, rfl⟩
      obtain ⟨g2, hg2⟩ : ∃ g, isRunP D W = g := ⟨_, rfl⟩
      rw [hg1] at hsk
      rw [hg2] at hir
      rw [hg1, hg2] at HD2
      clear he hx hok hW hle hg1 hg2 hnk HD
      cases g1
      · go_wp2
        refine wp_region_ords [0, 1, 2, 3, 4] [] [5, 6] (by kernel_rfl) (by kernel_rfl) (fun d _ _ _ _ h => by cases d <;> exact h) ?_
        simp only [List.map_cons, List.map_nil, List.getD_cons_zero, List.getD_cons_succ]
        repeat (go_big_quiet_step (fail))
        refine wpQuiet_nil ?_
        refine wpMid_nil ?_
        go_wp2_with (first | (go_at_call 27; refine (hwk _ _ (hDr.below (by (repeat (first | exact bl_refl | assumption | (apply bl_then; assumption) | refine bl_alloc ?_ _ | refine bl_drew ?_ | refine bl_drewN ?_ _))))).mono ?_; rintro e w5 ⟨v5, rfl, hown5, hb5⟩; obtain ⟨A5, c5, rfl⟩ := hown5.shape) |
          (go_at_call 29; refine (hsk _ _ _ (hown5.rd kc_len) (hzr.below (by (repeat (first | exact bl_refl | assumption | (apply bl_then; assumption) | refine bl_alloc ?_ _ | refine bl_drew ?_ | refine bl_drewN ?_ _))))).mono ?_; rintro e w6 ⟨rfl, hb6⟩))
        go_roundw
        case rel => exact ⟨k + 1, by omega, by go_num, by unfold Hid; rw [HD2.out]; rfl, by (repeat (first | exact bl_refl | assumption | (apply bl_then; assumption) | refine bl_alloc ?_ _ | refine bl_drew ?_ | refine bl_drewN ?_ _))⟩
        case measure => simp [intOf]; omega
      · cases g2
        · go_wp2
          refine wp_region_ords [0, 1, 2, 3, 4] [] [5, 6] (by kernel_rfl) (by kernel_rfl) (fun d _ _ _ _ h => by cases d <;> exact h) ?_
          simp only [List.map_cons, List.map_nil, List.getD_cons_zero, List.getD_cons_succ]
          repeat (go_big_quiet_step (fail))
          refine wpQuiet_nil ?_
          refine wpMid_nil ?_
          go_wp2_with (first | (go_at_call 27; refine (hwk _ _ (hDr.below (by (repeat (first | exact bl_refl | assumption | (apply bl_then; assumption) | refine bl_alloc ?_ _ | refine bl_drew ?_ | refine bl_drewN ?_ _))))).mono ?_; rintro e w5 ⟨v5, rfl, hown5, hb5⟩; obtain ⟨A5, c5, rfl⟩ := hown5.shape) |
            (go_at_call 29; refine (hsk _ _ _ (hown5.rd kc_len) (hzr.below (by (repeat (first | exact bl_refl | assumption | (apply bl_then; assumption) | refine bl_alloc ?_ _ | refine bl_drew ?_ | refine bl_drewN ?_ _))))).mono ?_; rintro e w6 ⟨rfl, hb6⟩; have fB6 := (hBr.below (show Below _ _ w6 by (repeat (first | exact bl_refl | assumption | (apply bl_then; assumption) | refine bl_alloc ?_ _ | refine bl_drew ?_ | refine bl_drewN ?_ _)))).facts) |
            (go_at_call 91; refine (hir _ _ _ (hDr.below (by (repeat (first | exact bl_refl | assumption | (apply bl_then; assumption) | refine bl_alloc ?_ _ | refine bl_drew ?_ | refine bl_drewN ?_ _)))) ((hown5.rd kc_len).below (by (repeat (first | exact bl_refl | assumption | (apply bl_then; assumption) | refine bl_alloc ?_ _ | refine bl_drew ?_ | refine bl_drewN ?_ _))))).mono ?_; rintro e w7 ⟨rfl, hb7⟩))
          go_roundw
          case rel => exact ⟨k + 1, by omega, by go_num, by unfold Hid; rw [HD2.out]; rfl, by (repeat (first | exact bl_refl | assumption | (apply bl_then; assumption) | refine bl_alloc ?_ _ | refine bl_drew ?_ | refine bl_drewN ?_ _))⟩
          case measure => simp [intOf]; omega
        · have HE : Hid (isRunAny D l = true) := by unfold Hid; rw [HD2.out]; rfl
          go_wp2
          refine wp_region_ords [0, 1, 2, 3, 4] [] [5, 6] (by kernel_rfl) (by kernel_rfl) (fun d _ _ _ _ h => by cases d <;> exact h) ?_
          simp only [List.map_cons, List.map_nil, List.getD_cons_zero, List.getD_cons_succ]
          repeat (go_big_quiet_step (fail))
          refine wpQuiet_nil ?_
          refine wpMid_nil ?_
          go_wp2_with (first | (go_at_call 27; refine (hwk _ _ (hDr.below (by (repeat (first | exact bl_refl | assumption | (apply bl_then; assumption) | refine bl_alloc ?_ _ | refine bl_drew ?_ | refine bl_drewN ?_ _))))).mono ?_; rintro e w5 ⟨v5, rfl, hown5, hb5⟩; obtain ⟨A5, c5, rfl⟩ := hown5.shape) |
            (go_at_call 29; refine (hsk _ _ _ (hown5.rd kc_len) (hzr.below (by (repeat (first | exact bl_refl | assumption | (apply bl_then; assumption) | refine bl_alloc ?_ _ | refine bl_drew ?_ | refine bl_drewN ?_ _))))).mono ?_; rintro e w6 ⟨rfl, hb6⟩; have fB6 := (hBr.below (show Below _ _ w6 by (repeat (first | exact bl_refl | assumption | (apply bl_then; assumption) | refine bl_alloc ?_ _ | refine bl_drew ?_ | refine bl_drewN ?_ _)))).facts) |
            (go_at_call 91; refine (hir _ _ _ (hDr.below (by (repeat (first | exact bl_refl | assumption | (apply bl_then; assumption) | refine bl_alloc ?_ _ | refine bl_drew ?_ | refine bl_drewN ?_ _)))) ((hown5.rd kc_len).below (by (repeat (first | exact bl_refl | assumption | (apply bl_then; assumption) | refine bl_alloc ?_ _ | refine bl_drew ?_ | refine bl_drewN ?_ _))))).mono ?_; rintro e w7 ⟨rfl, hb7⟩))
          go_ret
          exact ⟨ret_bool HE.out.symm, by (repeat (first | exact bl_refl | assumption | (apply bl_then; assumption) | refine bl_alloc ?_ _ | refine bl_drew ?_ | refine bl_drewN ?_ _))⟩
    · have HE : Hid (isRunAny D l = false) := by unfold Hid; rw [H.out, List.drop_eq_nil_of_le (by omega)]; rfl
      go_wp2
      go_ret
      exact ⟨ret_bool HE.out.symm, by (repeat (first | exact bl_refl | assumption | (apply bl_then; assumption) | refine bl_alloc ?_ _ | refine bl_drew ?_ | refine bl_drewN ?_ _))⟩
/-- the bars that a walk makes, where none is passed twice -/
def mkB : List Bar → List Bar → Option (List Bar)
  | o, [] => some o
  | o, b :: r => if hasb o b then none else mkB (insB o b) r
theorem mkB_drop {l : List Bar} {k : Nat} (hk : k < l.length) (o : List Bar) : mkB o (l.drop k) = if hasb o l[k] then none else mkB (insB o l[k]) (l.drop (k + 1)) := by
  rw [List.drop_eq_getElem_cons hk, mkB]
/-- the call returns a fresh row of bars and whether there is one -/
def ROB (w : World) (o : Option (List Bar)) (e : Ending) (w' : World) : Prop := ∃ v, e = .returned (.tuple #[v, .bool o.isSome]) ∧ OwB w.heap.size w' v (o.getD []) ∧ Below w.heap.size w w'
theorem passP_len : ∀ l : List Knot, (passP l).length ≤ l.length
  | [] => Nat.le_refl _
  | [_] => by simp [passP]
  | a :: b :: r => by
    have := passP_len (b :: r)
    simp only [passP, List.length_cons] at this ⊢
    omega
theorem rmade_any {v : Value} (l : List Knot) (w : World) (h : SlK w v l) (hnear : ∀ k ∈ l, nearK k) (hlen : l.length ≤ 100000) : Calls Tryz.prog 66 #[v] w (ROB w (mkB [] (passP l))) := by
  have hpl := passP_len l
  have hps := fun X (hX : SlK X v l) => passes_any l X hX hnear hlen
  obtain ⟨p, hp⟩ : ∃ p, passP l = p := ⟨_, rfl⟩
  rw [hp] at hpl hps ⊢
  clear hp hnear
  go_enter Tryz.func66, Tryz.ntmps66
  go_wp2_with (go_at_call 118; refine (hps _ h).mono ?_; rintro e w1 ⟨v1, rfl, hown1, hb1⟩; obtain ⟨A1, c1, rfl⟩ := hown1.shape)
  go_loopw [5, 6] (fun o i wr => ∃ (k : Nat) (acc : List Bar), k ≤ p.length ∧ i = .int .i64 k ∧ Hid (acc.length = k) ∧ Hid (mkB [] p = mkB acc (p.drop k)) ∧ OwB w1.heap.size wr o acc ∧ Below w1.heap.size w1 wr) (fun _ i _ => p.length - (intOf i).toNat)
  case atStart => exact ⟨0, [], Nat.zero_le _, rfl, rfl, rfl, Own.nil_, Below.refl _ _⟩
  case round =>
    obtain ⟨k, acc, hk, rfl, HL, H, hown, hbw⟩ := hrel
    obtain ⟨A5, c5, rfl⟩ := hown.shape
    by_cases hlt : k < p.length
    · have hpr := hown1.below hbw
      obtain ⟨A1', c1', he, hlc, hcm, hr⟩ := hpr.rd bc_len
      obtain ⟨rfl, rfl⟩ : A1 = A1' ∧ c1 = c1' := by simpa using he
      obtain ⟨b, off, rfl, hb, e0, e1, e2⟩ := hr.bar hlt
      have HD := Lib.hid (mkB_drop hlt acc)
      have hal : acc.length ≤ 100000 := by have := HL.out; omega
      obtain ⟨⟨x, y, s⟩, hx⟩ : ∃ z, p[k] = z := ⟨_, rfl⟩
      rw [hx] at e0 e1 e2 HD
      simp only at e0 e1 e2
      have HX := Lib.hid hx
      have hh := fun v X (hX : SlB X v acc) => has_any (v := v) acc x y s X hX
      obtain ⟨q, hq⟩ : ∃ q, hasb acc (x, y, s) = q := ⟨_, rfl⟩
      rw [hq] at hh HD
      clear he hx hq
      cases q
      · go_wp2_with (first | (go_at_call 46; refine (hh _ _ (hown.rd bc_len)).mono ?_; rintro e w4 ⟨rfl, hb4⟩; have hr4 := hr.below hb4; obtain ⟨_, f0, f1, f2⟩ := hr4.barAt hlt; rw [HX.out] at f0 f1 f2; simp only at f0 f1 f2) |
          (go_at_call 73; refine (rwith_any acc x y s _ ((hown.below hb4).rd bc_len) hal).mono ?_; rintro e w5 ⟨v5, rfl, hown5, hb5⟩))
        go_roundw
        case rel => exact ⟨k + 1, insB acc (x, y, s), by omega, by go_num, by unfold Hid; rw [insB_len, HL.out], by unfold Hid; rw [H.out, HD.out]; rfl, hown5.base_mono (Below.size (show Below w1.heap.size w1 w4 by (repeat (first | exact bl_refl | assumption | (apply bl_then; assumption) | refine bl_alloc ?_ _ | refine bl_drew ?_ | refine bl_drewN ?_ _)))), by (repeat (first | exact bl_refl | assumption | (apply bl_then; assumption) | refine bl_alloc ?_ _ | refine bl_drew ?_ | refine bl_drewN ?_ _))⟩
        case measure => simp [intOf]; omega
      · have HE : Hid (mkB [] p = none) := by unfold Hid; rw [H.out, HD.out]; rfl
        go_wp2_with (first | (go_at_call 46; refine (hh _ _ (hown.rd bc_len)).mono ?_; rintro e w4 ⟨rfl, hb4⟩))
        go_ret2
        exact ⟨.slice none 0 0, by rw [HE.out]; rfl, by rw [HE.out]; exact Own.nil_, by (repeat (first | exact bl_refl | assumption | (apply bl_then; assumption) | refine bl_alloc ?_ _ | refine bl_drew ?_ | refine bl_drewN ?_ _))⟩
    · have HE : Hid (mkB [] p = some acc) := by unfold Hid; rw [H.out, List.drop_eq_nil_of_le (by omega)]; rfl
      go_wp2
      go_ret2
      exact ⟨_, by rw [HE.out]; rfl, by rw [HE.out]; exact hown.base_mono hb1.size, by (repeat (first | exact bl_refl | assumption | (apply bl_then; assumption) | refine bl_alloc ?_ _ | refine bl_drew ?_ | refine bl_drewN ?_ _))⟩
end Go.Proofs.YthcnngoaijgnoaaGreat

/- The reference: degrees, legs, meshes, walked. Conditions: the net has no error. -/
import Derived.Test.YtkmjcoofkgpanaaGreatDoorB21
import Derived.Test.YtkmjcoofkgpanaaGreatDoorB20
import Derived.Test.YtkmjcoofkgpanaaGreatDoorB07
namespace Go.Proofs.YtkmjcoofkgpanaaGreatDoor
open Go.RowKit Go.ChangeMaps
set_option maxHeartbeats 4000000
set_option maxRecDepth 100000

attribute [local go_sem] Oper.semAt_some
theorem lwhen_any (b : Bool) (n : Int) (w : World) : Calls Tryz.prog 31 #[.bool b, .int .i64 n] w (RV w (.int .i64 (whenI b n))) := by
  cases b
  all_goals
    go_enter Tryz.func31, Tryz.ntmps31
    go_wp2
    go_ret
    exact ⟨rfl, by (repeat (first | exact bl_refl | assumption | (apply bl_then; assumption) | refine bl_alloc ?_ _ | refine bl_drew ?_ | refine bl_drewN ?_ _))⟩
theorem deg_take {l : List Bar} {k : Nat} (hk : k < l.length) (a : Knot) : (l.take (k + 1)).countP (atB a) = (l.take k).countP (atB a) + if atB a l[k] then 1 else 0 := by
  rw [List.take_succ_eq_append_getElem hk, List.countP_append, List.countP_cons, List.countP_nil]
  split <;> simp_all
theorem rdegree_any {v : Value} (l : List Bar) (x y : Int) (w : World) (h : SlB w v l) (hk : ∀ b ∈ l, BarOk b) (hlen : l.length ≤ 10000) : Calls Tryz.prog 43 #[v, .agg #[.int .i64 x, .int .i64 y]] w (RV w (.int .i64 (degN l (x, y) : Nat))) := by
  obtain ⟨A, c, rfl, hlc, hcm, h⟩ := h
  have HK := Lib.hid hk
  clear hk
  have hB := Blk.new w 23 #[.int .i64 x, .int .i64 y]
  have h0 := h.alloc (.cells #[.int .i64 x, .int .i64 y] 23)
  go_enter Tryz.func43, Tryz.ntmps43
  go_wp2
  go_loopw [5, 6] (fun n i wr => ∃ k : Nat, k ≤ l.length ∧ i = .int .i64 k ∧ n = .int .i64 (((l.take k).countP (atB (x, y)) : Nat) : Int) ∧ Blk wr w.heap.size 23 #[.int .i64 x, .int .i64 y] ∧ Below w.heap.size w wr) (fun _ i _ => l.length - (intOf i).toNat)
  case atStart => exact ⟨0, Nat.zero_le _, rfl, rfl, hB, by (repeat (first | exact bl_refl | assumption | (apply bl_then; assumption) | refine bl_alloc ?_ _ | refine bl_drew ?_ | refine bl_drewN ?_ _))⟩
  case round =>
    obtain ⟨k, hk, rfl, rfl, hBr, hbw⟩ := hrel
    obtain ⟨wo, rfl⟩ : ∃ x, x = wr := ⟨_, rfl⟩
    clear hB h0
    have fB := hBr.facts
    by_cases hlt : k < l.length
    · have hr := h.below hbw
      obtain ⟨b, off, rfl, hb, e0, e1, e2⟩ := hr.bar hlt
      have hbo := HK.out _ (List.getElem_mem hlt)
      have HD := Lib.hid (deg_take hlt (x, y))
      have hcl : (l.take k).countP (atB (x, y)) ≤ k := by
        have h1 : (l.take k).countP (atB (x, y)) ≤ (l.take k).length := List.countP_le_length
        have h2 : (l.take k).length ≤ k := by simp; omega
        omega
      obtain ⟨n, hn⟩ : ∃ n, (l.take k).countP (atB (x, y)) = n := ⟨_, rfl⟩
      rw [hn] at hcl HD ⊢
      obtain ⟨⟨bx, bY, bs⟩, hx⟩ : ∃ z, l[k] = z := ⟨_, rfl⟩
      rw [hx] at e0 e1 e2 hbo HD
      simp only at e0 e1 e2
      clear hx hn
      obtain ⟨q1, q2, q3⟩ := hbo
      simp only at q1 q2 q3
      have HA : Hid (atB (x, y) (bx, bY, bs) = (beqK bx bY x y || beqK (bx + bs) (bY + 1) x y)) := rfl
      cases hq : beqK bx bY x y
      · cases hq2 : beqK (bx + bs) (bY + 1) x y
        · have HD2 : Hid ((l.take (k + 1)).countP (atB (x, y)) = n) := by unfold Hid; rw [HD.out, HA.out, hq, hq2]; rfl
          clear HD HA
          as_aux_lemma =>
            go_wp2
            refine wp_region_ords [0, 1, 2, 3, 5] [(4, false), (6, false), (7, false), (8, true), (9, true), (10, true), (11, true), (13, true), (12, false)] [14, 15] (by kernel_rfl) (by kernel_rfl) (fun d _ _ _ _ h => by cases d <;> exact h) ?_
            simp only [List.map_cons, List.map_nil, List.getD_cons_zero, List.getD_cons_succ]
            repeat (go_big_quiet_step (fail))
            refine wpQuiet_nil ?_
            refine wpMid_run rfl (fun K hK => ?_)
            go_simp
            refine (rlower_any _ _ _ _).mono ?_
            rintro e w1 ⟨rfl, hb1⟩
            refine hK _ _ (by (repeat (first | exact bl_refl | assumption | (apply bl_then; assumption) | refine bl_alloc ?_ _ | refine bl_drew ?_ | refine bl_drewN ?_ _))) ?_
            clear hK K
            have hBr_w1 := hBr.below (show Below _ _ w1 by (repeat (first | exact bl_refl | assumption | (apply bl_then; assumption) | refine bl_alloc ?_ _ | refine bl_drew ?_ | refine bl_drewN ?_ _)))
            have fhBr_w1 := hBr_w1.facts
            refine wpMid_run rfl (fun K hK => ?_)
            go_simp
            refine hK _ _ (by (repeat (first | exact bl_refl | assumption | (apply bl_then; assumption) | refine bl_alloc ?_ _ | refine bl_drew ?_ | refine bl_drewN ?_ _))) ?_
            clear hK K
            refine wpMid_run rfl (fun K hK => ?_)
            go_simp
            refine hK _ _ (by (repeat (first | exact bl_refl | assumption | (apply bl_then; assumption) | refine bl_alloc ?_ _ | refine bl_drew ?_ | refine bl_drewN ?_ _))) ?_
            clear hK K
            refine wpMid_take rfl ?_
            intro K hK
            go_big_quiet_op
            go_big_quiet_on
            refine wpMid_take rfl ?_
            intro K hK
            go_big_quiet_op
            go_big_quiet_on
            refine wpMid_take rfl ?_
            intro K hK
            go_big_quiet_op
            go_big_quiet_on
            refine wpMid_take rfl ?_
            intro K hK
            go_big_quiet_op
            go_big_quiet_on
            refine wpMid_take rfl ?_
            intro K hK
            go_big_quiet_op
            go_big_quiet_on
            refine wpMid_run rfl (fun K hK => ?_)
            go_simp
            refine (rupper_any _ _ _ (by omega) (by omega) (by omega) _).mono ?_
            rintro e w2 ⟨rfl, hb2⟩
            refine hK _ _ (by (repeat (first | exact bl_refl | assumption | (apply bl_then; assumption) | refine bl_alloc ?_ _ | refine bl_drew ?_ | refine bl_drewN ?_ _))) ?_
            clear hK K
            have hBr_w1_w2 := hBr_w1.below (show Below _ _ w2 by (repeat (first | exact bl_refl | assumption | (apply bl_then; assumption) | refine bl_alloc ?_ _ | refine bl_drew ?_ | refine bl_drewN ?_ _)))
            have fhBr_w1_w2 := hBr_w1_w2.facts
            refine wpMid_nil ?_
            go_wp2
            go_roundw
            case rel => exact ⟨k + 1, by omega, by go_num, by rw [HD2.out], hBr_w1_w2, by (repeat (first | exact bl_refl | assumption | (apply bl_then; assumption) | refine bl_alloc ?_ _ | refine bl_drew ?_ | refine bl_drewN ?_ _))⟩
            case measure => simp [intOf]; omega
        · have HD2 : Hid ((l.take (k + 1)).countP (atB (x, y)) = n + 1) := by unfold Hid; rw [HD.out, HA.out, hq, hq2]; rfl
          clear HD HA
          as_aux_lemma =>
            go_wp2
            refine wp_region_ords [0, 1, 2, 3, 5] [(4, false), (6, false), (7, false), (8, true), (9, true), (10, true), (11, true), (13, true), (12, false)] [14, 15] (by kernel_rfl) (by kernel_rfl) (fun d _ _ _ _ h => by cases d <;> exact h) ?_
            simp only [List.map_cons, List.map_nil, List.getD_cons_zero, List.getD_cons_succ]
            repeat (go_big_quiet_step (fail))
            refine wpQuiet_nil ?_
            refine wpMid_run rfl (fun K hK => ?_)
            go_simp
            refine (rlower_any _ _ _ _).mono ?_
            rintro e w1 ⟨rfl, hb1⟩
            refine hK _ _ (by (repeat (first | exact bl_refl | assumption | (apply bl_then; assumption) | refine bl_alloc ?_ _ | refine bl_drew ?_ | refine bl_drewN ?_ _))) ?_
            clear hK K
            have hBr_w1 := hBr.below (show Below _ _ w1 by (repeat (first | exact bl_refl | assumption | (apply bl_then; assumption) | refine bl_alloc ?_ _ | refine bl_drew ?_ | refine bl_drewN ?_ _)))
            have fhBr_w1 := hBr_w1.facts
            refine wpMid_run rfl (fun K hK => ?_)
            go_simp
            refine hK _ _ (by (repeat (first | exact bl_refl | assumption | (apply bl_then; assumption) | refine bl_alloc ?_ _ | refine bl_drew ?_ | refine bl_drewN ?_ _))) ?_
            clear hK K
            refine wpMid_run rfl (fun K hK => ?_)
            go_simp
            refine hK _ _ (by (repeat (first | exact bl_refl | assumption | (apply bl_then; assumption) | refine bl_alloc ?_ _ | refine bl_drew ?_ | refine bl_drewN ?_ _))) ?_
            clear hK K
            refine wpMid_take rfl ?_
            intro K hK
            go_big_quiet_op
            go_big_quiet_on
            refine wpMid_take rfl ?_
            intro K hK
            go_big_quiet_op
            go_big_quiet_on
            refine wpMid_take rfl ?_
            intro K hK
            go_big_quiet_op
            go_big_quiet_on
            refine wpMid_take rfl ?_
            intro K hK
            go_big_quiet_op
            go_big_quiet_on
            refine wpMid_take rfl ?_
            intro K hK
            go_big_quiet_op
            go_big_quiet_on
            refine wpMid_run rfl (fun K hK => ?_)
            go_simp
            refine (rupper_any _ _ _ (by omega) (by omega) (by omega) _).mono ?_
            rintro e w2 ⟨rfl, hb2⟩
            refine hK _ _ (by (repeat (first | exact bl_refl | assumption | (apply bl_then; assumption) | refine bl_alloc ?_ _ | refine bl_drew ?_ | refine bl_drewN ?_ _))) ?_
            clear hK K
            have hBr_w1_w2 := hBr_w1.below (show Below _ _ w2 by (repeat (first | exact bl_refl | assumption | (apply bl_then; assumption) | refine bl_alloc ?_ _ | refine bl_drew ?_ | refine bl_drewN ?_ _)))
            have fhBr_w1_w2 := hBr_w1_w2.facts
            refine wpMid_nil ?_
            go_wp2
            go_roundw
            case rel => exact ⟨k + 1, by omega, by go_num, by rw [HD2.out]; go_num, hBr_w1_w2, by (repeat (first | exact bl_refl | assumption | (apply bl_then; assumption) | refine bl_alloc ?_ _ | refine bl_drew ?_ | refine bl_drewN ?_ _))⟩
            case measure => simp [intOf]; omega
      · have HD2 : Hid ((l.take (k + 1)).countP (atB (x, y)) = n + 1) := by unfold Hid; rw [HD.out, HA.out, hq]; rfl
        clear HD HA
        as_aux_lemma =>
          go_wp2
          refine wp_region_ords [0, 1, 2, 3, 5] [(4, false), (6, false), (7, false), (8, true), (9, true), (10, true), (11, true), (13, true), (12, false)] [14, 15] (by kernel_rfl) (by kernel_rfl) (fun d _ _ _ _ h => by cases d <;> exact h) ?_
          simp only [List.map_cons, List.map_nil, List.getD_cons_zero, List.getD_cons_succ]
          repeat (go_big_quiet_step (fail))
          refine wpQuiet_nil ?_
          refine wpMid_run rfl (fun K hK => ?_)
          go_simp
          refine (rlower_any _ _ _ _).mono ?_
          rintro e w1 ⟨rfl, hb1⟩
          refine hK _ _ (by (repeat (first | exact bl_refl | assumption | (apply bl_then; assumption) | refine bl_alloc ?_ _ | refine bl_drew ?_ | refine bl_drewN ?_ _))) ?_
          clear hK K
          have hBr_w1 := hBr.below (show Below _ _ w1 by (repeat (first | exact bl_refl | assumption | (apply bl_then; assumption) | refine bl_alloc ?_ _ | refine bl_drew ?_ | refine bl_drewN ?_ _)))
          have fhBr_w1 := hBr_w1.facts
          refine wpMid_run rfl (fun K hK => ?_)
          go_simp
          refine hK _ _ (by (repeat (first | exact bl_refl | assumption | (apply bl_then; assumption) | refine bl_alloc ?_ _ | refine bl_drew ?_ | refine bl_drewN ?_ _))) ?_
          clear hK K
          refine wpMid_run rfl (fun K hK => ?_)
          go_simp
          refine hK _ _ (by (repeat (first | exact bl_refl | assumption | (apply bl_then; assumption) | refine bl_alloc ?_ _ | refine bl_drew ?_ | refine bl_drewN ?_ _))) ?_
          clear hK K
          refine wpMid_skipT (by kernel_rfl) ?_
          intro K hK
          simp only [Act.put, List.setIfInBounds_toArray, List.set_cons_zero, List.set_cons_succ]
          refine hK _ ?_
          clear hK K
          refine wpMid_skipT (by kernel_rfl) ?_
          intro K hK
          simp only [Act.put, List.setIfInBounds_toArray, List.set_cons_zero, List.set_cons_succ]
          refine hK _ ?_
          clear hK K
          refine wpMid_skipT (by kernel_rfl) ?_
          intro K hK
          simp only [Act.put, List.setIfInBounds_toArray, List.set_cons_zero, List.set_cons_succ]
          refine hK _ ?_
          clear hK K
          refine wpMid_skipT (by kernel_rfl) ?_
          intro K hK
          simp only [Act.put, List.setIfInBounds_toArray, List.set_cons_zero, List.set_cons_succ]
          refine hK _ ?_
          clear hK K
          refine wpMid_skipT (by kernel_rfl) ?_
          intro K hK
          simp only [Act.put, List.setIfInBounds_toArray, List.set_cons_zero, List.set_cons_succ]
          refine hK _ ?_
          clear hK K
          refine wpMid_skipF (by kernel_rfl) ?_
          intro K hK
          simp only [Act.put, List.setIfInBounds_toArray, List.set_cons_zero, List.set_cons_succ]
          refine hK _ ?_
          clear hK K
          refine wpMid_nil ?_
          go_wp2
          go_roundw
          case rel => exact ⟨k + 1, by omega, by go_num, by rw [HD2.out]; go_num, hBr_w1, by (repeat (first | exact bl_refl | assumption | (apply bl_then; assumption) | refine bl_alloc ?_ _ | refine bl_drew ?_ | refine bl_drewN ?_ _))⟩
          case measure => simp [intOf]; omega
    · have HE : Hid ((l.take k).countP (atB (x, y)) = degN l (x, y)) := by unfold Hid; rw [List.take_of_length_le (by omega), degN_eq]
      go_wp2
      go_ret
      exact ⟨by rw [HE.out]; rfl, hbw⟩
theorem legC_take {l : List Bar} {K : List Knot} {k : Nat} (hk : k < K.length) (d : Nat) : legC l (K.take (k + 1)) d = legC l (K.take k ++ [K[k]]) d := by rw [List.take_succ_eq_append_getElem hk]
theorem rlegs_any {v : Value} (l : List Bar) (w : World) (h : SlB w v l) (hok : NetOk l) : Calls Tryz.prog 46 #[v] w (RV w (.agg (legA l (holeK l)))) := by
  have hB := Blk.new w 52 #[.int .i64 0, .int .i64 0, .int .i64 0, .int .i64 0, .int .i64 0]
  have hG := Blk.new1 w (.cells #[.int .i64 0, .int .i64 0, .int .i64 0, .int .i64 0, .int .i64 0] 52) 52 #[.int .i64 0, .int .i64 0, .int .i64 0, .int .i64 0, .int .i64 0]
  have hBa := hB.alloc (.cells #[.int .i64 0, .int .i64 0, .int .i64 0, .int .i64 0, .int .i64 0] 52)
  have HO := Lib.hid hok
  have hlen := hok.len
  have hkl : (holeK l).length ≤ 10000 := by
    have := kIn_len l (2 * l.length)
    rw [kIn_all (Nat.le_refl _)] at this
    omega
  clear hok hB
  go_enter Tryz.func46, Tryz.ntmps46
  go_wp2_with fail
  refine (rknots_any l _ (h.below (by (repeat (first | exact bl_refl | assumption | (apply bl_then; assumption) | refine bl_alloc ?_ _ | refine bl_drew ?_ | refine bl_drewN ?_ _)))) HO.out.ok (by omega)).mono ?_
  rintro e w2 ⟨vK, rfl, hOK, hb2⟩
  have hK : OwK (w.heap.size + 2) w2 vK (holeK l) := hOK.base_mono (by simp)
  obtain ⟨AK, cK, rfl⟩ := hK.shape
  have hG2 := hG.below hb2
  have hB2 := hBa.below hb2
  have hbw2 : Below w.heap.size w w2 := by (repeat (first | exact bl_refl | assumption | (apply bl_then; assumption) | refine bl_alloc ?_ _ | refine bl_drew ?_ | refine bl_drewN ?_ _))
  have hw2 : w.heap.size + 2 ≤ w2.heap.size := by have := hb2.size; simp at this; omega
  clear hG hBa hOK hb2
  obtain ⟨K, hKK⟩ : ∃ K, holeK l = K := ⟨_, rfl⟩
  have HK := Lib.hid hKK
  rw [hKK] at hK hkl ⊢
  clear hKK
  go_wp2
  go_loopw [5] (fun i wr => ∃ k : Nat, k ≤ K.length ∧ i = .int .i64 k ∧ Blk wr (w.heap.size + 1) 52 (legA l (K.take k)) ∧ Blk wr w.heap.size 52 zer5 ∧ OwK (w.heap.size + 2) wr (.slice AK K.length cK) K ∧ Below w.heap.size w wr) (fun i _ => K.length - (intOf i).toNat)
  case atStart => exact ⟨0, Nat.zero_le _, rfl, hG2, hB2, hK, hbw2⟩
  case round =>
    clear hG2 hB2 hK hbw2
    obtain ⟨k, hk, rfl, hGr, hBr, hKr, hbw⟩ := hrel
    obtain ⟨wo, rfl⟩ : ∃ x, x = wr := ⟨_, rfl⟩
    by_cases hlt : k < K.length
    · obtain ⟨AK', cK', he, hlc, hcm, hr⟩ := hKr.rd kc_len
      obtain ⟨rfl, rfl⟩ : AK = AK' ∧ cK = cK' := by simpa using he
      obtain ⟨b, off, rfl, hb, e0, e1⟩ := hr.knot hlt
      clear he
      have hT : Hid (∀ d, legC l (K.take (k + 1)) d = legC l (K.take k ++ [K[k]]) d) := fun d => legC_take hlt d
      obtain ⟨⟨kx, ky⟩, hx⟩ : ∃ z, K[k] = z := ⟨_, rfl⟩
      rw [hx] at e0 e1 hT
      simp only at e0 e1
      clear hx
      obtain ⟨d, hd⟩ : ∃ d, degN l (kx, ky) = d := ⟨_, rfl⟩
      have hd5 : d < 5 := by have := degN_le HO.out.nodup (fun b hb => (HO.out.ok b hb).2.2) (kx, ky); omega
      have hset := Lib.hid (legA_set l (K.take k) (kx, ky) hd5 hd)
      have hld := legA_get l (K.take k) hd5
      have hdl : legC l (K.take k) d ≤ 10000 := by
        have h3 : legC l (K.take k) d ≤ (K.take k).length := List.length_filter_le _ _
        simp at h3
        omega
      obtain ⟨cv, hcv⟩ : ∃ cv, legC l (K.take k) d = cv := ⟨_, rfl⟩
      rw [hcv] at hld hdl hset
      have hc := fun W q => rdegree_any l kx ky W (v := v) q HO.out.ok (by omega)
      rw [hd] at hc
      have HE : Hid (legA l (K.take k ++ [(kx, ky)]) = legA l (K.take (k + 1))) := by unfold Hid legA; simp only [hT.out]
      have hwr : IntKind.i64.wrap ((cv : Int) + 1) = (cv : Int) + 1 := IntWalk.i64_in _ (by omega)
      have hd5' : ((d : Int) < 5) = True := eq_true (by omega)
      have hd5n : ((d : Int).toNat) = d := by omega
      clear hd hcv hT
      go_wp2_with fail
      refine (hc _ (h.below (by (repeat (first | exact bl_refl | assumption | (apply bl_then; assumption) | refine bl_alloc ?_ _ | refine bl_drew ?_ | refine bl_drewN ?_ _))))).mono ?_
      rintro e w3 ⟨rfl, hb3⟩
      have hG3 := hGr.below hb3
      have hB3 := hBr.below hb3
      have hK3 := hKr.below hb3
      have hbw3 : Below w.heap.size w w3 := by (repeat (first | exact bl_refl | assumption | (apply bl_then; assumption) | refine bl_alloc ?_ _ | refine bl_drew ?_ | refine bl_drewN ?_ _))
      have hcell : w3.cell? ⟨w.heap.size + 1, d, none⟩ = some (.int .i64 (cv : Int)) := by rw [hG3.cell]; exact hld
      have hfr : w3.frozen? ⟨w.heap.size + 1, d, none⟩ = false := (hG3.facts).2.1 d
      have hgl : w.heap.size + 1 < w3.heap.size := hG3.lt
      clear hld hGr hBr hKr hb3 hbw e0 e1 hc hr
      have hG4 := hG3.set_ d (.int .i64 ((cv : Int) + 1))
      rw [hset.out, HE.out] at hG4
      have hK4 := hK3.set (p := ⟨w.heap.size + 1, d, none⟩) (fun e => by have := (hK3.lt _ e).1; simp at this) (.int .i64 ((cv : Int) + 1))
      go_wp2
      go_roundw
      case rel => exact ⟨k + 1, by omega, by go_num, hG4, hB3.far (by simp) _, hK4, bl_set hbw3 (by simp) _⟩
      case measure => simp [intOf]; omega
    · have HE : Hid (legA l (K.take k) = legA l (holeK l)) := by unfold Hid; rw [List.take_of_length_le (by omega), HK.out]
      rw [HE.out] at hGr
      have fG := hGr.facts
      unfold legA at fG
      have hld : ∀ i, wo.cell? ⟨w.heap.size + 1, i, none⟩ = (legA l (holeK l))[i]? := fun i => hGr.cell i
      unfold legA at hld
      go_wp2_with (refine wpList_store_blk hBr rfl _ _ _ rfl rfl rfl (by rfl) (by kernel_rfl) (by kernel_rfl) ?_; intro w4 hR4 hc4; have fR4 := hR4.facts)
      have hb4 : Below w.heap.size w w4 := ((Chg.of_below hbw).trans (hc4.mono (S' := [w.heap.size]) (by simp))).below (by simp) (Nat.le_refl _)
      refine bodyPost_ret (v := .agg #[.int .i64 (legC l (holeK l) 0 : Nat), .int .i64 (legC l (holeK l) 1 : Nat), .int .i64 (legC l (holeK l) 2 : Nat), .int .i64 (legC l (holeK l) 3 : Nat), .int .i64 (legC l (holeK l) 4 : Nat)]) (by simp [results, Tryz.results46, go_sem, fR4]) rfl ?_
      exact ⟨rfl, hb4⟩
/-- the bars of a mesh, as the reference lists them -/
def mbL (x y : Int) : List Bar := [(x, y - 1, -1), (x, y - 1, 1), (x - 1, y, 1), (x + 1, y, -1)]
def nearM (x y : Int) : Prop := (-1000000 ≤ x ∧ x ≤ 1000000) ∧ (-1000000 ≤ y ∧ y ≤ 1000000)
theorem rbars_any (x y : Int) (hn : nearM x y) (w : World) : Calls Tryz.prog 144 #[.agg #[.int .i64 x, .int .i64 y]] w (RB w (mbL x y)) := by
  have hB := Blk.new w 161 #[.int .i64 x, .int .i64 y]
  have fB := hB.facts
  unfold nearM at hn
  go_enter Tryz.func144, Tryz.ntmps144
  go_wp2
  go_ret
  have q := own_new (w.alloc (.cells #[.int .i64 x, .int .i64 y] 161)) (base := w.heap.size) (by simp) (mbL x y) (by simp [mbL]) _ rfl 4 rfl
  rw [World.size_alloc] at q
  exact ⟨_, rfl, q, by (repeat (first | exact bl_refl | assumption | (apply bl_then; assumption) | refine bl_alloc ?_ _ | refine bl_drew ?_ | refine bl_drewN ?_ _))⟩
/-- a net has all bars of a mesh -/
def hasM (l : List Bar) (x y : Int) : Bool := hasb l (x, y - 1, -1) && (hasb l (x, y - 1, 1) && (hasb l (x - 1, y, 1) && hasb l (x + 1, y, -1)))
def hasMF (l : List Bar) : List Bar → Bool
  | [] => true
  | b :: r => hasb l b && hasMF l r
theorem hasMF_drop {l r : List Bar} {k : Nat} (hk : k < r.length) : hasMF l (r.drop k) = (hasb l r[k] && hasMF l (r.drop (k + 1))) := by
  rw [List.drop_eq_getElem_cons hk]; rfl
theorem hasMF_mb (l : List Bar) (x y : Int) : hasMF l (mbL x y) = hasM l x y := by simp [mbL, hasMF, hasM]
theorem rhasMesh_any {v : Value} (l : List Bar) (x y : Int) (hn : nearM x y) (w : World) (h : SlB w v l) : Calls Tryz.prog 116 #[v, .agg #[.int .i64 x, .int .i64 y]] w (RV w (.bool (hasM l x y))) := by
  have hB := Blk.new w 161 #[.int .i64 x, .int .i64 y]
  have fB := hB.facts
  go_enter Tryz.func116, Tryz.ntmps116
  go_wp2_with fail
  refine (rbars_any x y hn _).mono ?_
  rintro e w1 ⟨v1, rfl, hO1, hb1⟩
  have hbw1 : Below w.heap.size w w1 := by (repeat (first | exact bl_refl | assumption | (apply bl_then; assumption) | refine bl_alloc ?_ _ | refine bl_drew ?_ | refine bl_drewN ?_ _))
  have hR1 := hO1.rd bc_len
  have HM := Lib.hid (hasMF_mb l x y)
  have hml : (mbL x y).length = 4 := rfl
  obtain ⟨M, hM⟩ : ∃ M, mbL x y = M := ⟨_, rfl⟩
  rw [hM] at hR1 HM hml
  obtain ⟨A1, c1, rfl, hlc1, hcm1, hr1⟩ := hR1
  rw [hml]
  have HL := Lib.hid hml
  clear hM hO1 fB hB hb1
  go_wp2
  go_loopw [6] (fun i wr => ∃ k : Nat, k ≤ 4 ∧ i = .int .i64 k ∧ Hid (hasMF l M = hasMF l (M.drop k)) ∧ Below w1.heap.size w1 wr) (fun i _ => 4 - (intOf i).toNat)
  case atStart => exact ⟨0, Nat.zero_le _, rfl, by simp [Hid], by (repeat (first | exact bl_refl | assumption | (apply bl_then; assumption) | refine bl_alloc ?_ _ | refine bl_drew ?_ | refine bl_drewN ?_ _))⟩
  case round =>
    obtain ⟨k, hk, rfl, H, hbw⟩ := hrel
    obtain ⟨wo, rfl⟩ : ∃ x, x = wr := ⟨_, rfl⟩
    have hbw0 := bl_then hbw hbw1
    by_cases hlt : k < 4
    · have hr := hr1.below hbw
      have hlt' : k < M.length := by have := HL.out; omega
      obtain ⟨b, off, rfl, hb, e0, e1, e2⟩ := hr.bar hlt'
      have HD := Lib.hid (hasMF_drop (l := l) hlt')
      obtain ⟨⟨bx, bY, bs⟩, hx⟩ : ∃ z, M[k] = z := ⟨_, rfl⟩
      rw [hx] at e0 e1 e2 HD
      simp only at e0 e1 e2
      obtain ⟨q, hq⟩ : ∃ q, hasb l (bx, bY, bs) = q := ⟨_, rfl⟩
      have hc := fun W z (p : SlB W z l) => has_any l bx bY bs W p
      rw [hq] at hc HD
      clear hx hq hml hlc1
      cases q
      · go_wp2_with fail
        refine (hc _ _ (h.below (by (repeat (first | exact bl_refl | assumption | (apply bl_then; assumption) | refine bl_alloc ?_ _ | refine bl_drew ?_ | refine bl_drewN ?_ _))))).mono ?_
        rintro e w3 ⟨rfl, hb3⟩
        go_wp2
        go_ret
        exact ⟨by rw [← HM.out, H.out, HD.out]; rfl, by (repeat (first | exact bl_refl | assumption | (apply bl_then; assumption) | refine bl_alloc ?_ _ | refine bl_drew ?_ | refine bl_drewN ?_ _))⟩
      · go_wp2_with fail
        refine (hc _ _ (h.below (by (repeat (first | exact bl_refl | assumption | (apply bl_then; assumption) | refine bl_alloc ?_ _ | refine bl_drew ?_ | refine bl_drewN ?_ _))))).mono ?_
        rintro e w3 ⟨rfl, hb3⟩
        go_wp2
        go_roundw
        case rel => exact ⟨k + 1, by omega, by go_num, by rw [Hid, H.out, HD.out]; rfl, by (repeat (first | exact bl_refl | assumption | (apply bl_then; assumption) | refine bl_alloc ?_ _ | refine bl_drew ?_ | refine bl_drewN ?_ _))⟩
        case measure => simp [intOf]; omega
    · have hkl : k = 4 := by omega
      subst hkl
      go_wp2
      go_ret
      exact ⟨by rw [← HM.out, H.out, List.drop_of_length_le (by have := HL.out; omega)]; rfl, by (repeat (first | exact bl_refl | assumption | (apply bl_then; assumption) | refine bl_alloc ?_ _ | refine bl_drew ?_ | refine bl_drewN ?_ _))⟩
theorem mesh_has {l : List Bar} {x y s : Int} (hb : (x, y, s) ∈ l) (hs : s = 1 ∨ s = -1) : isMesh l (x, y, s) = (decide (s < 0) && hasM l x (y + 1)) := by
  rcases hs with rfl | rfl
  · rfl
  · unfold isMesh hasM
    simp only
    rw [show y + 1 - 1 = y by omega, show hasb l (x, y, -1) = true by unfold hasb; exact decide_eq_true hb]
    simp [Bool.and_assoc]
def RMR (w : World) (l : List Knot) (e : Ending) (w' : World) : Prop := ∃ v, e = .returned v ∧ OwMR w.heap.size w' v l ∧ Below w.heap.size w w'
theorem rmeshes_any {v : Value} (l : List Bar) (w : World) (h : SlB w v l) (hk : ∀ b ∈ l, BarOk b) (hlen : l.length ≤ 10000) : Calls Tryz.prog 49 #[v] w (RMR w (meshL l l)) := by
  have hS := h
  obtain ⟨A, c, rfl, hlc, hcm, h⟩ := h
  have HK := Lib.hid hk
  clear hk
  go_enter Tryz.func49, Tryz.ntmps49
  go_wp2
  go_loopw [3, 4] (fun o i wr => ∃ k : Nat, k ≤ l.length ∧ i = .int .i64 k ∧ OwMR w.heap.size wr o (meshL l (l.take k)) ∧ Below w.heap.size w wr) (fun _ i _ => l.length - (intOf i).toNat)
  case atStart => exact ⟨0, Nat.zero_le _, rfl, Own.nil_, by (repeat (first | exact bl_refl | assumption | (apply bl_then; assumption) | refine bl_alloc ?_ _ | refine bl_drew ?_ | refine bl_drewN ?_ _))⟩
  case round =>
    obtain ⟨k, hk, rfl, hO, hbw⟩ := hrel
    obtain ⟨wo, rfl⟩ : ∃ x, x = wr := ⟨_, rfl⟩
    by_cases hlt : k < l.length
    · have hr := h.below hbw
      obtain ⟨b, off, rfl, hb, e0, e1, e2⟩ := hr.bar hlt
      have hbo := HK.out _ (List.getElem_mem hlt)
      have HD := Lib.hid (meshL_take (l := l) hlt)
      have hmem := List.getElem_mem hlt
      have hll := meshL_len l (l.take k)
      have htk : (l.take k).length ≤ 10000 := by simp; omega
      obtain ⟨⟨x, y, s⟩, hx⟩ : ∃ z, l[k] = z := ⟨_, rfl⟩
      rw [hx] at e0 e1 e2 hbo HD hmem
      simp only at e0 e1 e2 HD
      have HX := Lib.hid hx
      clear hx
      obtain ⟨q1, q2, q3⟩ := hbo
      simp only at q1 q2 q3
      have HI := Lib.hid (mesh_has hmem q3)
      have hn : nearM x (y + 1) := by unfold nearM; omega
      clear hmem
      obtain ⟨q, hq⟩ : ∃ q, hasM l x (y + 1) = q := ⟨_, rfl⟩
      have hc := fun W (p : SlB W (.slice (some ⟨b, off, none⟩) l.length c) l) => rhasMesh_any l x (y + 1) hn W p
      rw [hq] at hc HI
      clear hq
      have hN : Blk (wo.drew.alloc (.cells #[.int .i64 0, .int .i64 0] 161)) wo.heap.size 161 #[.int .i64 0, .int .i64 0] := Blk.new wo.drew 161 #[.int .i64 0, .int .i64 0]
      go_wp2
      refine wp_region_ords [0, 1, 2, 3, 4, 5, 6, 7, 8, 9, 10, 11] [(12, false)] [13] (by kernel_rfl) (by kernel_rfl) (fun d _ _ _ _ h => by cases d <;> exact h) ?_
      simp only [List.map_cons, List.map_nil, List.getD_cons_zero, List.getD_cons_succ]
      repeat (go_big_quiet_step (fail))
      refine wpQuiet_nil ?_
      refine wpMid_run rfl (fun K hK => ?_)
      go_simp
      refine hK _ _ (by (repeat (first | exact bl_refl | assumption | (apply bl_then; assumption) | refine bl_alloc ?_ _ | refine bl_drew ?_ | refine bl_drewN ?_ _))) ?_
      clear hK K
      refine wpMid_nil ?_
      refine wpList_store_blk hN rfl _ _ _ rfl rfl rfl (by rfl) (by kernel_rfl) (by kernel_rfl) fun w3 hN3 hc3 => ?_
      have hb3 : Below wo.heap.size wo w3 := ((Chg.of_below (by (repeat (first | exact bl_refl | assumption | (apply bl_then; assumption) | refine bl_alloc ?_ _ | refine bl_drew ?_ | refine bl_drewN ?_ _)) : Below wo.heap.size wo _)).trans (hc3.mono (S' := [wo.heap.size]) (by simp))).below (by intro k hk; simp at hk; subst hk; exact Nat.le_refl _) (Nat.le_refl _)
      have hO3 := hO.below hb3
      have hS3 := (hS.below hbw).below hb3
      have hbw3 := bl_then hb3 hbw
      have fN := hN3.facts
      clear hN hc3 hO hr e0 e1 e2
      obtain ⟨hbz, e0, e1, e2⟩ := (h.below hbw3).barAt hlt
      rw [HX.out] at e0 e1 e2
      simp only at e0 e1 e2
      rcases q3 with rfl | rfl
      · have HD2 : Hid (meshL l (l.take (k + 1)) = meshL l (l.take k)) := by unfold Hid; rw [HD.out, HI.out]; simp
        clear HD HI
        go_wp2
        go_roundw
        case rel => exact ⟨k + 1, by omega, by go_num, by rw [HD2.out]; exact hO3, by (repeat (first | exact bl_refl | assumption | (apply bl_then; assumption) | refine bl_alloc ?_ _ | refine bl_drew ?_ | refine bl_drewN ?_ _))⟩
        case measure => simp [intOf]; omega
      · cases q
        · have HD2 : Hid (meshL l (l.take (k + 1)) = meshL l (l.take k)) := by unfold Hid; rw [HD.out, HI.out]; simp
          clear HD HI
          go_wp2_with fail
          refine (hc _ hS3).mono ?_
          rintro e w4 ⟨rfl, hb4⟩
          replace hN3 := hN3.below (show Below _ _ w4 by (repeat (first | exact bl_refl | assumption | (apply bl_then; assumption) | refine bl_alloc ?_ _ | refine bl_drew ?_ | refine bl_drewN ?_ _)))
          replace fhN3 := hN3.facts
          have hO4 := hO3.below hb4
          go_wp2
          go_roundw
          case rel => exact ⟨k + 1, by omega, by go_num, by rw [HD2.out]; exact hO4, by (repeat (first | exact bl_refl | assumption | (apply bl_then; assumption) | refine bl_alloc ?_ _ | refine bl_drew ?_ | refine bl_drewN ?_ _))⟩
          case measure => simp [intOf]; omega
        · have HD2 : Hid (meshL l (l.take (k + 1)) = meshL l (l.take k) ++ [(x, y + 1)]) := by unfold Hid; rw [HD.out, HI.out]; rfl
          clear HD HI
          go_wp2_with fail
          refine (hc _ hS3).mono ?_
          rintro e w4 ⟨rfl, hb4⟩
          replace hN3 := hN3.below (show Below _ _ w4 by (repeat (first | exact bl_refl | assumption | (apply bl_then; assumption) | refine bl_alloc ?_ _ | refine bl_drew ?_ | refine bl_drewN ?_ _)))
          replace fhN3 := hN3.facts
          have hO4 := hO3.below hb4
          have hbw4 : Below w.heap.size w w4 := by (repeat (first | exact bl_refl | assumption | (apply bl_then; assumption) | refine bl_alloc ?_ _ | refine bl_drew ?_ | refine bl_drewN ?_ _))
          go_wp2_with (at_builtin; refine wpList_appMR hO4 rfl _ _ rfl rfl rfl (by simp) (by omega) hbw4.size ?_; intro v6 w6 hown6 hgr6)
          have hb6 := own_step hO4 hgr6 (by (repeat (first | exact bl_refl | assumption | (apply bl_then; assumption) | refine bl_alloc ?_ _ | refine bl_drew ?_ | refine bl_drewN ?_ _)))
          clear hgr6
          go_wp2
          go_roundw
          case rel => exact ⟨k + 1, by omega, by go_num, by rw [HD2.out]; exact hown6, hb6⟩
          case measure => simp [intOf]; omega
    · have HE : Hid (meshL l l = meshL l (l.take k)) := by unfold Hid; rw [List.take_of_length_le (by omega)]
      go_wp2
      go_ret
      exact ⟨_, rfl, by rw [HE.out]; exact hO, hbw⟩
theorem lmeshes_any {v : Value} (l : List Knot) (w : World) (h : SlK w v l) (hlen : l.length ≤ 100000) : Calls Tryz.prog 48 #[v] w (RMR w l) := by
  obtain ⟨A, c, rfl, hlc, hcm, h⟩ := h
  go_enter Tryz.func48, Tryz.ntmps48
  go_wp2
  go_loopw [3, 7] (fun o i wr => ∃ k : Nat, k ≤ l.length ∧ i = .int .i64 k ∧ OwMR w.heap.size wr o (l.take k) ∧ Below w.heap.size w wr) (fun _ i _ => l.length - (intOf i).toNat)
  case atStart => exact ⟨0, Nat.zero_le _, rfl, Own.nil_, by (repeat (first | exact bl_refl | assumption | (apply bl_then; assumption) | refine bl_alloc ?_ _ | refine bl_drew ?_ | refine bl_drewN ?_ _))⟩
  case round =>
    obtain ⟨k, hk, rfl, hO, hbw⟩ := hrel
    obtain ⟨wo, rfl⟩ : ∃ x, x = wr := ⟨_, rfl⟩
    by_cases hlt : k < l.length
    · have hr := h.below hbw
      obtain ⟨b, off, rfl, hb, e0, e1⟩ := hr.knot hlt
      have HD : Hid (l.take (k + 1) = l.take k ++ [l[k]]) := List.take_succ_eq_append_getElem hlt
      have htk : (l.take k).length ≤ 100000 := by simp; omega
      obtain ⟨⟨x, y⟩, hx⟩ : ∃ z, l[k] = z := ⟨_, rfl⟩
      rw [hx] at e0 e1 HD
      simp only at e0 e1
      clear hx
      go_wp2_with (at_builtin; refine wpList_appMR hO rfl _ _ rfl rfl rfl (by simp) (by omega) hbw.size ?_; intro v6 w6 hown6 hgr6)
      have hb6 := own_step hO hgr6 (by (repeat (first | exact bl_refl | assumption | (apply bl_then; assumption) | refine bl_alloc ?_ _ | refine bl_drew ?_ | refine bl_drewN ?_ _)))
      clear hgr6
      go_wp2
      go_roundw
      case rel => exact ⟨k + 1, by omega, by go_num, by rw [HD.out]; exact hown6, hb6⟩
      case measure => simp [intOf]; omega
    · have HE : Hid (l = l.take k) := by unfold Hid; rw [List.take_of_length_le (by omega)]
      go_wp2
      go_ret
      exact ⟨_, rfl, HE.out ▸ hO, hbw⟩
theorem eqin_mesh (d : Nat) (x y x' y' : Int) (w : World) : (Op.equalIn (d + 2) 161 (.agg #[.int .i64 x, .int .i64 y]) (.agg #[.int .i64 x', .int .i64 y'])).run Tryz.prog w = .ok (beqK x y x' y') w := by
  rw [run_equalIn_struct w (d + 1) 161 _ _ (by kernel_rfl) (by kernel_rfl)]
  unfold beqK
  by_cases h1 : x = x' <;> by_cases h2 : y = y' <;> simp [go_sem, h1, h2]
@[go_sem high] theorem neq_mesh (x y x' y' : Int) (w : World) : (binOp .neq 161 (.agg #[.int .i64 x, .int .i64 y]) (.agg #[.int .i64 x', .int .i64 y'])).run Tryz.prog w = .ok (.bool (!beqK x y x' y')) w := by
  simp only [binOp]
  simp [Op.equal, Op.maxDepth, eqin_mesh 9998]
theorem sameMeshes_any {v u : Value} (l r : List Knot) (w : World) (h : SlK w v l) (h' : SlK w u r) : Calls Tryz.prog 47 #[v, u] w (RV w (.bool (decide (l = r)))) := by
  obtain ⟨A, c, rfl, hlc, hcm, h⟩ := h
  obtain ⟨A', c', rfl, hlc', hcm', h'⟩ := h'
  have hl : l.length ≤ maxLen := Nat.le_trans hlc hcm
  have hl' : r.length ≤ maxLen := Nat.le_trans hlc' hcm'
  unfold maxLen at hl hl'
  by_cases hlen : l.length = r.length
  · have he2 : ((l.length : Int) != (r.length : Int)) = false := by simp [hlen]
    go_enter Tryz.func47, Tryz.ntmps47
    go_wp2
    go_loopw [13] (fun i wr => ∃ k : Nat, k ≤ l.length ∧ i = .int .i64 k ∧ Hid (decide (l = r) = decide (l.drop k = r.drop k)) ∧ Below w.heap.size w wr) (fun i _ => l.length - (intOf i).toNat)
    case atStart => exact ⟨0, Nat.zero_le _, rfl, by simp [Hid], by (repeat (first | exact bl_refl | assumption | (apply bl_then; assumption) | refine bl_alloc ?_ _ | refine bl_drew ?_ | refine bl_drewN ?_ _))⟩
    case round =>
      obtain ⟨k, hk, rfl, H, hbw⟩ := hrel
      by_cases hlt : k < l.length
      · have hr := h.below hbw
        have hr' := h'.below hbw
        obtain ⟨b, off, rfl, hb, e0, e1⟩ := hr.knot hlt
        obtain ⟨b', off', rfl, hb', e0', e1'⟩ := hr'.knot (hlen ▸ hlt)
        have HD := Lib.hid (same_drop hlen hlt)
        have hlt' : k < r.length := hlen ▸ hlt
        obtain ⟨g, hg⟩ : ∃ g, beqK l[k].1 l[k].2 r[k].1 r[k].2 = g := ⟨_, rfl⟩
        have hg' : decide (l[k] = r[k]) = g := hg
        cases g
        · go_wp2
          refine wp_region_ords [0, 1, 2, 3, 4, 5, 6, 7, 8] [] [] (by kernel_rfl) (by kernel_rfl) (fun d _ _ _ _ h => by cases d <;> exact h) ?_
          simp only [List.map_cons, List.map_nil, List.getD_cons_zero, List.getD_cons_succ]
          repeat (go_big_quiet_step (fail))
          refine wpQuiet_nil ?_
          refine wpMid_nil ?_
          go_wp2
          go_ret
          exact ⟨ret_bool (by rw [H.out, HD.out, hg']; rfl), by (repeat (first | exact bl_refl | assumption | (apply bl_then; assumption) | refine bl_alloc ?_ _ | refine bl_drew ?_ | refine bl_drewN ?_ _))⟩
        · go_wp2
          refine wp_region_ords [0, 1, 2, 3, 4, 5, 6, 7, 8] [] [] (by kernel_rfl) (by kernel_rfl) (fun d _ _ _ _ h => by cases d <;> exact h) ?_
          simp only [List.map_cons, List.map_nil, List.getD_cons_zero, List.getD_cons_succ]
          repeat (go_big_quiet_step (fail))
          refine wpQuiet_nil ?_
          refine wpMid_nil ?_
          go_wp2
          go_roundw
          case rel => exact ⟨k + 1, by omega, by go_num, by rw [H.out, HD.out, hg']; rfl, by (repeat (first | exact bl_refl | assumption | (apply bl_then; assumption) | refine bl_alloc ?_ _ | refine bl_drew ?_ | refine bl_drewN ?_ _))⟩
          case measure => simp [intOf]; omega
      · have hkl : k = l.length := by omega
        go_wp2
        go_ret
        refine ⟨ret_bool ?_, by (repeat (first | exact bl_refl | assumption | (apply bl_then; assumption) | refine bl_alloc ?_ _ | refine bl_drew ?_ | refine bl_drewN ?_ _))⟩
        rw [H.out, hkl, List.drop_length, hlen, List.drop_length]; rfl
  · have he2 : ((l.length : Int) != (r.length : Int)) = true := by simp; omega
    have hd : Hid (decide (l = r) = false) := by simp [Hid]; rintro rfl; exact hlen rfl
    go_enter Tryz.func47, Tryz.ntmps47
    go_wp2
    go_ret
    exact ⟨ret_bool hd.out.symm, by (repeat (first | exact bl_refl | assumption | (apply bl_then; assumption) | refine bl_alloc ?_ _ | refine bl_drew ?_ | refine bl_drewN ?_ _))⟩
end Go.Proofs.YtkmjcoofkgpanaaGreatDoor

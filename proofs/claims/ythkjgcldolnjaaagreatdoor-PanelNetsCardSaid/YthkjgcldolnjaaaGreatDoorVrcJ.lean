/- The reference's Rows, walked. Conditions: the panel is valid. -/
import Derived.Test.YthkjgcldolnjaaaGreatDoorH45
import Derived.Test.YthkjgcldolnjaaaGreatDoorNgJ
import Derived.Test.YthkjgcldolnjaaaGreatDoorH30
namespace Go.Proofs.YthkjgcldolnjaaaGreatDoor
open Go.RowKit Go.ChangeMaps
set_option maxHeartbeats 4000000
set_option maxRecDepth 100000

attribute [local go_sem] Oper.semAt_some
/-! # The reference's Rows -/
theorem prow_elem : Elem Tryz.prog 43 91 2 16 := ⟨by kernel_rfl, by kernel_rfl, by decide⟩
theorem rowM_snoc (f : Nat → Int × Int) (k : Nat) : (List.range (k + 1)).map f = (List.range k).map f ++ [f k] := by rw [List.range_succ, List.map_append]; rfl
theorem rrowsP_any {vL vR : Value} (p : Pan) (w : World) (hL : SlE w vL p.2.2.1) (hR : SlE w vR p.2.2.2) (hok : PanOk p) (hln : (netL p).length ≤ 4096) :
    Calls Tryz.prog 27 #[.agg #[sV p.1, .int .i64 p.2.1, vL, vR]] w (RG kc 2 91 w (rowsL p)) := by
  have cN := fun W (hb : Below w.heap.size w W) => rnetP_any p W (hL.below hb) (hR.below hb) hok
  have hnk := netE_ok (netL_netE hok hln)
  have cK := fun (v : Value) W h => rknots_any (v := v) (netL p) W h hnk.ok (by omega)
  have cH := fun W (hb : Below w.heap.size w W) => rheight_any (vR := vR) p W (hL.below hb) hok.left
  have hhr := hok.high
  have HR : Hid (rowsL p = (List.range ((heightP p).toNat + 1)).map fun y => rowQ (holeK (netL p)) (y : Nat)) := by
    unfold Hid rowsL
    exact rowC_congr fun z hz => (rows_ref hok z (by omega)).symm
  obtain ⟨H, hHe⟩ : ∃ n : Nat, heightP p = n := ⟨(heightP p).toNat, by omega⟩
  rw [hHe] at cH HR hhr
  rw [Int.toNat_natCast] at HR
  obtain ⟨K, hK⟩ : ∃ K, holeK (netL p) = K := ⟨_, rfl⟩
  rw [hK] at cK HR
  obtain ⟨N, hN⟩ : ∃ N, netL p = N := ⟨_, rfl⟩
  rw [hN] at cK cN
  obtain ⟨RR, hRR⟩ : ∃ R, rowsL p = R := ⟨_, rfl⟩
  rw [hRR] at HR ⊢
  obtain ⟨f, hf⟩ : ∃ f : Nat → Int × Int, (fun y : Nat => rowQ K (y : Nat)) = f := ⟨_, rfl⟩
  have HF : Hid (∀ y : Nat, f y = rowQ K (y : Nat)) := fun y => by rw [← hf]
  rw [hf] at HR
  clear hHe hK hN hRR hf hnk
  obtain ⟨AL, cL, rfl, _, _, _⟩ := hL
  obtain ⟨AR, cR, rfl, _, _, _⟩ := hR
  unfold sV at cN cH ⊢
  have hP := Blk.new w 24 #[.string ⟨p.1.toArray⟩, .int .i64 p.2.1, .slice AL p.2.2.1.length cL, .slice AR p.2.2.2.length cR]
  have fhP := hP.facts
  clear hok hln
  go_enter Tryz.func27, Tryz.ntmps27
  go_wp2_with fail
  refine (cN _ (by (repeat (first | exact bl_refl | assumption | (apply bl_then; assumption) | refine bl_alloc ?_ _ | refine bl_drew ?_ | refine bl_drewN ?_ _)))).mono ?_
  rintro e w2 ⟨v2, rfl, hO2, hb2⟩
  replace hP := hP.below (show Below _ _ w2 by (repeat (first | exact bl_refl | assumption | (apply bl_then; assumption) | refine bl_alloc ?_ _ | refine bl_drew ?_ | refine bl_drewN ?_ _)))
  replace fhP := hP.facts
  go_wp2_with fail
  refine (cK _ _ (hO2.rd bc_len)).mono ?_
  rintro e w3 ⟨v3, rfl, hO3, hb3⟩
  replace hP := hP.below (show Below _ _ w3 by (repeat (first | exact bl_refl | assumption | (apply bl_then; assumption) | refine bl_alloc ?_ _ | refine bl_drew ?_ | refine bl_drewN ?_ _)))
  replace fhP := hP.facts
  obtain ⟨A3, c3, rfl⟩ := hO3.shape
  obtain ⟨_, _, he3, hlc3, hcm3, hr3⟩ := hO3.rd kc_len
  obtain ⟨rfl, rfl⟩ : A3 = _ ∧ c3 = _ := by simpa using he3
  have hbw3 : Below w.heap.size w w3 := by (repeat (first | exact bl_refl | assumption | (apply bl_then; assumption) | refine bl_alloc ?_ _ | refine bl_drew ?_ | refine bl_drewN ?_ _))
  have hKl : K.length ≤ maxLen := Nat.le_trans hlc3 hcm3
  unfold maxLen at hKl
  clear hb2 hb3 he3 cN cK hO2 hO3 hlc3 hcm3
  go_wp2
  go_loopw [4, 5] (fun s4 s5 wr => ∃ k : Nat, k ≤ H + 1 ∧ s5 = .int .i64 k ∧ Own kc 2 w3.heap.size 91 wr s4 ((List.range k).map f) ∧ Below w3.heap.size w3 wr) (fun _ s _ => H + 1 - (intOf s).toNat)
  case atStart => exact ⟨0, Nat.zero_le _, rfl, by simpa using Own.nil_, bl_refl⟩
  case round =>
    obtain ⟨k, hk, rfl, hO, hbk⟩ := hrel
    obtain ⟨wo, rfl⟩ : ∃ x, x = wr := ⟨_, rfl⟩
    have hP4 := hP.below hbk
    have fP4 := hP4.facts
    clear fhP
    go_wp2_with fail
    refine (cH _ (bl_then hbk hbw3)).mono ?_
    rintro e w4 ⟨rfl, hb4⟩
    have hbk4 : Below w3.heap.size w3 w4 := bl_then hb4 hbk
    have hO4 := hO.below hb4
    by_cases hlt : k ≤ H
    · have HN := Lib.hid (rowM_snoc f k)
      have hfk := HF.out k
      rw [hfk] at HN
      obtain ⟨M, hM⟩ : ∃ M, (List.range k).map f = M := ⟨_, rfl⟩
      have hMl : M.length ≤ 257 := by rw [← hM]; simp; omega
      rw [hM] at hO4 HN
      clear hfk hM hO hP4 fP4 hbk hb4
      obtain ⟨Ao, co, rfl⟩ := hO4.shape
      have hB6 := Blk.new w4 91 #[.int .i64 999999999, .int .i64 (-999999999)]
      obtain ⟨x5, hx5⟩ : ∃ X, w4.alloc (.cells #[.int .i64 999999999, .int .i64 (-999999999)] 91) = X := ⟨_, rfl⟩
      have hb45 : Below w4.heap.size w4 x5 := by rw [← hx5]; exact bl_alloc bl_refl _
      rw [hx5] at hB6
      go_wp2
      clear hx5
      go_loopw [7] (fun s7 wr => ∃ j : Nat, j ≤ K.length ∧ s7 = .int .i64 j ∧ Blk wr w4.heap.size 91 #[.int .i64 (rowQ (K.take j) (k : Nat)).1, .int .i64 (rowQ (K.take j) (k : Nat)).2] ∧ Below w4.heap.size w4 wr) (fun s _ => K.length - (intOf s).toNat)
      case atStart => exact ⟨0, Nat.zero_le _, rfl, hB6, hb45⟩
      case round =>
        clear hB6 hb45
        obtain ⟨j, hj, rfl, hB, hbj⟩ := hrel
        obtain ⟨wi, rfl⟩ : ∃ x, x = wr := ⟨_, rfl⟩
        have hb3j : Below w3.heap.size w3 wi := bl_then hbj hbk4
        by_cases hlj : j < K.length
        · obtain ⟨b, off, rfl, hb, e0, e1⟩ := (hr3.below hb3j).knot hlj
          have HA := Lib.hid (rowQ_snoc hlj (k : Nat))
          obtain ⟨⟨X, Y⟩, hX⟩ : ∃ z, K[j] = z := ⟨_, rfl⟩
          rw [hX] at e0 e1 HA
          simp only at e0 e1 HA
          obtain ⟨⟨m, M2⟩, hmM⟩ : ∃ z, rowQ (K.take j) (k : Nat) = z := ⟨_, rfl⟩
          rw [hmM] at hB HA
          simp only at hB
          have fB := hB.facts
          clear hX hmM
          by_cases hy : Y = (k : Int)
          · have HA2 : Hid (rowQ (K.take (j + 1)) (k : Nat) = (min m X, max M2 X)) := by unfold Hid; rw [HA.out, if_pos hy]; rfl
            have ty : (Y == (k : Int)) = true := by rw [hy]; exact beq_self_eq_true _
            clear hy HA
            go_upto_region 11 with fail
            refine wp_region_ords [0, 1, 2, 3, 4, 5, 6, 7, 8, 9, 10, 11, 12, 13, 14, 15, 16] [] [17] (by kernel_rfl) (by kernel_rfl) (fun d _ _ _ _ h => by cases d <;> exact h) ?_
            simp only [List.map_cons, List.map_nil, List.getD_cons_zero, List.getD_cons_succ]
            repeat (go_big_quiet_step (fail))
            refine wpQuiet_nil ?_
            refine wpMid_nil ?_
            have hBd := hB.drew
            go_wp2_with (refine wpList_store_blk hBd rfl _ _ _ rfl rfl rfl (by rfl) (by kernel_rfl) (by kernel_rfl) ?_; intro w7 hB7 hc7)
            have hb7 : Below w4.heap.size w4 w7 := chg_bl (bl_drew hbj) hc7 (Nat.le_refl _)
            go_roundw
            case rel => exact ⟨j + 1, by omega, by go_num, by rw [HA2.out]; exact hB7, hb7⟩
            case measure => simp [intOf]; omega
          · have HA2 : Hid (rowQ (K.take (j + 1)) (k : Nat) = (m, M2)) := by unfold Hid; rw [HA.out, if_neg hy]
            have ty : (Y == (k : Int)) = false := beq_false_of_ne hy
            clear hy HA
            go_wp2
            go_roundw
            case rel => exact ⟨j + 1, by omega, by go_num, by rw [HA2.out]; exact hB, hbj⟩
            case measure => simp [intOf]; omega
        · obtain rfl : j = K.length := by omega
          rw [List.take_length] at hB
          obtain ⟨⟨m, M2⟩, hmM⟩ : ∃ z, rowQ K (k : Nat) = z := ⟨_, rfl⟩
          rw [hmM] at hB HN
          simp only at hB
          have fB := hB.facts
          clear hmM
          have hO5 := hO4.below hbj
          have hu := Sl.oneG (enc := kc) (sz := 2) wi 91 (m, M2) #[.int .i64 m, .int .i64 M2] rfl
          have hOa := hO5.alloc (.cells #[.int .i64 m, .int .i64 M2] 91)
          have hba : Below w3.heap.size w3 (wi.alloc (.cells #[.int .i64 m, .int .i64 M2] 91)) := bl_alloc hb3j _
          have hz := hba.size
          go_wp2_with (at_builtin; refine wpList_app rfl prow_elem kc_len kc_one _ _ rfl w3.heap.size _ _ _ [(m, M2)] rfl rfl hOa hu (by simp [maxLen]; omega) (by simp; omega) (by omega) ?_; intro v9 w9 hu9 hgr9)
          have hb9 : Below w3.heap.size w3 w9 := bl_grown hgr9 hba (fun j e => (hOa.lt j e).1)
          go_wp2
          go_roundw
          case rel => exact ⟨k + 1, by omega, by go_num, by rw [HN.out]; exact hu9, hb9⟩
          case measure => simp [intOf]; omega
    · obtain rfl : k = H + 1 := by omega
      rw [← HR.out] at hO4
      go_wp2
      go_ret
      exact ⟨_, rfl, hO4.base_mono (by have := hbw3.size; omega), bl_then hb4 (bl_then hbk hbw3)⟩
end Go.Proofs.YthkjgcldolnjaaaGreatDoor

/- The reference's Around and Rest, walked. Conditions: the panel is valid. -/
import Derived.Test.YthkjgcldolnjaaaGreatDoorH45
import Derived.Test.YthkjgcldolnjaaaGreatDoorH37
import Derived.Test.YthkjgcldolnjaaaGreatDoorH07
import Derived.Test.YthkjgcldolnjaaaGreatDoorH21
namespace Go.Proofs.YthkjgcldolnjaaaGreatDoor
open Go.RowKit Go.ChangeMaps
set_option maxHeartbeats 4000000
set_option maxRecDepth 100000

attribute [local go_sem] Oper.semAt_some
/-! # The reference's Around and Rest -/
theorem raroundP_any {vL vR : Value} (p : Pan) (w : World) (hL : SlE w vL p.2.2.1) (hR : SlE w vR p.2.2.2) (hok : PanOk p) :
    Calls Tryz.prog 30 #[.agg #[sV p.1, .int .i64 p.2.1, vL, vR]] w (RV w (.agg (frmA p))) := by
  have hw0 : 0 ≤ p.2.1 ∧ p.2.1 ≤ 128 := ⟨by have := hok.wid.1; omega, hok.wid.2⟩
  have o1 := fun W (hb : Below w.heap.size w W) => routline_any p false W (hL.below hb) (hR.below hb) hok.left hok.right hw0
  have o2 := fun W (hb : Below w.heap.size w W) => routline_any p true W (hL.below hb) (hR.below hb) hok.left hok.right hw0
  have cH := fun W (hb : Below w.heap.size w W) => rheight_any (vR := vR) p W (hL.below hb) hok.left
  have l1 := out_len p false (hok.side false)
  have l2 := out_len p true (hok.side true)
  have hfr := frm_at hok
  have hbx := lmP_box hok.box
  have hwd := lmP_wide hok
  have HF : Hid (frmA p = #[.int .i64 (frmX p), .int .i64 0, .int .i64 (frmC p), .int .i64 (heightP p)]) := rfl
  have HLM : Hid (lmF (outP p false ++ outP p true) noneR = lmP p) := lmP_none
  obtain ⟨F, hF⟩ : ∃ F, frmA p = F := ⟨_, rfl⟩
  rw [hF] at HF ⊢
  obtain ⟨X, hX⟩ : ∃ F, frmX p = F := ⟨_, rfl⟩
  rw [hX] at hfr HF
  obtain ⟨C, hC⟩ : ∃ F : Nat, frmC p = F := ⟨(frmC p).toNat, by omega⟩
  rw [hC] at hfr HF
  obtain ⟨H, hH⟩ : ∃ F, heightP p = F := ⟨_, rfl⟩
  rw [hH] at HF cH
  obtain ⟨O1, hO1⟩ : ∃ O, outP p false = O := ⟨_, rfl⟩
  obtain ⟨O2, hO2⟩ : ∃ O, outP p true = O := ⟨_, rfl⟩
  rw [hO1] at o1 l1 HLM
  rw [hO2] at o2 l2 HLM
  obtain ⟨⟨m, M⟩, hmM⟩ : ∃ z, lmP p = z := ⟨_, rfl⟩
  rw [hmM] at hfr hbx hwd HLM
  simp only at hfr hbx hwd
  obtain ⟨AL, cL, rfl, _, _, _⟩ := hL
  obtain ⟨AR, cR, rfl, _, _, _⟩ := hR
  unfold sV at o1 o2 cH ⊢
  have hP := (Blk.new w 24 #[.string ⟨p.1.toArray⟩, .int .i64 p.2.1, .slice AL p.2.2.1.length cL, .slice AR p.2.2.2.length cR]).alloc (.cells #[.int .i64 0, .int .i64 0, .int .i64 0, .int .i64 0] 57)
  have hZ := Blk.new1 w (.cells #[.string ⟨p.1.toArray⟩, .int .i64 p.2.1, .slice AL p.2.2.1.length cL, .slice AR p.2.2.2.length cR] 24) 57 #[.int .i64 0, .int .i64 0, .int .i64 0, .int .i64 0]
  have fP := hP.facts
  have fZ := hZ.facts
  clear hok hw0 hF hX hC hH hO1 hO2 hmM
  go_enter Tryz.func30, Tryz.ntmps30
  go_upto_region 2 with fail
  refine wp_region_ords [0, 2] [(1, false)] [3, 4, 5] (by kernel_rfl) (by kernel_rfl) (fun d _ _ _ _ h => by cases d <;> exact h) ?_
  simp only [List.map_cons, List.map_nil, List.getD_cons_zero, List.getD_cons_succ]
  repeat (go_big_quiet_step (fail))
  refine wpQuiet_nil ?_
  refine wpMid_run rfl (fun K hK => ?_)
  go_simp
  refine (o1 _ (by (repeat (first | exact bl_refl | assumption | (apply bl_then; assumption) | refine bl_alloc ?_ _ | refine bl_drew ?_ | refine bl_drewN ?_ _)))).mono ?_
  rintro e w2 ⟨v2, rfl, hQ1, hb2⟩
  refine hK _ _ (by (repeat (first | exact bl_refl | assumption | (apply bl_then; assumption) | refine bl_alloc ?_ _ | refine bl_drew ?_ | refine bl_drewN ?_ _))) ?_
  clear hK K
  have hP_w2 := hP.below (show Below _ _ w2 by (repeat (first | exact bl_refl | assumption | (apply bl_then; assumption) | refine bl_alloc ?_ _ | refine bl_drew ?_ | refine bl_drewN ?_ _)))
  have fhP_w2 := hP_w2.facts
  have hZ_w2 := hZ.below (show Below _ _ w2 by (repeat (first | exact bl_refl | assumption | (apply bl_then; assumption) | refine bl_alloc ?_ _ | refine bl_drew ?_ | refine bl_drewN ?_ _)))
  have fhZ_w2 := hZ_w2.facts
  refine wpMid_nil ?_
  go_wp2_with fail
  refine (o2 _ (by (repeat (first | exact bl_refl | assumption | (apply bl_then; assumption) | refine bl_alloc ?_ _ | refine bl_drew ?_ | refine bl_drewN ?_ _)))).mono ?_
  rintro e w3 ⟨v3, rfl, hQ2, hb3⟩
  have hbw3 : Below w.heap.size w w3 := by (repeat (first | exact bl_refl | assumption | (apply bl_then; assumption) | refine bl_alloc ?_ _ | refine bl_drew ?_ | refine bl_drewN ?_ _))
  have hQ1' := hQ1.below hb3
  have s2 := hQ2.rd kc_len
  have hP3 := hP_w2.below hb3
  have hZ3 := hZ_w2.below hb3
  have hbz := hbw3.size
  have hb2z : Below w.heap.size w w2 := by (repeat (first | exact bl_refl | assumption | (apply bl_then; assumption) | refine bl_alloc ?_ _ | refine bl_drew ?_ | refine bl_drewN ?_ _))
  have hq1 : OwK w.heap.size w3 _ O1 := hQ1'.base_mono (by simp <;> omega)
  clear hQ1 hQ2 hQ1' hP hZ fP fZ hb2 hb3 hP_w2 hZ_w2 fhP_w2 fhZ_w2 o1 o2
  go_wp2_with (at_builtin; refine wpList_appKS hq1 s2 rfl _ _ rfl rfl rfl (by omega) hbz ?_; intro v4 w4 hQ4 hg4)
  have hb4 : Below w.heap.size w w4 := bl_grown hg4 hbw3 (fun k e => (hq1.lt k e).1)
  have hP4 := hP3.grown hg4 (hq1.ne_blk hP3 (by decide))
  have hZ4 := hZ3.grown hg4 (hq1.ne_blk hZ3 (by decide))
  obtain ⟨A4, c4, rfl⟩ := hQ4.shape
  obtain ⟨_, _, he4, hlc4, hcm4, hr4⟩ := hQ4.rd kc_len
  obtain ⟨rfl, rfl⟩ : A4 = _ ∧ c4 = _ := by simpa using he4
  obtain ⟨Z, hZZ⟩ : ∃ Z, O1 ++ O2 = Z := ⟨_, rfl⟩
  have hZl : Z.length ≤ 100000 := by rw [← hZZ, List.length_append]; omega
  rw [hZZ] at hr4 HLM ⊢
  clear hZZ he4 hlc4 hcm4 hQ4 hg4 hq1 hP3 hZ3 hbw3 hbz s2 hb2z l1 l2
  go_wp2
  go_loopw [3, 4, 6] (fun s3 s4 s6 wr => ∃ (k : Nat) (x y : Int), k ≤ Z.length ∧ s6 = .int .i64 k ∧ s3 = .int .i64 x ∧ s4 = .int .i64 y ∧ Hid (lmF (Z.take k) noneR = (x, y)) ∧ Below w4.heap.size w4 wr) (fun _ _ i _ => Z.length - (intOf i).toNat)
  case atStart => exact ⟨0, 999999999, -999999999, Nat.zero_le _, rfl, rfl, rfl, rfl, bl_refl⟩
  case round =>
    obtain ⟨k, x, y, hk, rfl, rfl, rfl, HK, hbk⟩ := hrel
    obtain ⟨wo, rfl⟩ : ∃ x, x = wr := ⟨_, rfl⟩
    by_cases hlt : k < Z.length
    · obtain ⟨b, off, rfl, hb, e0, e1⟩ := (hr4.below hbk).knot hlt
      have HA := Lib.hid (lmF_snoc hlt noneR)
      obtain ⟨⟨a, b2⟩, hX⟩ : ∃ z, Z[k] = z := ⟨_, rfl⟩
      rw [hX] at e0 e1 HA
      simp only at e0 e1
      have HN : Hid (lmF (Z.take (k + 1)) noneR = (min x a, max y a)) := by unfold Hid; rw [HA.out, HK.out]; rfl
      clear hX HA
      go_upto_region 6 with fail
      refine wp_region_ords [0, 1, 2, 3, 4, 5, 6, 7, 8, 9, 10, 11, 12, 13, 14, 15] [] [] (by kernel_rfl) (by kernel_rfl) (fun d _ _ _ _ h => by cases d <;> exact h) ?_
      simp only [List.map_cons, List.map_nil, List.getD_cons_zero, List.getD_cons_succ]
      repeat (go_big_quiet_step (fail))
      refine wpQuiet_nil ?_
      refine wpMid_nil ?_
      go_wp2
      go_roundw
      case rel => exact ⟨k + 1, _, _, by omega, by go_num, rfl, rfl, HN.out, by (repeat (first | exact bl_refl | assumption | (apply bl_then; assumption) | refine bl_alloc ?_ _ | refine bl_drew ?_ | refine bl_drewN ?_ _))⟩
      case measure => simp [intOf]; omega
    · obtain rfl : k = Z.length := by omega
      have hxy : x = m ∧ y = M := by
        have := HK.out
        rw [List.take_length, HLM.out] at this
        exact ⟨(congrArg Prod.fst this).symm, (congrArg Prod.snd this).symm⟩
      obtain ⟨rfl, rfl⟩ := hxy
      clear HK HLM
      go_wp2
      go_loopw [3] (fun s3 wr => ∃ z : Int, s3 = .int .i64 z ∧ (z = x ∨ (z = x - 1 ∧ x % 2 ≠ 0)) ∧ Below wo.heap.size wo wr) (fun s3 _ => (intOf s3 % 2).toNat)
      case atStart => exact ⟨_, rfl, .inl rfl, bl_refl⟩
      case round =>
        obtain ⟨z, rfl, hz, hbz⟩ := hrel
        obtain ⟨wp, rfl⟩ : ∃ x, x = wr := ⟨_, rfl⟩
        by_cases he : z % 2 = 0
        · have tz : (z.tmod 2 != 0) = false := by rw [bne_eq_false_iff_eq]; exact tmod2.2 he
          obtain rfl : z = X := by omega
          clear he hz
          go_wp2
          go_loopw [7] (fun s7 wr => ∃ c : Nat, 1 ≤ c ∧ c ≤ C ∧ s7 = .int .i64 c ∧ Below wp.heap.size wp wr) (fun s7 _ => C - (intOf s7).toNat)
          case atStart => exact ⟨1, by omega, by omega, rfl, bl_refl⟩
          case round =>
            obtain ⟨c, hc1, hc2, rfl, hbc⟩ := hrel
            obtain ⟨wq, rfl⟩ : ∃ x, x = wr := ⟨_, rfl⟩
            by_cases hcC : c < C
            · have tc : (z + 2 * (c : Int) < y) = True := eq_true (by omega)
              go_wp2
              go_roundw
              case rel => exact ⟨c + 1, by omega, by omega, by go_num, hbc⟩
              case measure => simp [intOf]; omega
            · obtain rfl : c = C := by omega
              have tc : (z + 2 * (c : Int) < y) = False := eq_false (by omega)
              have hb4q : Below w4.heap.size w4 wq := bl_then hbc (bl_then hbz hbk)
              have hPq := hP4.below hb4q
              have hZq := hZ4.below hb4q
              have fPq := hPq.facts
              have hbwq : Below w.heap.size w wq := bl_then hb4q hb4
              go_wp2_with fail
              refine (cH _ hbwq).mono ?_
              rintro e w8 ⟨rfl, hb8⟩
              have hZ8 := hZq.below hb8
              go_wp2_with (refine wpList_store_blk hZ8 rfl _ _ _ rfl rfl rfl (by rfl) (by kernel_rfl) (by kernel_rfl) ?_; intro w9 hZ9 hc9; have fZ9 := hZ9.facts)
              refine bodyPost_ret (v := .agg #[.int .i64 z, .int .i64 0, .int .i64 c, .int .i64 H]) (by simp [results, Tryz.results30, go_sem, fZ9]) rfl ?_
              exact ⟨by rw [HF.out], chg_bl (bl_then hb8 hbwq) hc9 (Nat.le_succ _)⟩
        · have tz : (z.tmod 2 != 0) = true := by rw [bne_iff_ne]; exact fun h => he (tmod2.1 h)
          obtain rfl : z = x := by omega
          go_wp2
          go_roundw
          case rel => exact ⟨z - 1, rfl, .inr ⟨rfl, he⟩, hbz⟩
          case measure => simp [intOf]; omega
theorem rrestP_any {vL vR : Value} (p : Pan) (w : World) (hL : SlE w vL p.2.2.1) (hR : SlE w vR p.2.2.2) (hok : PanOk p) (hc : frmC p ≤ 256) (hl0 : 2 * frmC p * heightP p ≤ 4096) :
    Calls Tryz.prog 31 #[.agg #[sV p.1, .int .i64 p.2.1, vL, vR]] w (RB w (wout (shN (frmX p) 0 (frmC p).toNat (heightP p).toNat) (netL p))) := by
  have cA := fun W (hb : Below w.heap.size w W) => raroundP_any p W (hL.below hb) (hR.below hb) hok
  have cN := fun W (hb : Below w.heap.size w W) => rnetP_any p W (hL.below hb) (hR.below hb) hok
  have hf := hok.frame
  have hh := hok.high
  have hev := (frm_at hok).1
  have HF : frmA p = #[.int .i64 (frmX p), .int .i64 0, .int .i64 (frmC p), .int .i64 (heightP p)] := rfl
  rw [HF] at cA
  obtain ⟨X, hX⟩ : ∃ F, frmX p = F := ⟨_, rfl⟩
  obtain ⟨C, hC⟩ : ∃ F : Nat, frmC p = F := ⟨(frmC p).toNat, by omega⟩
  obtain ⟨H, hH⟩ : ∃ F : Nat, heightP p = F := ⟨(heightP p).toNat, by omega⟩
  rw [hX, hC] at hf
  rw [hX] at hev
  rw [hH] at hh
  rw [hC] at hc hl0
  rw [hH] at hl0
  have hl : 2 * C * H ≤ 100000 := by
    have : 2 * C * H ≤ 4096 := by exact_mod_cast hl0
    omega
  rw [hX, hC, hH] at cA ⊢
  rw [Int.toNat_natCast, Int.toNat_natCast]
  have cSh := fun W => rsheet_any X 0 C H (by omega) (by omega) (by omega) (by omega) W
  rw [rsN_eq C (by omega) H] at cSh
  obtain ⟨N, hN⟩ : ∃ N, netL p = N := ⟨_, rfl⟩
  rw [hN] at cN ⊢
  have hlen : (shN X 0 C H).length ≤ 100000 := by
    rw [sheet_len X 0 (by omega) H]
    exact hl
  obtain ⟨S, hS⟩ : ∃ N, shN X 0 C H = N := ⟨_, rfl⟩
  rw [hS] at cSh hlen ⊢
  have cM := fun (v u : Value) W h h' => rminus_any (v := v) (u := u) S N W h h' (by omega)
  obtain ⟨AL, cL, rfl, _, _, _⟩ := hL
  obtain ⟨AR, cR, rfl, _, _, _⟩ := hR
  unfold sV at cA cN ⊢
  have hP := Blk.new w 24 #[.string ⟨p.1.toArray⟩, .int .i64 p.2.1, .slice AL p.2.2.1.length cL, .slice AR p.2.2.2.length cR]
  have fP := hP.facts
  clear hok hX hC hH hN hS HF
  go_enter Tryz.func31, Tryz.ntmps31
  go_wp2_with fail
  refine (cA _ (by (repeat (first | exact bl_refl | assumption | (apply bl_then; assumption) | refine bl_alloc ?_ _ | refine bl_drew ?_ | refine bl_drewN ?_ _)))).mono ?_
  rintro e w2 ⟨rfl, hb2⟩
  replace hP := hP.below (show Below _ _ w2 by (repeat (first | exact bl_refl | assumption | (apply bl_then; assumption) | refine bl_alloc ?_ _ | refine bl_drew ?_ | refine bl_drewN ?_ _)))
  replace fhP := hP.facts
  have hB2 := Blk.new w2 57 #[.int .i64 X, .int .i64 0, .int .i64 C, .int .i64 H]
  have fB2 := hB2.facts
  go_upto_region 2 with fail
  refine wp_region_ords [0, 1, 2, 3, 4, 5, 7] [(6, false)] [8, 9, 10] (by kernel_rfl) (by kernel_rfl) (fun d _ _ _ _ h => by cases d <;> exact h) ?_
  simp only [List.map_cons, List.map_nil, List.getD_cons_zero, List.getD_cons_succ]
  repeat (go_big_quiet_step (fail))
  refine wpQuiet_nil ?_
  refine wpMid_run rfl (fun K hK => ?_)
  go_simp
  refine (cSh _).mono ?_
  rintro e w3 ⟨v3, rfl, hO3, hb3⟩
  refine hK _ _ (by (repeat (first | exact bl_refl | assumption | (apply bl_then; assumption) | refine bl_alloc ?_ _ | refine bl_drew ?_ | refine bl_drewN ?_ _))) ?_
  clear hK K
  have hP_w3 := hP.below (show Below _ _ w3 by (repeat (first | exact bl_refl | assumption | (apply bl_then; assumption) | refine bl_alloc ?_ _ | refine bl_drew ?_ | refine bl_drewN ?_ _)))
  have fhP_w3 := hP_w3.facts
  refine wpMid_nil ?_
  go_wp2_with (go_at_call 25; refine (cN _ (by (repeat (first | exact bl_refl | assumption | (apply bl_then; assumption) | refine bl_alloc ?_ _ | refine bl_drew ?_ | refine bl_drewN ?_ _)))).mono ?_; rintro e w4 ⟨v4, rfl, hO4, hb4⟩)
  go_must (refine (cM _ _ _ ((hO3.rd bc_len).below hb4) (hO4.rd bc_len)).mono ?_)
  rintro e w5 ⟨v5, rfl, hO5, hb5⟩
  go_wp2
  go_ret
  exact ⟨_, rfl, hO5.base_mono (Below.size (by (repeat (first | exact bl_refl | assumption | (apply bl_then; assumption) | refine bl_alloc ?_ _ | refine bl_drew ?_ | refine bl_drewN ?_ _)))), by (repeat (first | exact bl_refl | assumption | (apply bl_then; assumption) | refine bl_alloc ?_ _ | refine bl_drew ?_ | refine bl_drewN ?_ _))⟩
end Go.Proofs.YthkjgcldolnjaaaGreatDoor

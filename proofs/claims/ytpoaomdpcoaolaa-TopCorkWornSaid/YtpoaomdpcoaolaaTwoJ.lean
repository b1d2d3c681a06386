/- TopCorkWorn: the law, walked. Conditions: none. -/
import Derived.Test.YtpoaomdpcoaolaaC19
import Derived.Test.YtpoaomdpcoaolaaTcnJ
import Derived.Test.YtpoaomdpcoaolaaTreJ
import Derived.Test.YtpoaomdpcoaolaaNdrJ
import Derived.Deep.CutRange
namespace Go.Proofs.Ytpoaomdpcoaolaa
open Go.RowKit Go.ChangeMaps
set_option maxHeartbeats 4000000
set_option maxRecDepth 100000

attribute [local go_sem] Oper.semAt_some
theorem topCorkWorn_any (x y s0 s1 m : Int) (w : World) (h0 : 0 ≤ s0 ∧ s0 ≤ 255) (h1 : 0 ≤ s1 ∧ s1 ≤ 255) (hm : 0 ≤ m ∧ m ≤ 65535) : Calls Try.prog 4 #[.agg #[.int .i64 x, .int .i64 y], .agg #[.int .u8 s0, .int .u8 s1], .int .u16 m] w (RV w (.bool true)) := by
  have hK := (Blk.new w 30 #[.int .i64 x, .int .i64 y]).alloc (.cells #[.int .u8 s0, .int .u8 s1] 41)
  have hZ := Blk.new1 w (.cells #[.int .i64 x, .int .i64 y] 30) 41 #[.int .u8 s0, .int .u8 s1]
  have fhK := hK.facts
  have fhZ := hZ.facts
  obtain ⟨c, hc, hc3⟩ : ∃ c : Nat, 1 + s0 % 3 = (c : Int) ∧ 1 ≤ c ∧ c ≤ 3 := ⟨(1 + s0 % 3).toNat, by omega, by omega, by omega⟩
  obtain ⟨r, hr, hr4⟩ : ∃ r : Nat, 1 + s1 % 4 = (r : Int) ∧ 1 ≤ r ∧ r ≤ 4 := ⟨(1 + s1 % 4).toNat, by omega, by omega, by omega⟩
  have gs := fun W => rchecksheet_any x y c r W
  go_enter Try.func4, Try.ntmps4
  go_wp2
  refine wp_region_ords [0, 1, 2, 3, 4, 5, 6, 7, 8, 9, 10, 11] [] [] (by kernel_rfl) (by kernel_rfl) (fun d _ _ _ _ h => by cases d <;> exact h) ?_
  simp only [List.map_cons, List.map_nil, List.getD_cons_zero, List.getD_cons_succ]
  repeat (go_big_quiet_step (fail))
  refine wpQuiet_nil ?_
  refine wpMid_nil ?_
  go_upto_region 2 with fail
  clear hc hr h0 h1 fhK fhZ hZ
  obtain ⟨w0, hw0⟩ : ∃ X, ((w.alloc (.cells #[.int .i64 x, .int .i64 y] 30)).alloc (.cells #[.int .u8 s0, .int .u8 s1] 41)).drew = X := ⟨_, rfl⟩
  have hb0 : Below w.heap.size w w0 := by rw [← hw0]; exact bl_drew (bl_alloc (bl_alloc bl_refl _) _)
  have hK0 : Blk w0 w.heap.size 30 #[.int .i64 x, .int .i64 y] := by rw [← hw0]; exact hK.drew
  rw [hw0]
  clear hw0 hK
  have fhK0 := hK0.facts
  by_cases hE : sheetE x y c r = 0
  rotate_left
  · have t1 : (sheetE x y c r != 0) = true := by simp [hE]
    clear hE
    go_wp2_with fail
    refine (gs _).mono ?_
    rintro e w1 ⟨rfl, hb1⟩
    go_wp2_with fail
    refine (corkMesh_any _).mono ?_
    rintro e w2 ⟨rfl, hb2⟩
    go_wp2
    go_ret
    exact ⟨rfl, by (repeat (first | exact bl_refl | assumption | (apply bl_then; assumption) | refine bl_alloc ?_ _ | refine bl_drew ?_ | refine bl_drewN ?_ _))⟩
  rw [hE] at gs
  have T0 : SheetIn x y c r := sheet_in hE (by omega) (by omega)
  have sh1 := fun W => aSheet T0 W
  have hne := T0.net
  have nS := fun W z (q : SlB W z (shN x y c r)) => rnet_sl (shN x y c r) W q
  rw [hne] at nS
  have hl1 : ((shN x y c r).length : Int) = 2 * (c : Int) * (r : Int) := by rw [sheet_len _ _ hc3.1]; simp
  have hcr : c * r ≤ 12 := Nat.mul_le_mul hc3.2 hr4.2
  have hc1 : 1 ≤ c * r := Nat.mul_le_mul hc3.1 hr4.1
  obtain ⟨p, hp⟩ : ∃ p : Nat, 2 * (c : Int) * (r : Int) = (p : Int) := ⟨2 * c * r, by simp⟩
  have hpb : 2 ≤ p ∧ p ≤ 24 := by
    have : ((2 * c * r : Nat) : Int) = p := by rw [← hp]; simp
    rw [Nat.mul_assoc] at this
    omega
  rw [hp] at hl1
  have mw : IntKind.i64.wrap (2 * (c : Int) * (r : Int)) = (p : Int) := by rw [hp]; exact IntWalk.i64_in _ (by omega)
  obtain ⟨S, hS⟩ : ∃ S, shN x y c r = S := ⟨_, rfl⟩
  rw [hS] at sh1 nS hl1 hne
  have hSl : S.length = p := by omega
  have ho := order_draw S (1 + m)
  rw [hSl] at ho
  have dr := fun W => rdraw_any (1 + m) p (by omega) (by omega) W
  obtain ⟨O, hO⟩ : ∃ O, drawL (1 + m) p = O := ⟨_, rfl⟩
  rw [hO] at ho dr
  have hOl : O.length = p := by rw [ho.len, hSl]
  have HSL := Lib.hid hSl
  have HOL := Lib.hid hOl
  have HNE := Lib.hid hne
  have HOK := Lib.hid ho
  have lS : S.length ≤ 100000 := by omega
  clear hE T0 hne hl1 hcr hc1 hp hS hSl ho hO hOl
  go_wp2_with fail
  refine (gs _).mono ?_
  rintro e w1 ⟨rfl, hb1⟩
  replace hK0 := hK0.below (show Below _ _ w1 by (repeat (first | exact bl_refl | assumption | (apply bl_then; assumption) | refine bl_alloc ?_ _ | refine bl_drew ?_ | refine bl_drewN ?_ _)))
  replace fhK0 := hK0.facts
  go_wp2_with fail
  refine (sh1 _).mono ?_
  rintro e w2 ⟨vS, rfl, hS2, hb2⟩
  obtain ⟨AS, cS, rfl⟩ := hS2.shape
  have hS0 := hS2.base_mono (Nat.zero_le _)
  replace hS2 := hS2.rd bc_len
  rw [HSL.out] at hS2 hS0 ⊢
  go_wp2_with fail
  refine (nS _ _ hS2).mono ?_
  rintro e w3 ⟨rfl, hb3⟩
  go_wp2_with fail
  refine (ccopy_any S _ (hS2.below (by (repeat (first | exact bl_refl | assumption | (apply bl_then; assumption) | refine bl_alloc ?_ _ | refine bl_drew ?_ | refine bl_drewN ?_ _)))) lS).mono ?_
  rintro e w4 ⟨vW, rfl, hW4, hb4⟩
  obtain ⟨AW, cW, rfl⟩ := hW4.shape
  replace hW4 := hW4.rd bc_len
  rw [HSL.out] at hW4 ⊢
  go_wp2_with fail
  refine (dr _).mono ?_
  rintro e w5 ⟨vO, rfl, hO5, hb5⟩
  obtain ⟨AO, cO, rfl⟩ := hO5.shape
  replace hO5 := hO5.rd ic_len
  rw [HOL.out] at hO5 ⊢
  have hS5 := hS0.below (show Below w2.heap.size w2 w5 by (repeat (first | exact bl_refl | assumption | (apply bl_then; assumption) | refine bl_alloc ?_ _ | refine bl_drew ?_ | refine bl_drewN ?_ _)))
  have hW5 := hW4.below hb5
  have hb05 : Below w0.heap.size w0 w5 := by (repeat (first | exact bl_refl | assumption | (apply bl_then; assumption) | refine bl_alloc ?_ _ | refine bl_drew ?_ | refine bl_drewN ?_ _))
  have hbw5 := bl_then hb05 hb0
  clear hb1 hb2 hb3 hb4 hb5 hb05 hb0 hS0 hS2 hW4 hK0 fhK0
  obtain ⟨AO', cO', heO, _, _, hrO⟩ := id hO5
  obtain ⟨rfl, hz1, rfl⟩ : AO = AO' ∧ p = O.length ∧ cO = cO' := by simpa using heO
  obtain ⟨AW', cW', heW, _, _, hrW⟩ := id hW5
  obtain ⟨rfl, hz2, rfl⟩ : AW = AW' ∧ p = S.length ∧ cW = cW' := by simpa using heW
  clear hz1 hz2 heO heW
  go_wp2
  go_loopw [9, 13, 74] (fun s9 s13 i wr => ∃ k : Nat, k ≤ p ∧ i = .int .i64 k ∧ OwB 0 wr s9 (wornL S (O.take k)) ∧ OwN w5.heap.size wr s13 (seenL S O k) ∧ Below w5.heap.size w5 wr) (fun _ _ i _ => p - (intOf i).toNat)
  case atStart => exact ⟨0, Nat.zero_le _, rfl, (by rw [List.take_zero, wornL_nil]; exact hS5), Own.nil_, by (repeat (first | exact bl_refl | assumption | (apply bl_then; assumption) | refine bl_alloc ?_ _ | refine bl_drew ?_ | refine bl_drewN ?_ _))⟩
  case round =>
    obtain ⟨k, hk, rfl, hR, hN, hbr⟩ := hrel
    obtain ⟨wo, rfl⟩ : ∃ x, x = wr := ⟨_, rfl⟩
    have hbwo := bl_then hbr hbw5
    by_cases hlt : k < p
    · have hkO : k < O.length := by rw [HOL.out]; exact hlt
      obtain ⟨hi, kn, bn, mn, pn, hn, hst⟩ := step_of HNE.out HOK.out hkO
      have hin := HOK.out.inn _ (List.getElem_mem hkO)
      have HSC := Lib.hid (seenL_succ S O k)
      have HSN := Lib.hid (seenL_len S O k)
      obtain ⟨gO, oO, rfl, hgO, d0⟩ := (hrO.below hbr).int hkO
      obtain ⟨gW, oW, rfl, hgW, e0, e1, e2⟩ := (hrW.below hbr).bar hi
      obtain ⟨t, ht⟩ : ∃ t : Nat, O[k] = (t : Int) := ⟨(O[k]).toNat, by omega⟩
      have htt : (O[k]).toNat = t := by omega
      have htp : t < p := by have := hin.2; rw [HSL.out] at this; omega
      have htS : t < S.length := by rw [HSL.out]; exact htp
      obtain ⟨⟨bx, bY, bs⟩, hx⟩ : ∃ z, S[(O[k]).toNat] = z := ⟨_, rfl⟩
      have HSX : Hid (S[t] = (bx, bY, bs)) := by unfold Hid; rw [← hx]; congr 1; exact htt.symm
      rw [hx] at e0 e1 e2 hst
      rw [htt] at e0 e1 e2
      rw [ht] at d0
      simp only at e0 e1 e2
      obtain ⟨R', hR'⟩ : ∃ R, wornL S (O.take (k + 1)) = R := ⟨_, rfl⟩
      have HR' := Lib.hid hR'
      rw [hR'] at hst
      have HC := cN_of hst.nums
      obtain ⟨R, hRR⟩ : ∃ R, wornL S (O.take k) = R := ⟨_, rfl⟩
      rw [hRR] at hst hR HC HSC
      rw [HC] at HSC
      obtain ⟨Q, hQ⟩ : ∃ Q, seenL S O k = Q := ⟨_, rfl⟩
      rw [hQ] at hN HSC HSN
      obtain ⟨AR, cR, rfl⟩ := hR.shape
      have l1 := hst.nums.bars
      have l2 := hst.len
      have x1 := hst.nums.kle
      have x2 := hst.nums.mle
      have x3 := hst.nums.ple
      have x4 := hst.nums.holes
      have x5 := hst.nums.pos
      have lRb : R.length ≤ 24 := by
        have h2 := worn_len (netE_ok HNE.out).sorted HOK.out k (by omega)
        rw [hRR, HSL.out] at h2
        omega
      have lR : R.length ≤ 100000 := by omega
      have z1 : hn ≤ 100 := by omega
      have z2 : bn ≤ 24 := by omega
      have cR' := fun W z (q : SlB W z R) => ccount_any R W q hst.net lR
      rw [hst.nums.cnt] at cR'
      have mm := fun W z z' (q : SlB W z R) (q' : SlB W z' [(bx, bY, bs)]) => aMinus R _ W q q' hst.net hst.one
      rw [hst.less] at mm
      have t5 : ((mn : Int) + hn - pn + kn != bn) = false := by rw [bne_eq_false_iff_eq]; omega
      have t6 : ((mn : Int) < 0) = False := eq_false (by omega)
      have t7 : (hn < 0) = False := eq_false (by omega)
      have t8 : ((R'.length : Int) != (bn : Int) - 1) = false := by rw [bne_eq_false_iff_eq]; omega
      have hQl : Q.length ≤ 1000 := by rw [HSN.out]; omega
      rw [l1] at hR ⊢
      obtain ⟨n', hn'⟩ : ∃ n', R'.length = n' := ⟨_, rfl⟩
      have HNL := Lib.hid hn'
      rw [hn'] at t8
      have z3 : n' ≤ 24 := by omega
      have z4 : 1 ≤ bn := by omega
      clear hst hin hx ht htt hR' hRR hQ HC l1 l2 x4 lRb hi hkO hn'
      go_wp2_with fail
      refine (cR' _ _ (hR.rd bc_len)).mono ?_
      rintro e w8 ⟨rfl, hb8⟩
      have hR8 := hR.below hb8
      have hN8 := hN.below hb8
      have hb58 := bl_then hb8 hbr
      clear d0 e0 e1 e2 hgO hgW hR hN
      go_wp2_with (first | (refine wpList_store_blk (Blk.new w8 33 zer5) rfl _ _ _ rfl rfl rfl (by rfl) (by kernel_rfl) (by kernel_rfl) ?_; intro w9 hC9 hc9; have hb9 : Below w8.heap.size w8 w9 := ((Chg.of_below (bl_alloc bl_refl _)).trans hc9).below (by simp) (Nat.le_refl _); have fC := hC9.facts; have hN9 := hN8.below hb9; have hR9 := hR8.below hb9; have hb59 := bl_then hb9 hb58) | (at_builtin; refine wpList_appN hN9 rfl _ _ rfl rfl rfl hQl hb59.size ?_; intro v11 w11 hN11 hg11))
      have hb11 : Below w5.heap.size w5 w11 := own_step hN9 hg11 (bl_alloc hb59 _)
      have hR11 := (hR9.alloc (.cells #[.int .i64 kn, .int .i64 bn, .int .i64 mn, .int .i64 pn, .int .i64 hn] 33)).kept hg11 (own_apart (hR9.alloc (.cells #[.int .i64 kn, .int .i64 bn, .int .i64 mn, .int .i64 pn, .int .i64 hn] 33)) (hN9.alloc (.cells #[.int .i64 kn, .int .i64 bn, .int .i64 mn, .int .i64 pn, .int .i64 hn] 33)))
      obtain ⟨hgW, f0, f1, f2⟩ := (hrW.below hb11).barAt htS
      rw [HSX.out] at f0 f1 f2
      simp only at f0 f1 f2
      have lR2 := lR
      clear hb8 hb58 hb59 hN8 hN9 hR8 hR9 hg11 hC9 fC cR'
      go_upto_region 17 with fail
      go_cut [18, 19] from 115 to 137 (fun s18 s19 wx => s19 = .int .i64 0 ∧ OwB 0 wx s18 R' ∧ Below w11.heap.size w11 wx)
      case first =>
        refine wp_region_tree [0, 2, 3, 4, 5] (.alt (.br 1 (.alt (.br 6 (.alt (.br 7 (.take 8 (.take 9 (.take 10 (.take 11 (.fin))))) (.stop))) (.stop))) (.br 6 (.alt (.br 1 (.alt (.br 7 (.take 8 (.take 9 (.take 10 (.take 11 (.fin))))) (.stop))) (.stop))) (.stop)))) [12] (by kernel_rfl) (by kernel_rfl) (fun d _ _ _ _ h => by cases d <;> exact h) ?_
        simp only [List.map_cons, List.map_nil, List.getD_cons_zero, List.getD_cons_succ]
        repeat (go_big_quiet_step (fail))
        refine wpQuiet_nil ?_
        refine wpTree_alt (wpTree_br rfl rfl ?_ (wpTree_br rfl rfl ?_ wpTree_stop))
        · intro K hK
          go_simp
          refine (ccopy_any R _ ((hR11.rd bc_len).below (by (repeat (first | exact bl_refl | assumption | (apply bl_then; assumption) | refine bl_alloc ?_ _ | refine bl_drew ?_ | refine bl_drewN ?_ _)))) lR).mono ?_
          rintro e w17 ⟨v17, rfl, hC17, hb17⟩
          refine hK _ _ (by (repeat (first | exact bl_refl | assumption | (apply bl_then; assumption) | refine bl_alloc ?_ _ | refine bl_drew ?_ | refine bl_drewN ?_ _))) ?_
          clear hK K
          refine wpTree_alt (wpTree_br rfl rfl ?_ wpTree_stop)
          have hS1 := Sl.one_bar w17 bx bY bs
          intro K hK
          go_simp
          refine hK _ _ (by (repeat (first | exact bl_refl | assumption | (apply bl_then; assumption) | refine bl_alloc ?_ _ | refine bl_drew ?_ | refine bl_drewN ?_ _))) ?_
          clear hK K
          refine wpTree_alt (wpTree_br rfl rfl ?_ wpTree_stop)
          intro K hK
          go_simp
          refine (mm _ _ _ ((hC17.rd bc_len).below (by (repeat (first | exact bl_refl | assumption | (apply bl_then; assumption) | refine bl_alloc ?_ _ | refine bl_drew ?_ | refine bl_drewN ?_ _)))) hS1).mono ?_
          rintro e w18 ⟨v18, rfl, hO18, hb18⟩
          refine hK _ _ (by (repeat (first | exact bl_refl | assumption | (apply bl_then; assumption) | refine bl_alloc ?_ _ | refine bl_drew ?_ | refine bl_drewN ?_ _))) ?_
          clear hK K
          iterate 4 (refine wpTree_take rfl rfl ?_; intro K hK; simp only [Array.getD_eq_getD_getElem?, List.getElem?_toArray, List.getElem?_cons_succ, List.getElem?_cons_zero, Option.getD_some]; go_big_quiet_op; go_big_quiet_on)
          refine wpTree_fin ?_
          go_wp2_with fail
          go_meet
          case rel => exact ⟨rfl, hO18.base_mono (Nat.zero_le _), by (repeat (first | exact bl_refl | assumption | (apply bl_then; assumption) | refine bl_alloc ?_ _ | refine bl_drew ?_ | refine bl_drewN ?_ _))⟩
        · have hS1 := Sl.one_bar w11.drew bx bY bs
          intro K hK
          go_simp
          refine hK _ _ (by (repeat (first | exact bl_refl | assumption | (apply bl_then; assumption) | refine bl_alloc ?_ _ | refine bl_drew ?_ | refine bl_drewN ?_ _))) ?_
          clear hK K
          refine wpTree_alt (wpTree_br rfl rfl ?_ wpTree_stop)
          intro K hK
          go_simp
          refine (ccopy_any R _ ((hR11.rd bc_len).below (by (repeat (first | exact bl_refl | assumption | (apply bl_then; assumption) | refine bl_alloc ?_ _ | refine bl_drew ?_ | refine bl_drewN ?_ _)))) lR).mono ?_
          rintro e w17 ⟨v17, rfl, hC17, hb17⟩
          refine hK _ _ (by (repeat (first | exact bl_refl | assumption | (apply bl_then; assumption) | refine bl_alloc ?_ _ | refine bl_drew ?_ | refine bl_drewN ?_ _))) ?_
          clear hK K
          refine wpTree_alt (wpTree_br rfl rfl ?_ wpTree_stop)
          intro K hK
          go_simp
          refine (mm _ _ _ (hC17.rd bc_len) (hS1.below (by (repeat (first | exact bl_refl | assumption | (apply bl_then; assumption) | refine bl_alloc ?_ _ | refine bl_drew ?_ | refine bl_drewN ?_ _))))).mono ?_
          rintro e w18 ⟨v18, rfl, hO18, hb18⟩
          refine hK _ _ (by (repeat (first | exact bl_refl | assumption | (apply bl_then; assumption) | refine bl_alloc ?_ _ | refine bl_drew ?_ | refine bl_drewN ?_ _))) ?_
          clear hK K
          iterate 4 (refine wpTree_take rfl rfl ?_; intro K hK; simp only [Array.getD_eq_getD_getElem?, List.getElem?_toArray, List.getElem?_cons_succ, List.getElem?_cons_zero, Option.getD_some]; go_big_quiet_op; go_big_quiet_on)
          refine wpTree_fin ?_
          go_wp2_with fail
          go_meet
          case rel => exact ⟨rfl, hO18.base_mono (Nat.zero_le _), by (repeat (first | exact bl_refl | assumption | (apply bl_then; assumption) | refine bl_alloc ?_ _ | refine bl_drew ?_ | refine bl_drewN ?_ _))⟩
      case rest =>
        obtain ⟨rfl, hR2, hbc⟩ := hcut
        obtain ⟨w19, rfl⟩ : ∃ x, x = wc := ⟨_, rfl⟩
        obtain ⟨A2, c2, rfl⟩ := hR2.shape
        rw [HNL.out] at hR2 ⊢
        have hb19 := bl_then hbc hb11
        have hN19 := hN11.below hbc
        clear f0 f1 f2 hgW
        go_wp2
        go_roundw
        case rel => exact ⟨k + 1, by omega, by go_num, (by rw [HR'.out]; exact hR2), (by rw [HSC.out]; exact hN19), hb19⟩
        case measure => simp [intOf]; omega
    · obtain rfl : k = p := by omega
      have HE0 : Hid (wornL S (O.take k) = []) := by
        have := worn_all (netE_ok HNE.out).sorted HOK.out
        rwa [HOL.out] at this
      rw [HE0.out] at hR
      have hSN := seenL_len S O k
      have HSN := Lib.hid hSN
      obtain ⟨AR, cR, rfl⟩ := hR.shape
      rw [List.length_nil] at hR ⊢
      have hR0 := hR.rd bc_len
      obtain ⟨AN, cN_, rfl⟩ := hN.shape
      rw [hSN] at ⊢
      have hNs := hN.rd nc_len
      obtain ⟨AN', cN', heN, _, _, hrN⟩ := id hNs
      obtain ⟨rfl, rfl⟩ : AN = AN' ∧ cN_ = cN' := by simpa using heN
      have hWo := hrW.below hbr
      have hOo := hrO.below hbr
      have hW5o := hW5.below hbr
      clear hlt hk hSN heN hR hN hNs hS5 hrW hrO hO5 hbr
      go_wp2
      go_loopw [9, 20] (fun s9 s20 wr => ∃ j : Nat, j ≤ k ∧ s20 = .int .i64 ((j : Int) - 1) ∧ SlB wr s9 (wornL S (O.take j)) ∧ Below wo.heap.size wo wr) (fun _ s20 _ => (intOf s20 + 1).toNat)
      case atStart => exact ⟨k, Nat.le_refl _, by go_num, (by rw [HE0.out]; exact hR0), by (repeat (first | exact bl_refl | assumption | (apply bl_then; assumption) | refine bl_alloc ?_ _ | refine bl_drew ?_ | refine bl_drewN ?_ _))⟩
      case round =>
        obtain ⟨j1, hj1, rfl, hR, hbr⟩ := hrel
        obtain ⟨wq, rfl⟩ : ∃ x, x = wr := ⟨_, rfl⟩
        have hbwq := bl_then hbr hbwo
        cases j1 with
        | zero =>
          rw [List.take_zero, wornL_nil] at hR
          rw [show ((0 : Nat) : Int) - 1 = -1 from rfl]
          have hWq := hW5o.below hbr
          clear hW5o hrN hWo hOo hR0
          go_wp2_with fail
          refine (aSame S S _ (hR.below (by (repeat (first | exact bl_refl | assumption | (apply bl_then; assumption) | refine bl_alloc ?_ _ | refine bl_drew ?_ | refine bl_drewN ?_ _)))) (hWq.below (by (repeat (first | exact bl_refl | assumption | (apply bl_then; assumption) | refine bl_alloc ?_ _ | refine bl_drew ?_ | refine bl_drewN ?_ _)))) rfl).mono ?_
          rintro e w8 ⟨rfl, hb8⟩
          go_wp2_with fail
          refine (corkMesh_any _).mono ?_
          rintro e w9 ⟨rfl, hb9⟩
          go_wp2
          go_ret
          exact ⟨rfl, by (repeat (first | exact bl_refl | assumption | (apply bl_then; assumption) | refine bl_alloc ?_ _ | refine bl_drew ?_ | refine bl_drewN ?_ _))⟩
        | succ j =>
          rw [show ((j + 1 : Nat) : Int) - 1 = (j : Int) by omega]
          have hjO : j < O.length := by rw [HOL.out]; omega
          have hjN : j < (seenL S O k).length := by rw [seenL_len]; omega
          have hG := seenL_get S O hjN
          obtain ⟨hi, kn, bn, mn, pn, hn, hst⟩ := step_of HNE.out HOK.out hjO
          have hin := HOK.out.inn _ (List.getElem_mem hjO)
          obtain ⟨gO, oO, rfl, hgO, d0⟩ := (hOo.below hbr).int hjO
          obtain ⟨gW, oW, rfl, hgW, e0, e1, e2⟩ := (hWo.below hbr).bar hi
          obtain ⟨t, ht⟩ : ∃ t : Nat, O[j] = (t : Int) := ⟨(O[j]).toNat, by omega⟩
          have htt : (O[j]).toNat = t := by omega
          have htp : t < k := by have := hin.2; rw [HSL.out] at this; omega
          obtain ⟨⟨bx, bY, bs⟩, hx⟩ : ∃ z, S[(O[j]).toNat] = z := ⟨_, rfl⟩
          rw [hx] at e0 e1 e2 hst
          rw [htt] at e0 e1 e2
          rw [ht] at d0
          simp only at e0 e1 e2
          obtain ⟨R', hR'⟩ : ∃ R, wornL S (O.take (j + 1)) = R := ⟨_, rfl⟩
          rw [hR'] at hst hR
          have HC := cN_of hst.nums
          obtain ⟨R, hRR⟩ : ∃ R, wornL S (O.take j) = R := ⟨_, rfl⟩
          have HRR := Lib.hid hRR
          rw [hRR] at hst HC hG
          rw [HC] at hG
          have HGG := Lib.hid hG
          have hRl : R.length ≤ 100 := by
            have h2 := worn_len (netE_ok HNE.out).sorted HOK.out j (by omega)
            rw [hRR, HSL.out] at h2
            omega
          have lR : R.length ≤ 100000 := by omega
          have lR' : R'.length ≤ 100000 := by have := hst.len; omega
          have cR' := fun W z (q : SlB W z R) => ccount_any R W q hst.net lR
          rw [hst.nums.cnt] at cR'
          have mu := fun W z z' (q : SlB W z R') (q' : SlB W z' [(bx, bY, bs)]) => aUnion R' _ W q q' hst.net' hst.one (by have := hst.len; simp; omega)
          rw [hst.more] at mu

          clear hst hin hx ht htt hR' hRR HC hG hRl hi hjO hR0 hWo hOo
          go_upto_region 27 with fail
          go_cut [21, 22] from 148 to 181 (fun s21 s22 wx => s22 = .int .i64 0 ∧ SlB wx s21 R ∧ Below wq.heap.size wq wx)
          case first =>
            refine wp_region_tree [0, 2, 3, 4, 5, 6, 7, 8] (.alt (.br 1 (.alt (.br 9 (.alt (.br 10 (.take 11 (.take 12 (.take 13 (.take 14 (.fin))))) (.stop))) (.stop))) (.br 9 (.alt (.br 1 (.alt (.br 10 (.take 11 (.take 12 (.take 13 (.take 14 (.fin))))) (.stop))) (.stop))) (.stop)))) [15] (by kernel_rfl) (by kernel_rfl) (fun d _ _ _ _ h => by cases d <;> exact h) ?_
            simp only [List.map_cons, List.map_nil, List.getD_cons_zero, List.getD_cons_succ]
            repeat (go_big_quiet_step (fail))
            refine wpQuiet_nil ?_
            refine wpTree_alt (wpTree_br rfl rfl ?_ (wpTree_br rfl rfl ?_ wpTree_stop))
            · intro K hK
              go_simp
              refine (ccopy_any R' _ (hR.below (by (repeat (first | exact bl_refl | assumption | (apply bl_then; assumption) | refine bl_alloc ?_ _ | refine bl_drew ?_ | refine bl_drewN ?_ _)))) lR').mono ?_
              rintro e w17 ⟨v17, rfl, hC17, hb17⟩
              refine hK _ _ (by (repeat (first | exact bl_refl | assumption | (apply bl_then; assumption) | refine bl_alloc ?_ _ | refine bl_drew ?_ | refine bl_drewN ?_ _))) ?_
              clear hK K
              refine wpTree_alt (wpTree_br rfl rfl ?_ wpTree_stop)
              have hS1 := Sl.one_bar w17 bx bY bs
              intro K hK
              go_simp
              refine hK _ _ (by (repeat (first | exact bl_refl | assumption | (apply bl_then; assumption) | refine bl_alloc ?_ _ | refine bl_drew ?_ | refine bl_drewN ?_ _))) ?_
              clear hK K
              refine wpTree_alt (wpTree_br rfl rfl ?_ wpTree_stop)
              intro K hK
              go_simp
              refine (mu _ _ _ ((hC17.rd bc_len).below (by (repeat (first | exact bl_refl | assumption | (apply bl_then; assumption) | refine bl_alloc ?_ _ | refine bl_drew ?_ | refine bl_drewN ?_ _)))) hS1).mono ?_
              rintro e w18 ⟨v18, rfl, hO18, hb18⟩
              refine hK _ _ (by (repeat (first | exact bl_refl | assumption | (apply bl_then; assumption) | refine bl_alloc ?_ _ | refine bl_drew ?_ | refine bl_drewN ?_ _))) ?_
              clear hK K
              iterate 4 (refine wpTree_take rfl rfl ?_; intro K hK; simp only [Array.getD_eq_getD_getElem?, List.getElem?_toArray, List.getElem?_cons_succ, List.getElem?_cons_zero, Option.getD_some]; go_big_quiet_op; go_big_quiet_on)
              refine wpTree_fin ?_
              go_wp2_with fail
              go_meet
              case rel => exact ⟨rfl, hO18.rd bc_len, by (repeat (first | exact bl_refl | assumption | (apply bl_then; assumption) | refine bl_alloc ?_ _ | refine bl_drew ?_ | refine bl_drewN ?_ _))⟩
            · have hS1 := Sl.one_bar wq.drew bx bY bs
              intro K hK
              go_simp
              refine hK _ _ (by (repeat (first | exact bl_refl | assumption | (apply bl_then; assumption) | refine bl_alloc ?_ _ | refine bl_drew ?_ | refine bl_drewN ?_ _))) ?_
              clear hK K
              refine wpTree_alt (wpTree_br rfl rfl ?_ wpTree_stop)
              intro K hK
              go_simp
              refine (ccopy_any R' _ (hR.below (by (repeat (first | exact bl_refl | assumption | (apply bl_then; assumption) | refine bl_alloc ?_ _ | refine bl_drew ?_ | refine bl_drewN ?_ _)))) lR').mono ?_
              rintro e w17 ⟨v17, rfl, hC17, hb17⟩
              refine hK _ _ (by (repeat (first | exact bl_refl | assumption | (apply bl_then; assumption) | refine bl_alloc ?_ _ | refine bl_drew ?_ | refine bl_drewN ?_ _))) ?_
              clear hK K
              refine wpTree_alt (wpTree_br rfl rfl ?_ wpTree_stop)
              intro K hK
              go_simp
              refine (mu _ _ _ (hC17.rd bc_len) (hS1.below (by (repeat (first | exact bl_refl | assumption | (apply bl_then; assumption) | refine bl_alloc ?_ _ | refine bl_drew ?_ | refine bl_drewN ?_ _))))).mono ?_
              rintro e w18 ⟨v18, rfl, hO18, hb18⟩
              refine hK _ _ (by (repeat (first | exact bl_refl | assumption | (apply bl_then; assumption) | refine bl_alloc ?_ _ | refine bl_drew ?_ | refine bl_drewN ?_ _))) ?_
              clear hK K
              iterate 4 (refine wpTree_take rfl rfl ?_; intro K hK; simp only [Array.getD_eq_getD_getElem?, List.getElem?_toArray, List.getElem?_cons_succ, List.getElem?_cons_zero, Option.getD_some]; go_big_quiet_op; go_big_quiet_on)
              refine wpTree_fin ?_
              go_wp2_with fail
              go_meet
              case rel => exact ⟨rfl, hO18.rd bc_len, by (repeat (first | exact bl_refl | assumption | (apply bl_then; assumption) | refine bl_alloc ?_ _ | refine bl_drew ?_ | refine bl_drewN ?_ _))⟩
          case rest =>
            obtain ⟨rfl, hR2, hbc⟩ := hcut
            obtain ⟨w19, rfl⟩ : ∃ x, x = wc := ⟨_, rfl⟩
            clear d0 e0 e1 e2 hgO hgW hR
            go_wp2_with fail
            refine (cR' _ _ hR2).mono ?_
            rintro e w20 ⟨rfl, hb20⟩
            have hR20 := hR2.below hb20
            have hbo20 := bl_then hb20 (bl_then hbc hbr)
            clear hb20 hbc hR2 cR'
            go_wp2_with (refine wpList_store_blk (Blk.new w20 33 zer5) rfl _ _ _ rfl rfl rfl (by rfl) (by kernel_rfl) (by kernel_rfl) ?_; intro w22 hC22 hc22)
            have hb22 : Below w20.heap.size w20 w22 := ((Chg.of_below (bl_alloc bl_refl _)).trans hc22).below (by simp) (Nat.le_refl _)
            have hbo22 := bl_then hb22 hbo20
            have hR22 := hR20.below hb22
            have fC := hC22.facts
            obtain ⟨gN, oN, rfl, hgN, g0, g1, g2, g3, g4⟩ := (hrN.below hbo22).cnt hjN
            rw [HGG.out] at g0 g1 g2 g3 g4
            simp only at g0 g1 g2 g3 g4
            clear hc22 hb22 hbo20 hR20
            refine wp_region_ords [0, 1, 2, 3, 4, 5, 6, 7, 8, 9, 10, 11, 12, 13] [] [] (by kernel_rfl) (by kernel_rfl) (fun d _ _ _ _ h => by cases d <;> exact h) ?_
            simp only [List.map_cons, List.map_nil, List.getD_cons_zero, List.getD_cons_succ]
            repeat (go_big_quiet_step (fail))
            refine wpQuiet_nil ?_
            refine wpMid_nil ?_
            go_wp2
            go_roundw
            case rel => exact ⟨j, by omega, by go_num, (by rw [HRR.out]; exact hR22.drew), bl_drew hbo22⟩
            case measure => simp [intOf]
end Go.Proofs.Ytpoaomdpcoaolaa

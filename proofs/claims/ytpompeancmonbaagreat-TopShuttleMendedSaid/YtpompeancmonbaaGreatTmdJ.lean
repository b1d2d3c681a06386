/- TopShuttleMended: the law, walked. Conditions: none. -/
import Derived.Test.YtpompeancmonbaaGreatD07
import Derived.Test.YtpompeancmonbaaGreatD15
import Derived.Test.YtpompeancmonbaaGreatD21
import Derived.Test.YtpompeancmonbaaGreatD20
import Derived.Test.YtpompeancmonbaaGreatD22
import Derived.Test.YtpompeancmonbaaGreatD24
import Derived.Test.YtpompeancmonbaaGreatD12
import Derived.Test.YtpompeancmonbaaGreatD38
import Derived.Test.YtpompeancmonbaaGreatD40
import Derived.Test.YtpompeancmonbaaGreatD27
import Derived.Test.YtpompeancmonbaaGreatD31
import Derived.Test.YtpompeancmonbaaGreatD41
import Derived.Test.YtpompeancmonbaaGreatD37
namespace Go.Proofs.YtpompeancmonbaaGreat
open Go.RowKit Go.ChangeMaps
set_option maxHeartbeats 4000000
set_option maxRecDepth 100000

attribute [local go_sem] Oper.semAt_some
theorem knot_of_net {l : List Bar} (hE : netE l = 0) {k : Knot} (hk : k ∈ holeK l) : knotE k.1 k.2 = 0 := by
  obtain ⟨b, hb, h⟩ := (holeK_ends l k).1 hk
  have h1 := netE_bars hE b hb
  unfold barE at h1
  split at h1
  · rename_i q; exact absurd h1 q
  · rename_i q
    split at h1
    · cases h1
    · rcases h with rfl | rfl
      · exact Decidable.byContradiction fun e => q e
      · exact h1
theorem miss_of {N D : List Bar} (hE : tornE N D = 0) {k : Knot} (hk : knotE k.1 k.2 = 0) : twoE N D k = 0 ∧ missR N D k = ((degN D k : Nat) : Int) := by
  have h1 : twoE N D k = 0 := by unfold twoE; rw [hE, hk]; rfl
  have hD := netE_ok (torn_nets hE).2
  refine ⟨h1, ?_⟩
  unfold missR missN
  rw [if_pos h1, deg_cnt hD.nodup (fun b hb => (hD.ok b hb).2.2)]
theorem aMissing {v u : Value} (N D : List Bar) (x y : Int) (w : World) (hN : SlB w v N) (hD : SlB w u D) (hE : tornE N D = 0) (hk : knotE x y = 0) : Calls Tryz.prog 21 #[.agg #[v, u], .agg #[.int .i64 x, .int .i64 y]] w (RV w (.tuple #[.int .i64 ((degN D (x, y) : Nat) : Int), .int .i64 0])) := by
  have := pmissing_any N D x y w hN hD
  rwa [(miss_of hE (k := (x, y)) hk).1, (miss_of hE (k := (x, y)) hk).2] at this
theorem tokB_true {N D : List Bar} {n : Int} (h : tokB N D n = true) : (N.length : Int) ≤ n ∧ (D.length : Int) ≤ n ∧ tornE N D = 0 := by
  unfold tokB at h
  simp only [Bool.and_eq_true, decide_eq_true_eq] at h
  exact ⟨h.1.1, h.1.2, h.2⟩
theorem sound_eq {N D : List Bar} (hE : tornE N D = 0) : soundL N D = wout N D := by unfold soundL; rw [if_pos hE]
theorem topShuttleMended_any {v u : Value} (N D : List Bar) (w : World) (hN : SlB w v N) (hD : SlB w u D) (lN : N.length ≤ 5864062014805) (lD : D.length ≤ 5864062014805) : Calls Tryz.prog 4 #[.agg #[v, u]] w (RV w (.bool true)) := by
  have sT := fun W (hb : Below w.heap.size w W) => storn_any N D 40 W (hN.below hb) (hD.below hb) lN lD
  obtain ⟨AN, cN, rfl, _, _, _⟩ := id hN
  obtain ⟨AD, cD, rfl, _, _, _⟩ := id hD
  have hK := Blk.new w 24 #[.slice AN N.length cN, .slice AD D.length cD]
  have fhK := hK.facts
  obtain ⟨tb, htb⟩ : ∃ b, tokB N D 40 = b := ⟨_, rfl⟩
  rw [htb] at sT
  cases tb
  · clear htb
    go_enter Tryz.func4, Tryz.ntmps4
    go_wp2_with fail
    refine (sT _ (by (repeat (first | exact bl_refl | assumption | (apply bl_then; assumption) | refine bl_alloc ?_ _ | refine bl_drew ?_ | refine bl_drewN ?_ _)))).mono ?_
    rintro e w1 ⟨A1, c1, A2, c2, rfl, hN1, hD1, hb1⟩
    have hbw1 : Below w.heap.size w w1 := by (repeat (first | exact bl_refl | assumption | (apply bl_then; assumption) | refine bl_alloc ?_ _ | refine bl_drew ?_ | refine bl_drewN ?_ _))
    go_wp2_with (refine wpList_store_blk (Blk.new w1 27 #[.slice none 0 0, .slice none 0 0]) rfl _ _ _ rfl rfl rfl (by rfl) (by kernel_rfl) (by kernel_rfl) ?_; intro w2 hT2 hc2)
    have hb2 : Below w1.heap.size w1 w2 := ((Chg.of_below (bl_alloc bl_refl _)).trans hc2).below (by simp) (Nat.le_refl _)
    clear hc2
    go_wp2_with fail
    refine (shuttleHole_any _).mono ?_
    rintro e w3 ⟨rfl, hb3⟩
    go_wp2
    go_ret
    exact ⟨rfl, bl_then hb3 (bl_then hb2 hbw1)⟩
  obtain ⟨g1, g2, hE⟩ := tokB_true htb
  obtain ⟨eN, eD⟩ := torn_nets hE
  have okN := netE_ok eN
  have hS := sound_eq hE
  have so := fun W z z' (q : SlB W z N) (q' : SlB W z' D) => sound_any N D W q q'
  rw [hS, hE] at so
  have eS : netE (wout N D) = 0 := netE_wout eN
  have mi := fun W z z' (q : SlB W z N) (q' : SlB W z' D) => aMinus N D W q q' eN eD
  have kn := fun W z (q : SlB W z N) => rknots_any N W q okN.ok (by omega)
  have ru := fun W z z' (q : SlB W z N) (q' : SlB W z' D) => prun_any N D W q q'
  have hre := run_err hE
  have dgN := fun W z (q : SlB W z N) (a b : Int) (hk : knotE a b = 0) => aDegree N a b W q eN hk
  have dgS := fun W z (q : SlB W z (wout N D)) (a b : Int) (hk : knotE a b = 0) => aDegree (wout N D) a b W q eS hk
  have ms := fun W z z' (q : SlB W z N) (q' : SlB W z' D) (a b : Int) (hk : knotE a b = 0) => aMissing N D a b W q q' hE hk
  have hdg : ∀ k, degN N k = degN (wout N D) k + degN D k := deg_parts hE
  have hkk : ∀ k ∈ holeK N, knotE k.1 k.2 = 0 := fun k hk => knot_of_net eN hk
  have me := fun W z z' (q : SlB W z D) (q' : SlB W z' (wout N D)) => aMeet D (wout N D) W q q' eD eS
  rw [torn_meet] at me
  have un := fun W z z' (q : SlB W z D) (q' : SlB W z' (wout N D)) => aUnion D (wout N D) W q q' eD eS (by have := wout_le N D; omega)
  rw [torn_union hE] at un
  obtain ⟨xk, xb, xm, xp, xh, hNm⟩ := nums_of eN
  have ct := fun W z (q : SlB W z N) => aCount N W q eN
  rw [hNm.cnt] at ct
  have lg := fun W z (q : SlB W z D) => aLegs D W q eD
  have pt := fun W z (q : SlB W z D) => apiParts_any D W q
  rw [eD, only_ok] at pt
  have nD := fun W z (q : SlB W z D) => aNet D W q eD
  have HG2 := Lib.hid g2
  have hpos : ∀ k, degN N k ≤ 80 := fun k => by have := degN_small N k; omega
  have lN1 : N.length ≤ 5864062014805 := by omega
  obtain ⟨S, hSS⟩ : ∃ X, wout N D = X := ⟨_, rfl⟩
  have lS : S.length ≤ 5864062014805 := by rw [← hSS]; have := wout_le N D; omega
  rw [hSS] at so mi dgS hdg eS me un
  obtain ⟨Kn, hKn⟩ : ∃ X, holeK N = X := ⟨_, rfl⟩
  rw [hKn] at kn hkk
  obtain ⟨nk, hnk⟩ : ∃ n, Kn.length = n := ⟨_, rfl⟩
  have HKN := Lib.hid hnk
  have hnk2 : nk ≤ 80 := by have := holeK_lenN N; rw [hKn, hnk] at this; omega
  have HDG := Lib.hid hdg
  have HKK := Lib.hid hkk
  have HPO := Lib.hid hpos
  have HRE := Lib.hid hre
  have HE := Lib.hid hE
  have HEN := Lib.hid eN
  have HED := Lib.hid eD
  have HES := Lib.hid eS
  clear hNm htb g1 g2 hE eN eD okN hS eS hre hdg hkk hpos hSS hKn hnk
  go_enter Tryz.func4, Tryz.ntmps4
  go_wp2_with fail
  refine (sT _ (by (repeat (first | exact bl_refl | assumption | (apply bl_then; assumption) | refine bl_alloc ?_ _ | refine bl_drew ?_ | refine bl_drewN ?_ _)))).mono ?_
  rintro e w1 ⟨A1, c1, A2, c2, rfl, hN1, hD1, hb1⟩
  have hK1 := hK.below (show Below _ _ w1 by (repeat (first | exact bl_refl | assumption | (apply bl_then; assumption) | refine bl_alloc ?_ _ | refine bl_drew ?_ | refine bl_drewN ?_ _)))
  have hbw1 : Below w.heap.size w w1 := by (repeat (first | exact bl_refl | assumption | (apply bl_then; assumption) | refine bl_alloc ?_ _ | refine bl_drew ?_ | refine bl_drewN ?_ _))
  clear hb1 hK fhK
  go_wp2_with (refine wpList_store_blk (Blk.new w1 27 #[.slice none 0 0, .slice none 0 0]) rfl _ _ _ rfl rfl rfl (by rfl) (by kernel_rfl) (by kernel_rfl) ?_; intro w2 hT2 hc2; have fT2 := hT2.facts)
  have hb2 : Below w1.heap.size w1 w2 := ((Chg.of_below (bl_alloc bl_refl _)).trans hc2).below (by simp) (Nat.le_refl _)
  have hN2 := hN1.below hb2
  have hD2 := hD1.below hb2
  have hK2 := hK1.below hb2
  have hbw2 := bl_then hb2 hbw1
  clear hc2 hb2 hbw1 hN1 hD1 hK1
  go_wp2_with fail
  refine (so _ _ _ hN2 hD2).mono ?_
  rintro e w3 ⟨vS, rfl, hS3, hb3⟩
  obtain ⟨AS, cS, rfl⟩ := hS3.shape
  replace hS3 := hS3.rd bc_len
  have hN3 := hN2.below hb3
  have hD3 := hD2.below hb3
  have hK3 := hK2.below hb3
  have hT3 := hT2.below hb3
  have hbw3 := bl_then hb3 hbw2
  clear fT2 hb3 hbw2 hN2 hD2 hK2 hT2
  have fhK := hK3.facts
  go_wp2
  refine wp_region_ords [0, 1, 3, 4] [(2, false), (5, false), (6, false), (7, false), (8, true), (9, true), (10, false)] [11] (by kernel_rfl) (by kernel_rfl) (fun d _ _ _ _ h => by cases d <;> exact h) ?_
  simp only [List.map_cons, List.map_nil, List.getD_cons_zero, List.getD_cons_succ]
  repeat (go_big_quiet_step (fail))
  refine wpQuiet_nil ?_
  refine wpMid_run rfl (fun K hK => ?_)
  go_simp
  refine (sbars_any N _ (hN.below (by (repeat (first | exact bl_refl | assumption | (apply bl_then; assumption) | refine bl_alloc ?_ _ | refine bl_drew ?_ | refine bl_drewN ?_ _)))) lN1).mono ?_
  rintro e w4 ⟨v4, rfl, hC4, hb4⟩
  refine hK _ _ (by (repeat (first | exact bl_refl | assumption | (apply bl_then; assumption) | refine bl_alloc ?_ _ | refine bl_drew ?_ | refine bl_drewN ?_ _))) ?_
  clear hK K
  refine wpMid_run rfl (fun K hK => ?_)
  go_simp
  refine (sbars_any D _ (hD.below (by (repeat (first | exact bl_refl | assumption | (apply bl_then; assumption) | refine bl_alloc ?_ _ | refine bl_drew ?_ | refine bl_drewN ?_ _)))) lD).mono ?_
  rintro e w5 ⟨v5, rfl, hC5, hb5⟩
  refine hK _ _ (by (repeat (first | exact bl_refl | assumption | (apply bl_then; assumption) | refine bl_alloc ?_ _ | refine bl_drew ?_ | refine bl_drewN ?_ _))) ?_
  clear hK K
  refine wpMid_run rfl (fun K hK => ?_)
  go_simp
  refine (mi _ _ _ ((hC4.rd bc_len).below (by (repeat (first | exact bl_refl | assumption | (apply bl_then; assumption) | refine bl_alloc ?_ _ | refine bl_drew ?_ | refine bl_drewN ?_ _)))) (hC5.rd bc_len)).mono ?_
  rintro e w6 ⟨v6, rfl, hM6, hb6⟩
  refine hK _ _ (by (repeat (first | exact bl_refl | assumption | (apply bl_then; assumption) | refine bl_alloc ?_ _ | refine bl_drew ?_ | refine bl_drewN ?_ _))) ?_
  clear hK K
  refine wpMid_run rfl (fun K hK => ?_)
  go_simp
  refine hK _ _ (by (repeat (first | exact bl_refl | assumption | (apply bl_then; assumption) | refine bl_alloc ?_ _ | refine bl_drew ?_ | refine bl_drewN ?_ _))) ?_
  clear hK K
  refine wpMid_take rfl ?_
  intro K hK
  go_big_quiet_op
  go_big_quiet_on
  refine wpMid_take rfl ?_
  intro K hK
  go_big_quiet_op
  go_big_quiet_on
  refine wpMid_run rfl (fun K hK => ?_)
  go_simp
  refine hK _ _ (by (repeat (first | exact bl_refl | assumption | (apply bl_then; assumption) | refine bl_alloc ?_ _ | refine bl_drew ?_ | refine bl_drewN ?_ _))) ?_
  clear hK K
  refine wpMid_nil ?_
  go_wp2_with fail
  refine (aSame S S _ (hS3.below (by (repeat (first | exact bl_refl | assumption | (apply bl_then; assumption) | refine bl_alloc ?_ _ | refine bl_drew ?_ | refine bl_drewN ?_ _)))) ((hM6.rd bc_len).below (by (repeat (first | exact bl_refl | assumption | (apply bl_then; assumption) | refine bl_alloc ?_ _ | refine bl_drew ?_ | refine bl_drewN ?_ _)))) rfl).mono ?_
  rintro e w7 ⟨rfl, hb7⟩
  have hb37 : Below w3.heap.size w3 w7 := by (repeat (first | exact bl_refl | assumption | (apply bl_then; assumption) | refine bl_alloc ?_ _ | refine bl_drew ?_ | refine bl_drewN ?_ _))
  have hN7 := hN3.below hb37
  have hD7 := hD3.below hb37
  have hS7 := hS3.below hb37
  have hK7 := hK3.below hb37
  have hT7 := hT3.below hb37
  have hbw7 := bl_then hb37 hbw3
  clear fhK hb4 hb5 hb6 hb7 hb37 hbw3 hC4 hC5 hM6 hN3 hD3 hS3 hK3 hT3
  have fhK := hK7.facts
  go_wp2_with fail
  refine (kn _ _ (hN.below (by (repeat (first | exact bl_refl | assumption | (apply bl_then; assumption) | refine bl_alloc ?_ _ | refine bl_drew ?_ | refine bl_drewN ?_ _))))).mono ?_
  rintro e w8 ⟨vK, rfl, hL8, hb8⟩
  obtain ⟨AK, cK, rfl⟩ := hL8.shape
  replace hL8 := hL8.rd kc_len
  rw [HKN.out] at hL8 ⊢
  have hN8 := hN7.below hb8
  have hD8 := hD7.below hb8
  have hS8 := hS7.below hb8
  have hK8 := hK7.below hb8
  have hT8 := hT7.below hb8
  have hbw8 := bl_then hb8 hbw7
  clear fhK hb8 hbw7 hN7 hD7 hS7 hK7 hT7
  obtain ⟨AK', cK', he, _, _, hrL⟩ := id hL8
  obtain ⟨rfl, hzz, rfl⟩ : AK = AK' ∧ nk = Kn.length ∧ cK = cK' := by simpa using he
  clear hzz he hL8
  go_wp2
  go_loopw [72] (fun i wr => ∃ k : Nat, k ≤ nk ∧ i = .int .i64 k ∧ Below w8.heap.size w8 wr) (fun i _ => nk - (intOf i).toNat)
  case atStart => exact ⟨0, Nat.zero_le _, rfl, by (repeat (first | exact bl_refl | assumption | (apply bl_then; assumption) | refine bl_alloc ?_ _ | refine bl_drew ?_ | refine bl_drewN ?_ _))⟩
  case round =>
    obtain ⟨k, hk, rfl, hbr⟩ := hrel
    obtain ⟨wo, rfl⟩ : ∃ x, x = wr := ⟨_, rfl⟩
    have hbwo := bl_then hbr hbw8
    have hNo := hN8.below hbr
    have hDo := hD8.below hbr
    have hSo := hS8.below hbr
    have hKo := hK8.below hbr
    have hTo := hT8.below hbr
    by_cases hlt : k < nk
    · have hkl : k < Kn.length := by rw [HKN.out]; exact hlt
      obtain ⟨g, off, rfl, hg, e0, e1⟩ := (hrL.below hbr).knot hkl
      have hk0 := HKK.out _ (List.getElem_mem hkl)
      obtain ⟨⟨px, py⟩, hx⟩ : ∃ z, Kn[k] = z := ⟨_, rfl⟩
      rw [hx] at e0 e1 hk0
      simp only at e0 e1 hk0
      have hd := HDG.out (px, py)
      have hp := HPO.out (px, py)
      have qN := fun W z (q : SlB W z N) => dgN W z q px py hk0
      have qS := fun W z (q : SlB W z S) => dgS W z q px py hk0
      have qM := fun W z z' (q : SlB W z N) (q' : SlB W z' D) => ms W z z' q q' px py hk0
      obtain ⟨dx, hdx⟩ : ∃ n, degN N (px, py) = n := ⟨_, rfl⟩
      obtain ⟨dy, hdy⟩ : ∃ n, degN S (px, py) = n := ⟨_, rfl⟩
      obtain ⟨dz, hdz⟩ : ∃ n, degN D (px, py) = n := ⟨_, rfl⟩
      rw [hdx, hdy, hdz] at hd
      rw [hdx] at hp qN
      rw [hdy] at qS
      rw [hdz] at qM
      have t5 : ((dx : Int) != dy + dz) = false := by rw [bne_eq_false_iff_eq]; omega
      have z1 : dy ≤ 80 := by omega
      have z2 : dz ≤ 80 := by omega
      clear hx hdx hdy hdz hd hk0
      have hP0 := Blk.new wo 32 #[.int .i64 px, .int .i64 py]
      go_upto_region 11 with fail
      obtain ⟨w9, hw9⟩ : ∃ X, wo.alloc (.cells #[.int .i64 px, .int .i64 py] 32) = X := ⟨_, rfl⟩
      have hb9 : Below wo.heap.size wo w9 := by rw [← hw9]; exact bl_alloc bl_refl _
      rw [hw9] at hP0 ⊢
      have hK9 := hKo.below hb9
      have fhK := hK9.facts
      have fhP := hP0.facts
      clear hw9 e0 e1
      refine wp_region_ords [0, 1, 3] [(2, false), (4, false), (5, false), (6, true), (7, true), (8, false)] [9] (by kernel_rfl) (by kernel_rfl) (fun d _ _ _ _ h => by cases d <;> exact h) ?_
      simp only [List.map_cons, List.map_nil, List.getD_cons_zero, List.getD_cons_succ]
      repeat (go_big_quiet_step (fail))
      refine wpQuiet_nil ?_
      refine wpMid_run rfl (fun K hK => ?_)
      go_simp
      refine (sbars_any N _ (hN.below (by (repeat (first | exact bl_refl | assumption | (apply bl_then; assumption) | refine bl_alloc ?_ _ | refine bl_drew ?_ | refine bl_drewN ?_ _)))) lN1).mono ?_
      rintro e w10 ⟨v10, rfl, hC10, hb10⟩
      refine hK _ _ (by (repeat (first | exact bl_refl | assumption | (apply bl_then; assumption) | refine bl_alloc ?_ _ | refine bl_drew ?_ | refine bl_drewN ?_ _))) ?_
      clear hK K
      refine wpMid_run rfl (fun K hK => ?_)
      go_simp
      refine (qN _ _ (hC10.rd bc_len)).mono ?_
      rintro e w11 ⟨rfl, hb11⟩
      refine hK _ _ (by (repeat (first | exact bl_refl | assumption | (apply bl_then; assumption) | refine bl_alloc ?_ _ | refine bl_drew ?_ | refine bl_drewN ?_ _))) ?_
      clear hK K
      refine wpMid_run rfl (fun K hK => ?_)
      go_simp
      refine hK _ _ (by (repeat (first | exact bl_refl | assumption | (apply bl_then; assumption) | refine bl_alloc ?_ _ | refine bl_drew ?_ | refine bl_drewN ?_ _))) ?_
      clear hK K
      refine wpMid_take rfl ?_
      intro K hK
      go_big_quiet_op
      go_big_quiet_on
      refine wpMid_take rfl ?_
      intro K hK
      go_big_quiet_op
      go_big_quiet_on
      refine wpMid_run rfl (fun K hK => ?_)
      go_simp
      refine hK _ _ (by (repeat (first | exact bl_refl | assumption | (apply bl_then; assumption) | refine bl_alloc ?_ _ | refine bl_drew ?_ | refine bl_drewN ?_ _))) ?_
      clear hK K
      refine wpMid_nil ?_
      have hP11 := hP0.below (show Below w9.heap.size w9 w11 by (repeat (first | exact bl_refl | assumption | (apply bl_then; assumption) | refine bl_alloc ?_ _ | refine bl_drew ?_ | refine bl_drewN ?_ _)))
      have hb911 : Below wo.heap.size wo w11 := by (repeat (first | exact bl_refl | assumption | (apply bl_then; assumption) | refine bl_alloc ?_ _ | refine bl_drew ?_ | refine bl_drewN ?_ _))
      clear fhK fhP hb10 hb11 hC10
      have fhP := hP11.facts
      go_wp2
      refine wp_region_ords [0, 2] [(1, false), (3, false), (4, false), (5, true), (6, true), (7, false)] [8] (by kernel_rfl) (by kernel_rfl) (fun d _ _ _ _ h => by cases d <;> exact h) ?_
      simp only [List.map_cons, List.map_nil, List.getD_cons_zero, List.getD_cons_succ]
      repeat (go_big_quiet_step (fail))
      refine wpQuiet_nil ?_
      refine wpMid_run rfl (fun K hK => ?_)
      go_simp
      refine (sbars_any S _ (hSo.below (by (repeat (first | exact bl_refl | assumption | (apply bl_then; assumption) | refine bl_alloc ?_ _ | refine bl_drew ?_ | refine bl_drewN ?_ _)))) lS).mono ?_
      rintro e w12 ⟨v12, rfl, hC12, hb12⟩
      refine hK _ _ (by (repeat (first | exact bl_refl | assumption | (apply bl_then; assumption) | refine bl_alloc ?_ _ | refine bl_drew ?_ | refine bl_drewN ?_ _))) ?_
      clear hK K
      refine wpMid_run rfl (fun K hK => ?_)
      go_simp
      refine (qS _ _ (hC12.rd bc_len)).mono ?_
      rintro e w13 ⟨rfl, hb13⟩
      refine hK _ _ (by (repeat (first | exact bl_refl | assumption | (apply bl_then; assumption) | refine bl_alloc ?_ _ | refine bl_drew ?_ | refine bl_drewN ?_ _))) ?_
      clear hK K
      refine wpMid_run rfl (fun K hK => ?_)
      go_simp
      refine hK _ _ (by (repeat (first | exact bl_refl | assumption | (apply bl_then; assumption) | refine bl_alloc ?_ _ | refine bl_drew ?_ | refine bl_drewN ?_ _))) ?_
      clear hK K
      refine wpMid_take rfl ?_
      intro K hK
      go_big_quiet_op
      go_big_quiet_on
      refine wpMid_take rfl ?_
      intro K hK
      go_big_quiet_op
      go_big_quiet_on
      refine wpMid_run rfl (fun K hK => ?_)
      go_simp
      refine hK _ _ (by (repeat (first | exact bl_refl | assumption | (apply bl_then; assumption) | refine bl_alloc ?_ _ | refine bl_drew ?_ | refine bl_drewN ?_ _))) ?_
      clear hK K
      refine wpMid_nil ?_
      have hP13 := hP11.below (show Below w11.heap.size w11 w13 by (repeat (first | exact bl_refl | assumption | (apply bl_then; assumption) | refine bl_alloc ?_ _ | refine bl_drew ?_ | refine bl_drewN ?_ _)))
      have hb913 : Below wo.heap.size wo w13 := by (repeat (first | exact bl_refl | assumption | (apply bl_then; assumption) | refine bl_alloc ?_ _ | refine bl_drew ?_ | refine bl_drewN ?_ _))
      have fhT := (hTo.below hb913).facts
      clear fhP hb12 hb13 hC12 hb911
      have fhP := hP13.facts
      go_wp2_with fail
      refine (qM _ _ _ (hNo.below hb913) (hDo.below hb913)).mono ?_
      rintro e w14 ⟨rfl, hb14⟩
      go_wp2
      go_roundw
      case rel => exact ⟨k + 1, by omega, by go_num, bl_then (bl_then hb14 hb913) hbr⟩
      case measure => simp [intOf]; omega
    · obtain rfl : k = nk := by omega
      have fhT := hTo.facts
      clear hrL hk hlt dgN dgS ms hN8 hD8 hS8 hK8 hT8 hbw8 hbr
      rcases HRE.out with ⟨e0, W, hW, eL⟩ | ⟨e0, eL⟩
      · rw [e0, eL] at ru
        have M := mended_of HE.out hW
        obtain ⟨V, hV⟩ := res_at HE.out hW
        have hWl := hV.len
        have md := fun X z (q : SlK X z W) => made_any W X q
        rw [M.made.1, M.made.2] at md
        have lgE : legsR D = #[.int .i64 0, .int .i64 2, .int .i64 (legC D (holeK D) 2 : Nat), .int .i64 0, .int .i64 (legC D (holeK D) 4 : Nat)] := by
          unfold legsR legA
          rw [if_pos HED.out, leg_zero, M.one, M.three]
          rfl
        rw [lgE] at lg
        obtain ⟨y2, hy2⟩ : ∃ n, legC D (holeK D) 2 = n := ⟨_, rfl⟩
        obtain ⟨y4, hy4⟩ : ∃ n, legC D (holeK D) 4 = n := ⟨_, rfl⟩
        rw [hy2, hy4] at lg
        have hpl := M.parts
        obtain ⟨Ps, hPs⟩ : ∃ X, partsL D = X := ⟨_, rfl⟩
        rw [hPs] at pt hpl
        have HPL := Lib.hid hpl
        have hW100 : W.length ≤ 1000 := by have := HG2.out; omega
        clear hV hWl M lgE hy2 hy4 hPs hpl e0 eL hW
        go_wp2_with fail
        refine (ru _ _ _ hNo hDo).mono ?_
        rintro e w9 ⟨vR, rfl, hR9, hb9⟩
        obtain ⟨AR, cR, rfl⟩ := hR9.shape
        replace hR9 := hR9.rd kc_len
        have hK9 := hKo.below hb9
        have hS9 := hSo.below hb9
        have hbw9 := bl_then hb9 hbwo
        clear fhT hb9 hbwo hNo hDo hKo hSo hTo
        have fhK := hK9.facts
        go_wp2_with fail
        refine (sbars_any D _ (hD.below (by (repeat (first | exact bl_refl | assumption | (apply bl_then; assumption) | refine bl_alloc ?_ _ | refine bl_drew ?_ | refine bl_drewN ?_ _)))) lD).mono ?_
        rintro e w10 ⟨v10, rfl, hC10, hb10⟩
        go_wp2_with fail
        refine (lg _ _ (hC10.rd bc_len)).mono ?_
        rintro e w11 ⟨rfl, hb11⟩
        have hb911 : Below w9.heap.size w9 w11 := by (repeat (first | exact bl_refl | assumption | (apply bl_then; assumption) | refine bl_alloc ?_ _ | refine bl_drew ?_ | refine bl_drewN ?_ _))
        have hK11 := hK9.below hb911
        have hS11 := hS9.below hb911
        have hR11 := hR9.below hb911
        have hbw11 := bl_then hb911 hbw9
        clear fhK hb10 hb11 hb911 hC10 hK9 hS9 hR9 hbw9
        go_wp2_with (refine wpList_store_blk (Blk.new w11 62 zer5) rfl _ _ _ rfl rfl rfl (by rfl) (by kernel_rfl) (by kernel_rfl) ?_; intro w12 hL12 hc12; have hb12 : Below w11.heap.size w11 w12 := ((Chg.of_below (bl_alloc bl_refl _)).trans hc12).below (by simp) (Nat.le_refl _); have hK12 := hK11.below hb12; have fhK := hK12.facts)
        have hS12 := hS11.below hb12
        have hR12 := hR11.below hb12
        have hbw12 := bl_then hb12 hbw11
        clear hc12 hb12 hbw11 hK11 hS11 hR11
        go_wp2_with fail
        refine (sbars_any D _ (hD.below (by (repeat (first | exact bl_refl | assumption | (apply bl_then; assumption) | refine bl_alloc ?_ _ | refine bl_drew ?_ | refine bl_drewN ?_ _)))) lD).mono ?_
        rintro e w13 ⟨v13, rfl, hC13, hb13⟩
        go_wp2_with fail
        refine (pt _ _ (hC13.rd bc_len)).mono ?_
        rintro e w14 ⟨vP, rfl, hP14, hb14⟩
        obtain ⟨AP, cP, rfl⟩ := hP14.shape
        rw [HPL.out]
        have hb1214 : Below w12.heap.size w12 w14 := by (repeat (first | exact bl_refl | assumption | (apply bl_then; assumption) | refine bl_alloc ?_ _ | refine bl_drew ?_ | refine bl_drewN ?_ _))
        have hK14 := hK12.below hb1214
        have hS14 := hS12.below hb1214
        have hR14 := hR12.below hb1214
        have hL14 := hL12.below hb1214
        have hbw14 := bl_then hb1214 hbw12
        clear fhK hb13 hb14 hb1214 hC13 hP14 hK12 hS12 hR12 hL12 hbw12
        go_wp2_with (at_builtin; refine wpList_appKS (Own.empty kc 2 w14 _) (hR14.alloc _) rfl _ _ rfl rfl rfl (by simp; omega) (by simp) ?_; intro v15 w15 hA15 hg15)
        have hb15 : Below w14.heap.size w14 w15 := bl_grown hg15 (bl_alloc bl_refl _) fun k hk => by simp [Value.ownBlock] at hk; omega
        simp only [List.nil_append] at hA15
        go_wp2_with fail
        refine (md _ _ (hA15.rd kc_len)).mono ?_
        rintro e w16 ⟨v16, rfl, hM16, hb16⟩
        obtain ⟨A16, c16, rfl⟩ := hM16.shape
        replace hM16 := hM16.rd bc_len
        have hb1416 : Below w14.heap.size w14 w16 := by (repeat (first | exact bl_refl | assumption | (apply bl_then; assumption) | refine bl_alloc ?_ _ | refine bl_drew ?_ | refine bl_drewN ?_ _))
        have hK16 := hK14.below hb1416
        have hS16 := hS14.below hb1416
        have fL := (hL14.below hb1416).facts
        have hbw16 := bl_then hb1416 hbw14
        clear hb15 hb16 hb1416 hg15 hA15 hK14 hS14 hR14 hL14 hbw14
        go_wp2_with fail
        refine (nD _ _ hM16).mono ?_
        rintro e w17 ⟨rfl, hb17⟩
        clear fL
        go_wp2_with fail
        refine (sbars_any D _ (hM16.below (by (repeat (first | exact bl_refl | assumption | (apply bl_then; assumption) | refine bl_alloc ?_ _ | refine bl_drew ?_ | refine bl_drewN ?_ _)))) lD).mono ?_
        rintro e w18 ⟨v18, rfl, hC18, hb18⟩
        go_wp2_with fail
        refine (sbars_any S _ (hS16.below (by (repeat (first | exact bl_refl | assumption | (apply bl_then; assumption) | refine bl_alloc ?_ _ | refine bl_drew ?_ | refine bl_drewN ?_ _)))) lS).mono ?_
        rintro e w19 ⟨v19, rfl, hC19, hb19⟩
        go_wp2_with fail
        refine (me _ _ _ ((hC18.rd bc_len).below (by (repeat (first | exact bl_refl | assumption | (apply bl_then; assumption) | refine bl_alloc ?_ _ | refine bl_drew ?_ | refine bl_drewN ?_ _)))) (hC19.rd bc_len)).mono ?_
        rintro e w20 ⟨v20, rfl, hE20, hb20⟩
        obtain ⟨AE, cE, rfl⟩ := hE20.shape
        go_wp2_with fail
        refine (sbars_any D _ (hM16.below (by (repeat (first | exact bl_refl | assumption | (apply bl_then; assumption) | refine bl_alloc ?_ _ | refine bl_drew ?_ | refine bl_drewN ?_ _)))) lD).mono ?_
        rintro e w21 ⟨v21, rfl, hC21, hb21⟩
        go_wp2_with fail
        refine (sbars_any S _ (hS16.below (by (repeat (first | exact bl_refl | assumption | (apply bl_then; assumption) | refine bl_alloc ?_ _ | refine bl_drew ?_ | refine bl_drewN ?_ _)))) lS).mono ?_
        rintro e w22 ⟨v22, rfl, hC22, hb22⟩
        go_wp2_with fail
        refine (un _ _ _ ((hC21.rd bc_len).below (by (repeat (first | exact bl_refl | assumption | (apply bl_then; assumption) | refine bl_alloc ?_ _ | refine bl_drew ?_ | refine bl_drewN ?_ _)))) (hC22.rd bc_len)).mono ?_
        rintro e w23 ⟨v23, rfl, hU23, hb23⟩
        replace hU23 := hU23.rd bc_len
        have hK23 := hK16.below (show Below w16.heap.size w16 w23 by (repeat (first | exact bl_refl | assumption | (apply bl_then; assumption) | refine bl_alloc ?_ _ | refine bl_drew ?_ | refine bl_drewN ?_ _)))
        have hbw23 : Below w.heap.size w w23 := by (repeat (first | exact bl_refl | assumption | (apply bl_then; assumption) | refine bl_alloc ?_ _ | refine bl_drew ?_ | refine bl_drewN ?_ _))
        clear hb17 hb18 hb19 hb20 hb21 hb22 hb23 hC18 hC19 hE20 hC21 hC22 hK16 hS16 hM16 hbw16
        have fhK := hK23.facts
        go_wp2_with fail
        refine (sbars_any N _ (hN.below (by (repeat (first | exact bl_refl | assumption | (apply bl_then; assumption) | refine bl_alloc ?_ _ | refine bl_drew ?_ | refine bl_drewN ?_ _)))) lN1).mono ?_
        rintro e w24 ⟨v24, rfl, hC24, hb24⟩
        go_wp2_with fail
        refine (ct _ _ (hC24.rd bc_len)).mono ?_
        rintro e w25 ⟨rfl, hb25⟩
        have hb2325 : Below w23.heap.size w23 w25 := by (repeat (first | exact bl_refl | assumption | (apply bl_then; assumption) | refine bl_alloc ?_ _ | refine bl_drew ?_ | refine bl_drewN ?_ _))
        have hK25 := hK23.below hb2325
        have hU25 := hU23.below hb2325
        have hbw25 := bl_then hb2325 hbw23
        clear fhK hb24 hb25 hb2325 hC24 hK23 hU23 hbw23
        go_wp2_with (refine wpList_store_blk (Blk.new w25 69 zer5) rfl _ _ _ rfl rfl rfl (by rfl) (by kernel_rfl) (by kernel_rfl) ?_; intro w26 hX26 hc26)
        have hb26 : Below w25.heap.size w25 w26 := ((Chg.of_below (bl_alloc bl_refl _)).trans hc26).below (by simp) (Nat.le_refl _)
        have hK26 := hK25.below hb26
        have hU26 := hU25.below hb26
        have hbw26 := bl_then hb26 hbw25
        clear hc26 hb26 hbw25 hK25 hU25
        go_wp2_with fail
        refine (sbars_any N _ (hU26.below (by (repeat (first | exact bl_refl | assumption | (apply bl_then; assumption) | refine bl_alloc ?_ _ | refine bl_drew ?_ | refine bl_drewN ?_ _)))) lN1).mono ?_
        rintro e w27 ⟨v27, rfl, hC27, hb27⟩
        go_wp2_with fail
        refine (ct _ _ (hC27.rd bc_len)).mono ?_
        rintro e w28 ⟨rfl, hb28⟩
        have hb2628 : Below w26.heap.size w26 w28 := by (repeat (first | exact bl_refl | assumption | (apply bl_then; assumption) | refine bl_alloc ?_ _ | refine bl_drew ?_ | refine bl_drewN ?_ _))
        have hK28 := hK26.below hb2628
        have hU28 := hU26.below hb2628
        have hX28 := hX26.below hb2628
        have hbw28 := bl_then hb2628 hbw26
        clear hb27 hb28 hb2628 hC27 hK26 hU26 hX26 hbw26
        go_wp2_with (refine wpList_store_blk (Blk.new w28 69 zer5) rfl _ _ _ rfl rfl rfl (by rfl) (by kernel_rfl) (by kernel_rfl) ?_; intro w29 hY29 hc29; have hb29 : Below w28.heap.size w28 w29 := ((Chg.of_below (bl_alloc bl_refl _)).trans hc29).below (by simp) (Nat.le_refl _); have fhK := (hK28.below hb29).facts)
        have hX29 := hX28.below hb29
        have hU29 := hU28.below hb29
        have hbw29 := bl_then hb29 hbw28
        clear hc29 hb29 hbw28 hK28 hU28 hX28
        go_wp2_with fail
        refine (aSame N N _ hU29 (hN.below hbw29) rfl).mono ?_
        rintro e w30 ⟨rfl, hb30⟩
        replace hX29 := hX29.below (show Below _ _ w30 by (repeat (first | exact bl_refl | assumption | (apply bl_then; assumption) | refine bl_alloc ?_ _ | refine bl_drew ?_ | refine bl_drewN ?_ _)))
        replace fhX29 := hX29.facts
        replace hY29 := hY29.below (show Below _ _ w30 by (repeat (first | exact bl_refl | assumption | (apply bl_then; assumption) | refine bl_alloc ?_ _ | refine bl_drew ?_ | refine bl_drewN ?_ _)))
        replace fhY29 := hY29.facts
        go_wp2_with fail
        refine (shuttleHole_any _).mono ?_
        rintro e w31 ⟨rfl, hb31⟩
        go_wp2
        go_ret
        exact ⟨rfl, by (repeat (first | exact bl_refl | assumption | (apply bl_then; assumption) | refine bl_alloc ?_ _ | refine bl_drew ?_ | refine bl_drewN ?_ _))⟩
      · rw [eL] at ru
        obtain ⟨E, hEE⟩ : ∃ E, runE N D = E := ⟨_, rfl⟩
        rw [hEE] at ru e0
        clear hEE eL
        rcases e0 with rfl | rfl
        · go_wp2_with fail
          refine (ru _ _ _ hNo hDo).mono ?_
          rintro e w9 ⟨vR, rfl, hR9, hb9⟩
          go_wp2_with fail
          refine (shuttleHole_any _).mono ?_
          rintro e w10 ⟨rfl, hb10⟩
          go_wp2
          go_ret
          exact ⟨rfl, by (repeat (first | exact bl_refl | assumption | (apply bl_then; assumption) | refine bl_alloc ?_ _ | refine bl_drew ?_ | refine bl_drewN ?_ _))⟩
        · go_wp2_with fail
          refine (ru _ _ _ hNo hDo).mono ?_
          rintro e w9 ⟨vR, rfl, hR9, hb9⟩
          go_wp2_with fail
          refine (shuttleHole_any _).mono ?_
          rintro e w10 ⟨rfl, hb10⟩
          go_wp2
          go_ret
          exact ⟨rfl, by (repeat (first | exact bl_refl | assumption | (apply bl_then; assumption) | refine bl_alloc ?_ _ | refine bl_drew ?_ | refine bl_drewN ?_ _))⟩
end Go.Proofs.YtpompeancmonbaaGreat

/- TopCorkApart: the law, walked. Conditions: none. -/
import Derived.Test.YtpoaomdpcoaolaaC19
import Derived.Test.YtpoaomdpcoaolaaPtaJ
import Derived.Test.YtpoaomdpcoaolaaC18
namespace Go.Proofs.Ytpoaomdpcoaolaa
open Go.RowKit Go.ChangeMaps
set_option maxHeartbeats 4000000
set_option maxRecDepth 100000

attribute [local go_sem] Oper.semAt_some
theorem nums_move {l l' : List Bar} {kn bn mn pn : Nat} {hn : Int} (h : Nums l kn bn mn pn hn) (I : Inv l l') (hE' : netE l' = 0) : Nums l' kn bn mn pn hn := by
  obtain ⟨k2, b2, m2, p2, n2, h2⟩ := nums_of hE'
  have e1 : k2 = kn := by rw [← h2.knots, I.knots, h.knots]
  have e2 : b2 = bn := by rw [← h2.bars, I.len, h.bars]
  have e3 : m2 = mn := by rw [← h2.meshes, I.meshes, h.meshes]
  have e4 : p2 = pn := by rw [← h2.parts, I.parts, h.parts]
  have e5 : n2 = hn := by
    have q1 := h2.holes
    have q2 := h.holes
    omega
  subst e1 e2 e3 e4 e5
  exact h2
theorem near_net {l : List Bar} (hE : netE l = 0) (h : ∀ b ∈ l, nearP b) : NearL 200 l := fun b hb => by
  have h1 := netE_bars hE b hb
  have h2 := ((netE_ok hE).ok b hb).2.2
  have h3 : knotE b.1 b.2.1 = 0 := by
    unfold barE at h1
    split at h1
    · rename_i q; exact absurd h1 q
    · rename_i q; exact Decidable.byContradiction fun e => q e
  exact ⟨(h b hb).1, (h b hb).2, h2, (knotE_zero h3).2.2.2.2⟩
theorem kn_zero : knotE 1000 1000 = 0 := by decide
theorem topCorkApart_any (a b : List Bar) (w : World) {v u : Value} (h : SlB w v a) (h' : SlB w u b) : Calls Try.prog 3 #[v, u] w (RV w (.bool true)) := by
  have na := fun W (hb : Below w.heap.size w W) => cnet_any a W (h.below hb)
  have nb := fun W (hb : Below w.heap.size w W) => cnet_any b W (h'.below hb)
  by_cases hA : cnetB a 20 = true
  rotate_left
  · rw [show cnetB a 20 = false by simpa using hA] at na
    clear hA
    go_enter Try.func3, Try.ntmps3
    go_wp2_with fail
    refine (na _ (by (repeat (first | exact bl_refl | assumption | (apply bl_then; assumption) | refine bl_alloc ?_ _ | refine bl_drew ?_ | refine bl_drewN ?_ _)))).mono ?_
    rintro e w1 ⟨rfl, hb1⟩
    go_wp2_with fail
    refine (corkMesh_any _).mono ?_
    rintro e w2 ⟨rfl, hb2⟩
    go_wp2
    go_ret
    exact ⟨rfl, by (repeat (first | exact bl_refl | assumption | (apply bl_then; assumption) | refine bl_alloc ?_ _ | refine bl_drew ?_ | refine bl_drewN ?_ _))⟩
  rw [hA] at na
  by_cases hB : cnetB b 20 = true
  rotate_left
  · rw [show cnetB b 20 = false by simpa using hB] at nb
    clear hA hB
    go_enter Try.func3, Try.ntmps3
    go_wp2_with fail
    refine (na _ (by (repeat (first | exact bl_refl | assumption | (apply bl_then; assumption) | refine bl_alloc ?_ _ | refine bl_drew ?_ | refine bl_drewN ?_ _)))).mono ?_
    rintro e w1 ⟨rfl, hb1⟩
    go_wp2_with fail
    refine (nb _ (by (repeat (first | exact bl_refl | assumption | (apply bl_then; assumption) | refine bl_alloc ?_ _ | refine bl_drew ?_ | refine bl_drewN ?_ _)))).mono ?_
    rintro e w2 ⟨rfl, hb2⟩
    go_wp2_with fail
    refine (corkMesh_any _).mono ?_
    rintro e w3 ⟨rfl, hb3⟩
    go_wp2
    go_ret
    exact ⟨rfl, by (repeat (first | exact bl_refl | assumption | (apply bl_then; assumption) | refine bl_alloc ?_ _ | refine bl_drew ?_ | refine bl_drewN ?_ _))⟩
  rw [hB] at nb
  obtain ⟨a1, a2, a3⟩ := cnetB_true.1 hA
  obtain ⟨b1, b2, b3⟩ := cnetB_true.1 hB
  have nA := near_net a2 a3
  have nB := near_net b2 b3
  have okA := netE_ok a2
  have okB := netE_ok b2
  have nF : NearL (200 + 1000) (b.map (shB (1000, 1000))) := nB.shift (by simp) (by simp) (by simp)
  have fE : netE (b.map (shB (1000, 1000))) = 0 := nF.net (by omega) (shift_sorted okB.sorted _) (by rw [List.length_map]; omega)
  have hFar := near_apart nA nB
  have uE : netE (setB (a ++ b.map (shB (1000, 1000)))) = 0 := netE_union a2 fE (by rw [List.length_map]; omega)
  have vE : netE (setB (a ++ b)) = 0 := netE_union a2 b2 (by omega)
  obtain ⟨ka, ba, ma, pa, ha, hNa⟩ := nums_of a2
  obtain ⟨kb, bb, mb, pb, hb_, hNb⟩ := nums_of b2
  have hNf := nums_move hNb (inv_shift okB.sorted nB.sided (1000, 1000)) fE
  have cF := hFar.cnt a2 fE uE hNa hNf
  have mF := fun W z (q : SlB W z b) => aShift b 1000 1000 W q b2 kn_zero (nF.inn (by omega))
  have mU := fun W z z' (q : SlB W z a) (q' : SlB W z' (b.map (shB (1000, 1000)))) => aUnion a _ W q q' a2 fE (by rw [List.length_map]; omega)
  have mV := fun W z z' (q : SlB W z a) (q' : SlB W z' b) => aUnion a b W q q' a2 b2 (by omega)
  have la : a.length ≤ 100000 := by omega
  have lb : b.length ≤ 100000 := by omega
  have lf : (b.map (shB (1000, 1000))).length ≤ 100000 := by rw [List.length_map]; omega
  have lu : (setB (a ++ b.map (shB (1000, 1000)))).length ≤ 100000 := by have := setB_len (a ++ b.map (shB (1000, 1000))); rw [List.length_append, List.length_map] at this; omega
  have lv : (setB (a ++ b)).length ≤ 100000 := by have := setB_len (a ++ b); rw [List.length_append] at this; omega
  have cA := fun W z (q : SlB W z a) => ccount_any a W q a2 la
  have cB := fun W z (q : SlB W z b) => ccount_any b W q b2 lb
  have cU := fun W z (q : SlB W z (setB (a ++ b.map (shB (1000, 1000))))) => ccount_any _ W q uE lu
  rw [hNa.cnt] at cA
  rw [hNb.cnt] at cB
  rw [cF] at cU
  have kA := fun W z (q : SlB W z a) => apiKnots_any a W q
  have kB := fun W z (q : SlB W z b) => apiKnots_any b W q
  have kV := fun W z (q : SlB W z (setB (a ++ b))) => apiKnots_any _ W q
  rw [a2, only_ok] at kA
  rw [b2, only_ok] at kB
  rw [vE, only_ok] at kV
  have x1 := hNa.kle
  have x2 := hNa.mle
  have x3 := hNa.ple
  have x4 := hNa.holes
  have x5 := hNa.pos
  have x6 := hNa.bars
  have y1 := hNb.kle
  have y2 := hNb.mle
  have y3 := hNb.ple
  have y4 := hNb.holes
  have y5 := hNb.pos
  have y6 := hNb.bars
  have z1 : ha ≤ 100 := by omega
  have z2 : hb_ ≤ 100 := by omega
  have z3 : ba ≤ 20 := by omega
  have z4 : bb ≤ 20 := by omega
  have both := knots_both (a := a) (b := b)
  have hkl := hNa.knots
  have hll := hNb.knots
  have hcl := comK_le (holeK a) (holeK b)
  rw [hkl, hll] at both
  rw [hkl] at hcl
  obtain ⟨nm, hnm⟩ : ∃ n, (holeK (setB (a ++ b))).length = n := ⟨_, rfl⟩
  obtain ⟨cm, hcm⟩ : ∃ n, comK (holeK a) (holeK b) = n := ⟨_, rfl⟩
  rw [hnm, hcm] at both
  rw [hcm] at hcl
  have HNM := Lib.hid hnm
  have HCM := Lib.hid hcm
  have HKL := Lib.hid hkl
  have HLL := Lib.hid hll
  have hin : ∀ k ∈ holeK a, hask (holeK (setB (a ++ b))) k = true := fun k hk => by unfold hask; rw [decide_eq_true_eq, FarN.kmem]; exact .inl hk
  have HIN := Lib.hid hin
  obtain ⟨R, hR⟩ : ∃ R, b.map (shB (1000, 1000)) = R := ⟨_, rfl⟩
  rw [hR] at mF mU lf lu cU
  obtain ⟨U, hU⟩ : ∃ X, setB (a ++ R) = X := ⟨_, rfl⟩
  rw [hU] at mU lu cU
  obtain ⟨V, hV⟩ : ∃ R, setB (a ++ b) = R := ⟨_, rfl⟩
  rw [hV] at mV lv kV HNM HIN
  obtain ⟨K, hK⟩ : ∃ R, holeK a = R := ⟨_, rfl⟩
  rw [hK] at kA HCM HKL HIN
  obtain ⟨L, hL⟩ : ∃ R, holeK b = R := ⟨_, rfl⟩
  rw [hL] at kB HCM HLL
  obtain ⟨M, hM⟩ : ∃ R, holeK V = R := ⟨_, rfl⟩
  rw [hM] at kV HNM HIN
  have t9 : ((nm : Int) == ka + kb - cm) = true := by rw [beq_iff_eq]; omega
  have z5 : nm ≤ 80 := by omega
  clear hA hB a1 a2 a3 b1 b2 b3 nA nB okA okB nF fE hFar uE vE hNa hNb hNf cF x4 x6 y4 y6 hkl hll hnm hcm hin hR hU hV hK hL hM both
  go_enter Try.func3, Try.ntmps3
  go_wp2_with fail
  refine (na _ (by (repeat (first | exact bl_refl | assumption | (apply bl_then; assumption) | refine bl_alloc ?_ _ | refine bl_drew ?_ | refine bl_drewN ?_ _)))).mono ?_
  rintro e w1 ⟨rfl, hb1⟩
  go_wp2_with fail
  refine (nb _ (by (repeat (first | exact bl_refl | assumption | (apply bl_then; assumption) | refine bl_alloc ?_ _ | refine bl_drew ?_ | refine bl_drewN ?_ _)))).mono ?_
  rintro e w2 ⟨rfl, hb2⟩
  go_wp2_with fail
  refine (ccopy_any b _ (h'.below (by (repeat (first | exact bl_refl | assumption | (apply bl_then; assumption) | refine bl_alloc ?_ _ | refine bl_drew ?_ | refine bl_drewN ?_ _)))) lb).mono ?_
  rintro e w3 ⟨v3, rfl, hC3, hb3⟩
  go_wp2_with fail
  refine (mF _ _ (hC3.rd bc_len)).mono ?_
  rintro e w4 ⟨v4, rfl, hR4, hb4⟩
  go_wp2_with fail
  refine (ccopy_any a _ (h.below (by (repeat (first | exact bl_refl | assumption | (apply bl_then; assumption) | refine bl_alloc ?_ _ | refine bl_drew ?_ | refine bl_drewN ?_ _)))) la).mono ?_
  rintro e w5 ⟨v5, rfl, hC5, hb5⟩
  go_wp2_with fail
  refine (ccopy_any R _ ((hR4.rd bc_len).below (by (repeat (first | exact bl_refl | assumption | (apply bl_then; assumption) | refine bl_alloc ?_ _ | refine bl_drew ?_ | refine bl_drewN ?_ _)))) lf).mono ?_
  rintro e w6 ⟨v6, rfl, hC6, hb6⟩
  go_wp2_with fail
  refine (mU _ _ _ ((hC5.rd bc_len).below (by (repeat (first | exact bl_refl | assumption | (apply bl_then; assumption) | refine bl_alloc ?_ _ | refine bl_drew ?_ | refine bl_drewN ?_ _)))) (hC6.rd bc_len)).mono ?_
  rintro e w7 ⟨v7, rfl, hU7, hb7⟩
  replace hU7 := hU7.rd bc_len
  go_wp2_with fail
  refine (cA _ _ (h.below (by (repeat (first | exact bl_refl | assumption | (apply bl_then; assumption) | refine bl_alloc ?_ _ | refine bl_drew ?_ | refine bl_drewN ?_ _))))).mono ?_
  rintro e w8 ⟨rfl, hb8⟩
  have hU8 := hU7.below hb8
  have hbw8 : Below w.heap.size w w8 := by (repeat (first | exact bl_refl | assumption | (apply bl_then; assumption) | refine bl_alloc ?_ _ | refine bl_drew ?_ | refine bl_drewN ?_ _))
  clear hb1 hb2 hb3 hb4 hb5 hb6 hb7 hb8 hC3 hR4 hC5 hC6 hU7 na nb
  go_wp2_with (refine wpList_store_blk (Blk.new w8 33 zer5) rfl _ _ _ rfl rfl rfl (by rfl) (by kernel_rfl) (by kernel_rfl) ?_; intro w9 hX9 hc9)
  have hb9 : Below w8.heap.size w8 w9 := ((Chg.of_below (bl_alloc bl_refl _)).trans hc9).below (by simp) (Nat.le_refl _)
  have hbw9 := bl_then hb9 hbw8
  have hU9 := hU8.below hb9
  clear hc9 hb9 hbw8 hU8
  go_wp2_with fail
  refine (cB _ _ (h'.below (by (repeat (first | exact bl_refl | assumption | (apply bl_then; assumption) | refine bl_alloc ?_ _ | refine bl_drew ?_ | refine bl_drewN ?_ _))))).mono ?_
  rintro e w10 ⟨rfl, hb10⟩
  have hX10 := hX9.below hb10
  have hU10 := hU9.below hb10
  have hbw10 := bl_then hb10 hbw9
  clear hb10 hbw9 hU9 hX9
  go_wp2_with (refine wpList_store_blk (Blk.new w10 33 zer5) rfl _ _ _ rfl rfl rfl (by rfl) (by kernel_rfl) (by kernel_rfl) ?_; intro w11 hY11 hc11)
  have hb11 : Below w10.heap.size w10 w11 := ((Chg.of_below (bl_alloc bl_refl _)).trans hc11).below (by simp) (Nat.le_refl _)
  have hX11 := hX10.below hb11
  have hU11 := hU10.below hb11
  have hbw11 := bl_then hb11 hbw10
  clear hc11 hb11 hbw10 hU10 hX10
  go_wp2_with fail
  refine (cU _ _ (hU11.below (by (repeat (first | exact bl_refl | assumption | (apply bl_then; assumption) | refine bl_alloc ?_ _ | refine bl_drew ?_ | refine bl_drewN ?_ _))))).mono ?_
  rintro e w12 ⟨rfl, hb12⟩
  have hX12 := hX11.below hb12
  have hY12 := hY11.below hb12
  have hbw12 := bl_then hb12 hbw11
  clear hb12 hbw11 hU11 hX11 hY11
  go_wp2_with (refine wpList_store_blk (Blk.new w12 33 zer5) rfl _ _ _ rfl rfl rfl (by rfl) (by kernel_rfl) (by kernel_rfl) ?_; intro w13 hZ13 hc13; have hb13 : Below w12.heap.size w12 w13 := ((Chg.of_below (bl_alloc bl_refl _)).trans hc13).below (by simp) (Nat.le_refl _); have fX := (hX12.below hb13).facts; have fY := (hY12.below hb13).facts; have fZ := hZ13.facts; have hbw13 := bl_then hb13 hbw12; clear hc13)
  clear fX fY fZ hX12 hY12 hZ13 hb13 hbw12
  go_wp2_with fail
  refine (ccopy_any a _ (h.below (by (repeat (first | exact bl_refl | assumption | (apply bl_then; assumption) | refine bl_alloc ?_ _ | refine bl_drew ?_ | refine bl_drewN ?_ _)))) la).mono ?_
  rintro e w14 ⟨v14, rfl, hC14, hb14⟩
  go_wp2_with fail
  refine (kA _ _ (hC14.rd bc_len)).mono ?_
  rintro e w15 ⟨v15, rfl, hK15, hb15⟩
  go_wp2_with fail
  refine (ccopy_any b _ (h'.below (by (repeat (first | exact bl_refl | assumption | (apply bl_then; assumption) | refine bl_alloc ?_ _ | refine bl_drew ?_ | refine bl_drewN ?_ _)))) lb).mono ?_
  rintro e w16 ⟨v16, rfl, hC16, hb16⟩
  go_wp2_with fail
  refine (kB _ _ (hC16.rd bc_len)).mono ?_
  rintro e w17 ⟨v17, rfl, hL17, hb17⟩
  go_wp2_with fail
  refine (ccopy_any a _ (h.below (by (repeat (first | exact bl_refl | assumption | (apply bl_then; assumption) | refine bl_alloc ?_ _ | refine bl_drew ?_ | refine bl_drewN ?_ _)))) la).mono ?_
  rintro e w18 ⟨v18, rfl, hC18, hb18⟩
  go_wp2_with fail
  refine (ccopy_any b _ (h'.below (by (repeat (first | exact bl_refl | assumption | (apply bl_then; assumption) | refine bl_alloc ?_ _ | refine bl_drew ?_ | refine bl_drewN ?_ _)))) lb).mono ?_
  rintro e w19 ⟨v19, rfl, hC19, hb19⟩
  go_wp2_with fail
  refine (mV _ _ _ ((hC18.rd bc_len).below (by (repeat (first | exact bl_refl | assumption | (apply bl_then; assumption) | refine bl_alloc ?_ _ | refine bl_drew ?_ | refine bl_drewN ?_ _)))) (hC19.rd bc_len)).mono ?_
  rintro e w20 ⟨v20, rfl, hV20, hb20⟩
  go_wp2_with fail
  refine (ccopy_any V _ (hV20.rd bc_len) lv).mono ?_
  rintro e w21 ⟨v21, rfl, hC21, hb21⟩
  go_wp2_with fail
  refine (kV _ _ (hC21.rd bc_len)).mono ?_
  rintro e w22 ⟨v22, rfl, hM22, hb22⟩
  obtain ⟨AK, cK, rfl⟩ := hK15.shape
  obtain ⟨AL, cL, rfl⟩ := hL17.shape
  obtain ⟨AM, cM, rfl⟩ := hM22.shape
  have hK22 := (hK15.rd kc_len).below (show Below w15.heap.size w15 w22 by (repeat (first | exact bl_refl | assumption | (apply bl_then; assumption) | refine bl_alloc ?_ _ | refine bl_drew ?_ | refine bl_drewN ?_ _)))
  have hL22 := (hL17.rd kc_len).below (show Below w17.heap.size w17 w22 by (repeat (first | exact bl_refl | assumption | (apply bl_then; assumption) | refine bl_alloc ?_ _ | refine bl_drew ?_ | refine bl_drewN ?_ _)))
  replace hM22 := hM22.rd kc_len
  rw [HKL.out] at hK22
  rw [HLL.out] at hL22
  rw [HNM.out] at hM22
  rw [HKL.out, HLL.out, HNM.out]
  have hbw22 : Below w.heap.size w w22 := by (repeat (first | exact bl_refl | assumption | (apply bl_then; assumption) | refine bl_alloc ?_ _ | refine bl_drew ?_ | refine bl_drewN ?_ _))
  clear hb14 hb15 hb16 hb17 hb18 hb19 hb20 hb21 hb22 hC14 hC16 hC18 hC19 hV20 hC21 hK15 hL17 hbw13
  obtain ⟨AK', cK', he, _, _, hrK⟩ := id hK22
  obtain ⟨rfl, hzz, rfl⟩ : AK = AK' ∧ ka = K.length ∧ cK = cK' := by simpa using he
  clear hzz he
  go_wp2
  go_loopw [23, 157] (fun s23 i wr => ∃ k : Nat, k ≤ ka ∧ i = .int .i64 k ∧ s23 = .int .i64 ((comK (K.take k) L : Nat) : Int) ∧ Below w22.heap.size w22 wr) (fun _ i _ => ka - (intOf i).toNat)
  case atStart => exact ⟨0, Nat.zero_le _, rfl, rfl, by (repeat (first | exact bl_refl | assumption | (apply bl_then; assumption) | refine bl_alloc ?_ _ | refine bl_drew ?_ | refine bl_drewN ?_ _))⟩
  case round =>
    obtain ⟨k, hk, rfl, rfl, hbr⟩ := hrel
    obtain ⟨wo, rfl⟩ : ∃ x, x = wr := ⟨_, rfl⟩
    have hbwo := bl_then hbr hbw22
    by_cases hlt : k < ka
    · have hkl : k < K.length := by rw [HKL.out]; exact hlt
      have hro := hrK.below hbr
      have hLo := hL22.below hbr
      have hMo := hM22.below hbr
      obtain ⟨g, off, rfl, hg, e0, e1⟩ := hro.knot hkl
      have HC := Lib.hid (comK_take (L := L) hkl)
      have hcle := comK_le (K.take k) L
      rw [List.length_take] at hcle
      obtain ⟨⟨px, py⟩, hx⟩ : ∃ z, K[k] = z := ⟨_, rfl⟩
      have HI : Hid (hask M (px, py) = true) := by rw [← hx]; exact HIN.out _ (List.getElem_mem hkl)
      rw [hx] at e0 e1 HC
      simp only at e0 e1
      obtain ⟨cc, hcc⟩ : ∃ n, comK (K.take k) L = n := ⟨_, rfl⟩
      rw [hcc] at HC hcle ⊢
      have hcc80 : cc ≤ 80 := by omega
      have hkM := fun W z (q : SlK W z M) => rhask_any M px py W q
      rw [HI.out] at hkM
      clear hx hcc hcle
      have hN0 := Blk.new wo 30 #[.int .i64 px, .int .i64 py]
      go_upto_region 20 with fail
      obtain ⟨w23, hw23⟩ : ∃ X, wo.alloc (.cells #[.int .i64 px, .int .i64 py] 30) = X := ⟨_, rfl⟩
      have hb23 : Below wo.heap.size wo w23 := by rw [← hw23]; exact bl_alloc bl_refl _
      rw [hw23] at hN0 ⊢
      have fhN0 := hN0.facts
      clear hw23 e0 e1 hro
      by_cases hp : (px, py) ∈ L
      · have hkL := fun W z (q : SlK W z L) => rhask_any L px py W q
        rw [show hask L (px, py) = true by unfold hask; exact decide_eq_true hp] at hkL
        rw [if_pos hp] at HC
        clear hp
        go_wp2_with fail
        refine (hkL _ _ (hLo.below (by (repeat (first | exact bl_refl | assumption | (apply bl_then; assumption) | refine bl_alloc ?_ _ | refine bl_drew ?_ | refine bl_drewN ?_ _))))).mono ?_
        rintro e w24 ⟨rfl, hb24⟩
        replace hN0 := hN0.below (show Below _ _ w24 by (repeat (first | exact bl_refl | assumption | (apply bl_then; assumption) | refine bl_alloc ?_ _ | refine bl_drew ?_ | refine bl_drewN ?_ _)))
        replace fhN0 := hN0.facts
        go_wp2_with fail
        refine (hkM _ _ (hMo.below (by (repeat (first | exact bl_refl | assumption | (apply bl_then; assumption) | refine bl_alloc ?_ _ | refine bl_drew ?_ | refine bl_drewN ?_ _))))).mono ?_
        rintro e w25 ⟨rfl, hb25⟩
        go_wp2
        go_roundw
        case rel => exact ⟨k + 1, by omega, by go_num, by rw [HC.out]; go_num, bl_then (show Below wo.heap.size wo w25 by (repeat (first | exact bl_refl | assumption | (apply bl_then; assumption) | refine bl_alloc ?_ _ | refine bl_drew ?_ | refine bl_drewN ?_ _))) hbr⟩
        case measure => simp [intOf]; omega
      · have hkL := fun W z (q : SlK W z L) => rhask_any L px py W q
        rw [show hask L (px, py) = false by unfold hask; exact decide_eq_false hp] at hkL
        rw [if_neg hp] at HC
        clear hp
        go_wp2_with fail
        refine (hkL _ _ (hLo.below (by (repeat (first | exact bl_refl | assumption | (apply bl_then; assumption) | refine bl_alloc ?_ _ | refine bl_drew ?_ | refine bl_drewN ?_ _))))).mono ?_
        rintro e w24 ⟨rfl, hb24⟩
        replace hN0 := hN0.below (show Below _ _ w24 by (repeat (first | exact bl_refl | assumption | (apply bl_then; assumption) | refine bl_alloc ?_ _ | refine bl_drew ?_ | refine bl_drewN ?_ _)))
        replace fhN0 := hN0.facts
        go_wp2_with fail
        refine (hkM _ _ (hMo.below (by (repeat (first | exact bl_refl | assumption | (apply bl_then; assumption) | refine bl_alloc ?_ _ | refine bl_drew ?_ | refine bl_drewN ?_ _))))).mono ?_
        rintro e w25 ⟨rfl, hb25⟩
        go_wp2
        go_roundw
        case rel => exact ⟨k + 1, by omega, by go_num, by rw [HC.out]; go_num, bl_then (show Below wo.heap.size wo w25 by (repeat (first | exact bl_refl | assumption | (apply bl_then; assumption) | refine bl_alloc ?_ _ | refine bl_drew ?_ | refine bl_drewN ?_ _))) hbr⟩
        case measure => simp [intOf]; omega
    · obtain rfl : k = ka := by omega
      have HT : Hid (comK (K.take k) L = cm) := by unfold Hid; rw [← HCM.out, List.take_of_length_le (by rw [HKL.out]; omega)]
      rw [HT.out]
      clear hlt hk
      go_wp2_with fail
      refine (corkMesh_any _).mono ?_
      rintro e w24 ⟨rfl, hb24⟩
      go_wp2
      go_ret
      exact ⟨rfl, by (repeat (first | exact bl_refl | assumption | (apply bl_then; assumption) | refine bl_alloc ?_ _ | refine bl_drew ?_ | refine bl_drewN ?_ _))⟩
end Go.Proofs.Ytpoaomdpcoaolaa

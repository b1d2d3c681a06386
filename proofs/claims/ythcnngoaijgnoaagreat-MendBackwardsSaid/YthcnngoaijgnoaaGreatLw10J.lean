/- The statement MendBackwards, walked. Conditions: slices that read as lists. -/
import Derived.Test.YthcnngoaijgnoaaGreatValJ
import Derived.Test.YthcnngoaijgnoaaGreatPpeJ
import Derived.Test.YthcnngoaijgnoaaGreatK11
import Derived.Test.YthcnngoaijgnoaaGreatHwJ
namespace Go.Proofs.YthcnngoaijgnoaaGreat
open Go.RowKit Go.ChangeMaps
set_option maxHeartbeats 16000000
set_option maxRecDepth 100000

theorem turned_any {v : Value} (l : List Knot) (w : World) (h : SlK w v l) (hlen : l.length ≤ 1000) : Calls Tryz.prog 69 #[v] w (RK w l.reverse) := by
  obtain ⟨A, c, rfl, hlc, hcm, h⟩ := h
  go_enter Tryz.func69, Tryz.ntmps69
  go_wp2
  go_loopw [3, 8] (fun o i wr => ∃ k : Nat, k ≤ l.length ∧ i = .int .i64 k ∧ OwK w.heap.size wr o (l.take k).reverse ∧ Below w.heap.size w wr) (fun _ i _ => l.length - (intOf i).toNat)
  case atStart => exact ⟨0, Nat.zero_le _, rfl, Own.nil_, by (repeat (first | exact bl_refl | assumption | (apply bl_then; assumption) | refine bl_alloc ?_ _ | refine bl_drew ?_ | refine bl_drewN ?_ _))⟩
  case round =>
    obtain ⟨k, hk, rfl, hown, hbw⟩ := hrel
    by_cases hlt : k < l.length
    · have hr := h.below hbw
      obtain ⟨b, off, rfl, hb, e0, e1⟩ := hr.knot hlt
      have HT : Hid ((l.take (k + 1)).reverse = [l[k]] ++ (l.take k).reverse) := by unfold Hid; rw [List.take_succ_eq_append_getElem hlt, List.reverse_append]; rfl
      have htl : (l.take k).reverse.length ≤ 1000 := by simp; omega
      obtain ⟨⟨x, y⟩, hx⟩ : ∃ z, l[k] = z := ⟨_, rfl⟩
      rw [hx] at e0 e1 HT
      simp only at e0 e1
      have hB1 := Blk.new wr 26 #[.int .i64 x, .int .i64 y]
      have fhB1 := hB1.facts
      have hone := own_oneK (wr.alloc (.cells #[.int .i64 x, .int .i64 y] 26)) (base := w.heap.size) (by have := hbw.size; simp; omega) x y
      simp only [World.size_alloc] at hone
      have hz6 := ((hown.rd kc_len).alloc (.cells #[.int .i64 x, .int .i64 y] 26)).alloc (.cells #[.int .i64 x, .int .i64 y] 26)
      go_wp2_with (at_builtin; refine wpList_appKS hone hz6 rfl _ _ rfl rfl rfl (by simp; omega) (by have := hbw.size; simp; omega) ?_; intro v7 w7 hown7 hg7)
      have hbw7 := own_step hone hg7 (by (repeat (first | exact bl_refl | assumption | (apply bl_then; assumption) | refine bl_alloc ?_ _ | refine bl_drew ?_ | refine bl_drewN ?_ _)))
      go_roundw
      case rel => exact ⟨k + 1, by omega, by go_num, by rw [HT.out]; exact hown7, hbw7⟩
      case measure => simp [intOf]; omega
    · have HE : Hid (l.take k = l) := List.take_of_length_le (by omega)
      obtain ⟨A2, c2, hA2⟩ := hown.shape
      subst hA2
      go_wp2
      go_ret
      exact ⟨_, rfl, by rw [HE.out] at hown; rw [HE.out]; exact hown, hbw⟩
theorem kby_new : ∀ i, i < 6 → ((kby i).toList == (kby 2).toList) = (i == 2) := by
  intro i hi
  obtain rfl | rfl | rfl | rfl | rfl | rfl : i = 0 ∨ i = 1 ∨ i = 2 ∨ i = 3 ∨ i = 4 ∨ i = 5 := by omega
  all_goals simp [kby, ByteArray.toList_eq]
theorem mendBackwards_any {v u : Value} (N D : List Bar) (w : World) (hN : SlB w v N) (hD : SlB w u D) : Calls Tryz.prog 11 #[.agg #[v, u]] w (RV w (.bool true)) := by
  have hN' := hN
  obtain ⟨A1, c1, rfl, _, _, hr1⟩ := hN'
  have hD' := hD
  obtain ⟨A2, c2, rfl, hlc2, hcm2, hr2⟩ := hD'
  clear hr1 hr2
  have hl2 : D.length ≤ maxLen := Nat.le_trans hlc2 hcm2
  unfold maxLen at hl2
  have hB := Blk.new w 24 #[.slice A1 N.length c1, .slice A2 D.length c2]
  have fhB := hB.facts
  have hvl := fun W (hN : SlB W (.slice A1 N.length c1) N) (hD : SlB W (.slice A2 D.length c2) D) => valid_any N D 40 W hN hD
  obtain ⟨qv, hqv⟩ : ∃ q, vldB N D 40 = q := ⟨_, rfl⟩
  simp only [hqv] at hvl
  cases qv
  · clear hqv
    go_enter Tryz.func11, Tryz.ntmps11
    go_wp2_with fail
    refine (hvl _ (hN.below (by (repeat (first | exact bl_refl | assumption | (apply bl_then; assumption) | refine bl_alloc ?_ _ | refine bl_drew ?_ | refine bl_drewN ?_ _)))) (hD.below (by (repeat (first | exact bl_refl | assumption | (apply bl_then; assumption) | refine bl_alloc ?_ _ | refine bl_drew ?_ | refine bl_drewN ?_ _))))).mono ?_
    rintro e w1 ⟨rfl, hb1⟩
    replace hB := hB.below (show Below _ _ w1 by (repeat (first | exact bl_refl | assumption | (apply bl_then; assumption) | refine bl_alloc ?_ _ | refine bl_drew ?_ | refine bl_drewN ?_ _)))
    replace fhB := hB.facts
    go_wp2_with fail
    refine (awake_any _).mono ?_
    rintro e w2 ⟨rfl, hb2⟩
    go_wp2
    go_ret
    exact ⟨rfl, by (repeat (first | exact bl_refl | assumption | (apply bl_then; assumption) | refine bl_alloc ?_ _ | refine bl_drew ?_ | refine bl_drewN ?_ _))⟩
  · obtain ⟨hs, hE⟩ := vld_ok hqv
    clear hqv
    have hok := torn_ok hE
    have hsD : ∀ b ∈ D, Sided b := fun b hb => (hok.dam.ok b hb).2.2
    have hkd : ∀ {v u : Value} (w : World) (hN : SlB w v N) (hD : SlB w u D), Calls Tryz.prog 32 #[.agg #[v, u]] w (RLE w ((holeK D).map (legOf D)) 0) := fun w hN hD => by
      have := pkinds_any N D w hN hD
      rwa [show kindsL N D = (holeK D).map (legOf D) by unfold kindsL; rw [if_pos hE], hE] at this
    have hll : ((holeK D).map (legOf D)).length ≤ 100 := by rw [List.length_map]; have := hole_len (D := D); omega
    have hleg : ∀ x ∈ (holeK D).map (legOf D), legsAt D x.1 ≠ noLegs ∧ x.2.1 = cnt (legsAt D x.1) ∧ x.2.2 < 6 ∧ ((x.2.2 == 2) = (x.2.1 == 4)) := fun x hx => by
      obtain ⟨k, hk, rfl⟩ := List.mem_map.1 hx
      have hn := (holeK_mem hsD k).1 hk
      refine ⟨hn, rfl, ?_⟩
      show kix (legsAt D k) < 6 ∧ (kix (legsAt D k) == 2) = (cnt (legsAt D k) == 4)
      rcases leg_cases' hn with ⟨h1, h2⟩ | ⟨h1, h2 | h2 | h2⟩ | ⟨h1, h2⟩ | ⟨h1, h2⟩ <;> rw [h1, h2] <;> decide
    have hwk : ∀ (x y : Int), legsAt D (x, y) ≠ noLegs → ∀ {v u : Value} (w : World) (hN : SlB w v N) (hD : SlB w u D), Calls Tryz.prog 19 #[.agg #[v, u], .agg #[.int .i64 x, .int .i64 y]] w (RKE w (if cnt (legsAt D (x, y)) = 1 then walkL D (x, y) else []) (if cnt (legsAt D (x, y)) = 1 then 0 else 18)) := fun x y hn _ _ w hN hD => by
      have := pwalk_any N D x y w hN hD
      rwa [walkE_eq hE hn, walkR_eq hE hn] at this
    have hms : ∀ (x y : Int), legsAt D (x, y) ≠ noLegs → ∀ {v u : Value} (w : World) (hN : SlB w v N) (hD : SlB w u D), Calls Tryz.prog 52 #[.agg #[v, u], .agg #[.int .i64 x, .int .i64 y]] w (RV w (.tuple #[.int .i64 (cnt (legsAt D (x, y))), .int .i64 0])) := fun x y hn _ _ w hN hD => by
      have := pmissing_any N D x y w hN hD
      rwa [miss_eq hE hn, two_zero hE hn] at this
    have hba : ∀ k, cnt (legsAt D k) = 1 → ∃ z, BackAt N D k z (walkL D k) := fun k h1 => back_at hE h1
    obtain ⟨l, hl⟩ : ∃ l, (holeK D).map (legOf D) = l := ⟨_, rfl⟩
    have hpb : ∀ W, runO D = some W → provedE N D W.reverse = if openL l l.length then 21 else 0 := fun W hW => proved_back hE hW hl
    simp only [hl] at hkd hll hleg
    clear hl
    have HL := Lib.hid hleg
    have HWK := Lib.hid hwk
    have HMS := Lib.hid hms
    have HBA := Lib.hid hba
    have HPB := Lib.hid hpb
    have HE := Lib.hid hE
    clear hleg hwk hms hba hpb hok hsD hE
    go_enter Tryz.func11, Tryz.ntmps11
    go_wp2_with fail
    refine (hvl _ (hN.below (by (repeat (first | exact bl_refl | assumption | (apply bl_then; assumption) | refine bl_alloc ?_ _ | refine bl_drew ?_ | refine bl_drewN ?_ _)))) (hD.below (by (repeat (first | exact bl_refl | assumption | (apply bl_then; assumption) | refine bl_alloc ?_ _ | refine bl_drew ?_ | refine bl_drewN ?_ _))))).mono ?_
    rintro e w1 ⟨rfl, hb1⟩
    replace hB := hB.below (show Below _ _ w1 by (repeat (first | exact bl_refl | assumption | (apply bl_then; assumption) | refine bl_alloc ?_ _ | refine bl_drew ?_ | refine bl_drewN ?_ _)))
    replace fhB := hB.facts
    clear hvl
    go_wp2_with fail
    refine (torn_any N D _ (hN.below (by (repeat (first | exact bl_refl | assumption | (apply bl_then; assumption) | refine bl_alloc ?_ _ | refine bl_drew ?_ | refine bl_drewN ?_ _)))) (hD.below (by (repeat (first | exact bl_refl | assumption | (apply bl_then; assumption) | refine bl_alloc ?_ _ | refine bl_drew ?_ | refine bl_drewN ?_ _)))) (by omega) (by omega)).mono ?_
    rintro e w2 ⟨v2, u2, rfl, hN2, hD2, hb2⟩
    replace hB := hB.below (show Below _ _ w2 by (repeat (first | exact bl_refl | assumption | (apply bl_then; assumption) | refine bl_alloc ?_ _ | refine bl_drew ?_ | refine bl_drewN ?_ _)))
    replace fhB := hB.facts
    go_wp2_with fail
    refine (hkd _ (hN2.rd bc_len) (hD2.rd bc_len)).mono ?_
    rintro e w3 ⟨v3, rfl, hL3, hb3⟩
    replace hB := hB.below (show Below _ _ w3 by (repeat (first | exact bl_refl | assumption | (apply bl_then; assumption) | refine bl_alloc ?_ _ | refine bl_drew ?_ | refine bl_drewN ?_ _)))
    replace fhB := hB.facts
    obtain ⟨A3, c3, rfl⟩ := hL3.shape
    have hL3' : SlL w3 _ _ := hL3.rd lc_len
    have hbw3 : Below w.heap.size w w3 := by (repeat (first | exact bl_refl | assumption | (apply bl_then; assumption) | refine bl_alloc ?_ _ | refine bl_drew ?_ | refine bl_drewN ?_ _))
    clear hN2 hD2 hb1 hb2 hb3 hL3 hkd
    obtain ⟨A3', c3', e3, _, _, hrL⟩ := hL3'
    obtain ⟨rfl, rfl⟩ : A3 = A3' ∧ c3 = c3' := by simpa using e3
    clear e3
    have hN3 := hN.below hbw3
    have hD3 := hD.below hbw3
    go_wp2_with fail
    go_loopw [5, 33] (fun o i wr => ∃ k : Nat, k ≤ l.length ∧ i = .int .i64 k ∧ o = .bool (openL l k) ∧ Below w3.heap.size w3 wr) (fun _ i _ => l.length - (intOf i).toNat)
    case atStart => exact ⟨0, Nat.zero_le _, rfl, rfl, by (repeat (first | exact bl_refl | assumption | (apply bl_then; assumption) | refine bl_alloc ?_ _ | refine bl_drew ?_ | refine bl_drewN ?_ _))⟩
    case round =>
      obtain ⟨k, hk, rfl, rfl, hbr⟩ := hrel
      replace hB := hB.below hbr
      replace fhB := hB.facts
      by_cases hlt : k < l.length
      · have hr := hrL.below hbr
        obtain ⟨b, off, rfl, hb, e0, e1, e2, e3⟩ := hr.leg hlt
        obtain ⟨HC1, HC2, HC3, HC4⟩ := HL.out _ (List.getElem_mem hlt)
        have HOS := openL_succ hlt
        obtain ⟨⟨⟨x, y⟩, c, i⟩, hx⟩ : ∃ z, l[k] = z := ⟨_, rfl⟩
        rw [hx] at e0 e1 e2 e3 HC1 HC2 HC3 HC4 HOS
        simp only at e0 e1 e2 e3 HC1 HC2 HC3 HC4 HOS
        rw [← HC4, ← kby_new i HC3] at HOS
        have hkb : (kby 2).toList = [110, 101, 119] := by simp [kby, ByteArray.toList_eq]
        rw [hkb] at HOS
        obtain ⟨t, ht⟩ : ∃ t, ((kby i).toList == [110, 101, 119]) = t := ⟨_, rfl⟩
        have HC2' := Lib.hid HC2
        clear HC2
        obtain ⟨o, ho⟩ : ∃ o, openL l k = o := ⟨_, rfl⟩
        rw [ht, ho] at HOS
        rw [ho]
        have HOS' := Lib.hid HOS
        clear HOS ho HC4 hkb
        have hB1 := Blk.new wr 54 #[.int .i64 x, .int .i64 y, .int .i64 c, kstr i]
        have fhB1 := hB1.facts
        have hB0 := hB.alloc (.cells #[.int .i64 x, .int .i64 y, .int .i64 c, kstr i] 54)
        have fhB0 := hB0.facts
        by_cases h1 : c = 1
        · have hc1 : ((c : Int) == 1) = true := by simp; omega
          have hcn : cnt (legsAt D (x, y)) = 1 := by have := HC2'.out; omega
          clear h1
          obtain ⟨⟨zx, zy⟩, hbk⟩ := HBA.out (x, y) hcn
          have hwk1 : ∀ {v u : Value} (w : World) (hN : SlB w v N) (hD : SlB w u D), Calls Tryz.prog 19 #[.agg #[v, u], .agg #[.int .i64 x, .int .i64 y]] w (RKE w (walkL D (x, y)) 0) := fun w hN hD => by
            have := HWK.out x y HC1 w hN hD
            rwa [if_pos hcn, if_pos hcn] at this
          obtain ⟨W, hWW⟩ : ∃ W, walkL D (x, y) = W := ⟨_, rfl⟩
          rw [hWW] at hbk
          simp only [hWW] at hwk1
          obtain ⟨V, hV⟩ : ∃ V, W.reverse = V := ⟨_, rfl⟩
          obtain ⟨hlo, hhi, hfst, hlst, hcw0, hmd0, hun0, htw0, hcz0, hbk0⟩ := hbk
          have hzn : legsAt D (zx, zy) ≠ noLegs := by rcases hcz0 with h | h <;> exact cnt_ne h
          have hcw : ∀ (v : Value) (w : World) (h : SlK w v W), Calls Tryz.prog 65 #[v] w (RV w (.int .i64 0)) := fun _ w h => by
            have := rcheckWalk_any W w h
            rwa [hcw0] at this
          have hmd : ∀ (v : Value) (w : World) (h : SlK w v W), Calls Tryz.prog 62 #[v] w (RBE w (madeL W) 0) := fun _ w h => by
            have := made_any W w h
            rwa [hmd0] at this
          have hun : ∀ (v u : Value) (w : World) (h : SlB w v (madeL W)) (hD : SlB w u D), Calls Tryz.prog 44 #[v, u] w (RV w (.bool false)) := fun _ _ w h hD => by
            have := unknown_any (madeL W) D w h hD
            rwa [hun0] at this
          rw [hV] at hbk0
          have htn : ∀ (v : Value) (w : World) (_ : SlK w v W), Calls Tryz.prog 69 #[v] w (RK w V) := fun _ w h => hV ▸ turned_any W w h (by omega)
          clear hV
          have hmz : ∀ (v u : Value) (w : World) (hN : SlB w v N) (hD : SlB w u D), Calls Tryz.prog 52 #[.agg #[v, u], .agg #[.int .i64 zx, .int .i64 zy]] w (RV w (.tuple #[.int .i64 (cnt (legsAt D (zx, zy))), .int .i64 0])) := fun _ _ w hN hD => HMS.out zx zy hzn w hN hD
          have hbz : cnt (legsAt D (zx, zy)) = 1 → ∀ {v u : Value} (w : World) (hN : SlB w v N) (hD : SlB w u D), Calls Tryz.prog 19 #[.agg #[v, u], .agg #[.int .i64 zx, .int .i64 zy]] w (RKE w V 0) := fun h1 _ _ w hN hD => by
            have := HWK.out zx zy hzn w hN hD
            rwa [if_pos h1, if_pos h1, hbk0 h1] at this
          obtain ⟨cz, hcz⟩ : ∃ z : Int, (cnt (legsAt D (zx, zy)) : Int) = z := ⟨_, rfl⟩
          simp only [hcz] at hmz
          have hbz' : cz = 1 → ∀ (v u : Value) (w : World) (hN : SlB w v N) (hD : SlB w u D), Calls Tryz.prog 19 #[.agg #[v, u], .agg #[.int .i64 zx, .int .i64 zy]] w (RKE w V 0) := fun h1 _ _ => hbz (by omega)
          have hcz' : cz = 1 ∨ cz = 3 := by omega
          obtain ⟨tw, htw⟩ : ∃ t, W.length - 1 = t := ⟨_, rfl⟩
          have htl : tw < W.length := by omega
          have h0l : 0 < W.length := by omega
          rw [htw] at hlst
          have hW0 : W[0] = (x, y) := by simpa [h0l] using hfst
          have hWt : W[tw] = (zx, zy) := by simpa [htl] using hlst
          have hlm : (W.length : Int) - 1 = (tw : Int) := by omega
          have hbq : beqK x y x y = true := by simp [beqK]
          have hlo' : ((W.length : Int) < 2) = False := by simp; omega
          have hhi' : ((D.length : Int) + 1 < (W.length : Int)) = False := by simp; omega
          have HW0 := Lib.hid hW0
          have HWT := Lib.hid hWt
          have HCW := Lib.hid hcw
          have HTN := Lib.hid htn
          have HMD := Lib.hid hmd
          have HUN := Lib.hid hun
          have HMZ := Lib.hid hmz
          have HBZ := Lib.hid hbz'
          have HZ := Lib.hid hcz'
          clear hbz hfst hlst hcw0 hmd0 hun0 htw0 hcz0 hbk0 hcz hzn hWW hcn htw hW0 hWt hcw hmd hun hmz hbz' hcz' htn
          cases o
          all_goals
            as_aux_lemma =>
              go_wp2_with fail
              refine wp_region_ords [0, 2, 3] [(1, false), (4, false), (5, false), (6, true), (7, true), (8, false)] [9] (by kernel_rfl) (by kernel_rfl) (fun d _ _ _ _ h => by cases d <;> exact h) ?_
              simp only [List.map_cons, List.map_nil, List.getD_cons_zero, List.getD_cons_succ]
              repeat (go_big_quiet_step (fail))
              refine wpQuiet_nil ?_
              refine wpMid_run rfl (fun K hK => ?_)
              go_simp
              refine (torn_any N D _ (hN3.below (by (repeat (first | exact bl_refl | assumption | (apply bl_then; assumption) | refine bl_alloc ?_ _ | refine bl_drew ?_ | refine bl_drewN ?_ _)))) (hD3.below (by (repeat (first | exact bl_refl | assumption | (apply bl_then; assumption) | refine bl_alloc ?_ _ | refine bl_drew ?_ | refine bl_drewN ?_ _)))) (by omega) (by omega)).mono ?_
              rintro e w4 ⟨v4, u4, rfl, hN4, hD4, hb4⟩
              refine hK _ _ (by (repeat (first | exact bl_refl | assumption | (apply bl_then; assumption) | refine bl_alloc ?_ _ | refine bl_drew ?_ | refine bl_drewN ?_ _))) ?_
              clear hK K
              have hB0_w4 := hB0.below (show Below _ _ w4 by (repeat (first | exact bl_refl | assumption | (apply bl_then; assumption) | refine bl_alloc ?_ _ | refine bl_drew ?_ | refine bl_drewN ?_ _)))
              have fhB0_w4 := hB0_w4.facts
              have hB1_w4 := hB1.below (show Below _ _ w4 by (repeat (first | exact bl_refl | assumption | (apply bl_then; assumption) | refine bl_alloc ?_ _ | refine bl_drew ?_ | refine bl_drewN ?_ _)))
              have fhB1_w4 := hB1_w4.facts
              refine wpMid_run rfl (fun K hK => ?_)
              go_simp
              refine (hwk1 _ (hN4.rd bc_len) (hD4.rd bc_len)).mono ?_
              rintro e w5 ⟨v5, rfl, hW5, hb5⟩
              refine hK _ _ (by (repeat (first | exact bl_refl | assumption | (apply bl_then; assumption) | refine bl_alloc ?_ _ | refine bl_drew ?_ | refine bl_drewN ?_ _))) ?_
              clear hK K
              have hB0_w5 := hB0.below (show Below _ _ w5 by (repeat (first | exact bl_refl | assumption | (apply bl_then; assumption) | refine bl_alloc ?_ _ | refine bl_drew ?_ | refine bl_drewN ?_ _)))
              have fhB0_w5 := hB0_w5.facts
              have hB1_w5 := hB1.below (show Below _ _ w5 by (repeat (first | exact bl_refl | assumption | (apply bl_then; assumption) | refine bl_alloc ?_ _ | refine bl_drew ?_ | refine bl_drewN ?_ _)))
              have fhB1_w5 := hB1_w5.facts
              refine wpMid_run rfl (fun K hK => ?_)
              go_simp
              refine hK _ _ (by (repeat (first | exact bl_refl | assumption | (apply bl_then; assumption) | refine bl_alloc ?_ _ | refine bl_drew ?_ | refine bl_drewN ?_ _))) ?_
              clear hK K
              refine wpMid_take rfl ?_
              intro K hK
              go_big_quiet_op
              go_big_quiet_on
              refine wpMid_take rfl ?_
              intro K hK
              go_big_quiet_op
              go_big_quiet_on
              refine wpMid_run rfl (fun K hK => ?_)
              go_simp
              refine hK _ _ (by (repeat (first | exact bl_refl | assumption | (apply bl_then; assumption) | refine bl_alloc ?_ _ | refine bl_drew ?_ | refine bl_drewN ?_ _))) ?_
              clear hK K
              refine wpMid_nil ?_
              obtain ⟨A5, c5, rfl⟩ := hW5.shape
              have hW5' : SlK w5 _ _ := hW5.rd kc_len
              have hW5'' := hW5'
              obtain ⟨A5', c5', e5, _, _, hrW⟩ := hW5''
              obtain ⟨rfl, rfl⟩ : A5 = A5' ∧ c5 = c5' := by simpa using e5
              obtain ⟨b5, off5, rfl, hlt5, f0, f1⟩ := hrW.knot h0l
              rw [HW0.out] at f0 f1
              simp only [Nat.zero_mul, Nat.add_zero] at f0 f1
              clear e5 hN4 hD4 hW5
              go_wp2_with fail
              refine wp_region_ords [0, 1, 2, 3, 4, 5, 6, 7, 8, 9, 10, 11, 12, 13, 14, 15, 16, 17, 18, 19, 20, 21] [] [22, 23, 24] (by kernel_rfl) (by kernel_rfl) (fun d _ _ _ _ h => by cases d <;> exact h) ?_
              simp only [List.map_cons, List.map_nil, List.getD_cons_zero, List.getD_cons_succ]
              repeat (go_big_quiet_step (fail))
              refine wpQuiet_nil ?_
              refine wpMid_nil ?_
              clear f0 f1
              go_wp2_with fail
              refine (HCW.out _ _ (hW5'.below (by (repeat (first | exact bl_refl | assumption | (apply bl_then; assumption) | refine bl_alloc ?_ _ | refine bl_drew ?_ | refine bl_drewN ?_ _))))).mono ?_
              rintro e w6 ⟨rfl, hb6⟩
              replace hB0_w5 := hB0_w5.below (show Below _ _ w6 by (repeat (first | exact bl_refl | assumption | (apply bl_then; assumption) | refine bl_alloc ?_ _ | refine bl_drew ?_ | refine bl_drewN ?_ _)))
              replace fhB0_w5 := hB0_w5.facts
              replace hB1_w5 := hB1_w5.below (show Below _ _ w6 by (repeat (first | exact bl_refl | assumption | (apply bl_then; assumption) | refine bl_alloc ?_ _ | refine bl_drew ?_ | refine bl_drewN ?_ _)))
              replace fhB1_w5 := hB1_w5.facts
              go_wp2_with fail
              refine (knots_any W _ (hW5'.below (by (repeat (first | exact bl_refl | assumption | (apply bl_then; assumption) | refine bl_alloc ?_ _ | refine bl_drew ?_ | refine bl_drewN ?_ _)))) (by omega)).mono ?_
              rintro e w7 ⟨v7, rfl, hK7, hb7⟩
              replace hB0_w5 := hB0_w5.below (show Below _ _ w7 by (repeat (first | exact bl_refl | assumption | (apply bl_then; assumption) | refine bl_alloc ?_ _ | refine bl_drew ?_ | refine bl_drewN ?_ _)))
              replace fhB0_w5 := hB0_w5.facts
              replace hB1_w5 := hB1_w5.below (show Below _ _ w7 by (repeat (first | exact bl_refl | assumption | (apply bl_then; assumption) | refine bl_alloc ?_ _ | refine bl_drew ?_ | refine bl_drewN ?_ _)))
              replace fhB1_w5 := hB1_w5.facts
              go_wp2_with fail
              refine (HMD.out _ _ (hK7.rd kc_len)).mono ?_
              rintro e w8 ⟨v8, rfl, hM8, hb8⟩
              replace hB0_w5 := hB0_w5.below (show Below _ _ w8 by (repeat (first | exact bl_refl | assumption | (apply bl_then; assumption) | refine bl_alloc ?_ _ | refine bl_drew ?_ | refine bl_drewN ?_ _)))
              replace fhB0_w5 := hB0_w5.facts
              replace hB1_w5 := hB1_w5.below (show Below _ _ w8 by (repeat (first | exact bl_refl | assumption | (apply bl_then; assumption) | refine bl_alloc ?_ _ | refine bl_drew ?_ | refine bl_drewN ?_ _)))
              replace fhB1_w5 := hB1_w5.facts
              obtain ⟨A8, c8, rfl⟩ := hM8.shape
              go_wp2_with fail
              refine (HUN.out _ _ _ (hM8.rd bc_len) (hD3.below (by (repeat (first | exact bl_refl | assumption | (apply bl_then; assumption) | refine bl_alloc ?_ _ | refine bl_drew ?_ | refine bl_drewN ?_ _))))).mono ?_
              rintro e w9 ⟨rfl, hb9⟩
              replace hB0_w5 := hB0_w5.below (show Below _ _ w9 by (repeat (first | exact bl_refl | assumption | (apply bl_then; assumption) | refine bl_alloc ?_ _ | refine bl_drew ?_ | refine bl_drewN ?_ _)))
              replace fhB0_w5 := hB0_w5.facts
              replace hB1_w5 := hB1_w5.below (show Below _ _ w9 by (repeat (first | exact bl_refl | assumption | (apply bl_then; assumption) | refine bl_alloc ?_ _ | refine bl_drew ?_ | refine bl_drewN ?_ _)))
              replace fhB1_w5 := hB1_w5.facts
              have hr9 := hrW.below (show Below _ _ w9 by (repeat (first | exact bl_refl | assumption | (apply bl_then; assumption) | refine bl_alloc ?_ _ | refine bl_drew ?_ | refine bl_drewN ?_ _)))
              obtain ⟨_, n0, n1⟩ := hr9.knotAt htl
              rw [HWT.out] at n0 n1
              simp only at n0 n1
              go_wp2_with fail
              refine wp_region_ords [0, 2, 3, 4, 5, 6, 7] [(1, false), (8, false), (9, false), (10, true), (11, true), (12, false)] [13] (by kernel_rfl) (by kernel_rfl) (fun d _ _ _ _ h => by cases d <;> exact h) ?_
              simp only [List.map_cons, List.map_nil, List.getD_cons_zero, List.getD_cons_succ]
              repeat (go_big_quiet_step (fail))
              refine wpQuiet_nil ?_
              refine wpMid_run rfl (fun K hK => ?_)
              go_simp
              refine (torn_any N D _ (hN3.below (by (repeat (first | exact bl_refl | assumption | (apply bl_then; assumption) | refine bl_alloc ?_ _ | refine bl_drew ?_ | refine bl_drewN ?_ _)))) (hD3.below (by (repeat (first | exact bl_refl | assumption | (apply bl_then; assumption) | refine bl_alloc ?_ _ | refine bl_drew ?_ | refine bl_drewN ?_ _)))) (by omega) (by omega)).mono ?_
              rintro e w10 ⟨v10, u10, rfl, hN10, hD10, hb10⟩
              refine hK _ _ (by (repeat (first | exact bl_refl | assumption | (apply bl_then; assumption) | refine bl_alloc ?_ _ | refine bl_drew ?_ | refine bl_drewN ?_ _))) ?_
              clear hK K
              have hB0_w5_w10 := hB0_w5.below (show Below _ _ w10 by (repeat (first | exact bl_refl | assumption | (apply bl_then; assumption) | refine bl_alloc ?_ _ | refine bl_drew ?_ | refine bl_drewN ?_ _)))
              have fhB0_w5_w10 := hB0_w5_w10.facts
              have hB1_w5_w10 := hB1_w5.below (show Below _ _ w10 by (repeat (first | exact bl_refl | assumption | (apply bl_then; assumption) | refine bl_alloc ?_ _ | refine bl_drew ?_ | refine bl_drewN ?_ _)))
              have fhB1_w5_w10 := hB1_w5_w10.facts
              refine wpMid_run rfl (fun K hK => ?_)
              go_simp
              refine (HMZ.out _ _ _ (hN10.rd bc_len) (hD10.rd bc_len)).mono ?_
              rintro e w11 ⟨rfl, hb11⟩
              refine hK _ _ (by (repeat (first | exact bl_refl | assumption | (apply bl_then; assumption) | refine bl_alloc ?_ _ | refine bl_drew ?_ | refine bl_drewN ?_ _))) ?_
              clear hK K
              have hB0_w5_w11 := hB0_w5.below (show Below _ _ w11 by (repeat (first | exact bl_refl | assumption | (apply bl_then; assumption) | refine bl_alloc ?_ _ | refine bl_drew ?_ | refine bl_drewN ?_ _)))
              have fhB0_w5_w11 := hB0_w5_w11.facts
              have hB1_w5_w11 := hB1_w5.below (show Below _ _ w11 by (repeat (first | exact bl_refl | assumption | (apply bl_then; assumption) | refine bl_alloc ?_ _ | refine bl_drew ?_ | refine bl_drewN ?_ _)))
              have fhB1_w5_w11 := hB1_w5_w11.facts
              refine wpMid_run rfl (fun K hK => ?_)
              go_simp
              refine hK _ _ (by (repeat (first | exact bl_refl | assumption | (apply bl_then; assumption) | refine bl_alloc ?_ _ | refine bl_drew ?_ | refine bl_drewN ?_ _))) ?_
              clear hK K
              refine wpMid_take rfl ?_
              intro K hK
              go_big_quiet_op
              go_big_quiet_on
              refine wpMid_take rfl ?_
              intro K hK
              go_big_quiet_op
              go_big_quiet_on
              refine wpMid_run rfl (fun K hK => ?_)
              go_simp
              refine hK _ _ (by (repeat (first | exact bl_refl | assumption | (apply bl_then; assumption) | refine bl_alloc ?_ _ | refine bl_drew ?_ | refine bl_drewN ?_ _))) ?_
              clear hK K
              refine wpMid_nil ?_
              clear n0 n1
              have hr11 := hr9.below (show Below _ _ w11 by (repeat (first | exact bl_refl | assumption | (apply bl_then; assumption) | refine bl_alloc ?_ _ | refine bl_drew ?_ | refine bl_drewN ?_ _)))
              obtain ⟨_, n0, n1⟩ := hr11.knotAt htl
              rw [HWT.out] at n0 n1
              simp only at n0 n1
              rcases HZ.out with rfl | rfl
              · have hbz : ∀ {v u : Value} (w : World) (hN : SlB w v N) (hD : SlB w u D), Calls Tryz.prog 19 #[.agg #[v, u], .agg #[.int .i64 zx, .int .i64 zy]] w (RKE w V 0) := fun w hN hD => HBZ.out rfl _ _ w hN hD
                go_wp2_with fail
                refine wp_region_ords [0, 2, 3, 4, 5, 6, 7] [(1, false), (8, false), (9, false), (10, true), (11, true), (12, false)] [13] (by kernel_rfl) (by kernel_rfl) (fun d _ _ _ _ h => by cases d <;> exact h) ?_
                simp only [List.map_cons, List.map_nil, List.getD_cons_zero, List.getD_cons_succ]
                repeat (go_big_quiet_step (fail))
                refine wpQuiet_nil ?_
                refine wpMid_run rfl (fun K hK => ?_)
                go_simp
                refine (torn_any N D _ (hN3.below (by (repeat (first | exact bl_refl | assumption | (apply bl_then; assumption) | refine bl_alloc ?_ _ | refine bl_drew ?_ | refine bl_drewN ?_ _)))) (hD3.below (by (repeat (first | exact bl_refl | assumption | (apply bl_then; assumption) | refine bl_alloc ?_ _ | refine bl_drew ?_ | refine bl_drewN ?_ _)))) (by omega) (by omega)).mono ?_
                rintro e w12 ⟨v12, u12, rfl, hN12, hD12, hb12⟩
                refine hK _ _ (by (repeat (first | exact bl_refl | assumption | (apply bl_then; assumption) | refine bl_alloc ?_ _ | refine bl_drew ?_ | refine bl_drewN ?_ _))) ?_
                clear hK K
                refine wpMid_run rfl (fun K hK => ?_)
                go_simp
                refine (hbz _ (hN12.rd bc_len) (hD12.rd bc_len)).mono ?_
                rintro e w13 ⟨v13, rfl, hV13, hb13⟩
                refine hK _ _ (by (repeat (first | exact bl_refl | assumption | (apply bl_then; assumption) | refine bl_alloc ?_ _ | refine bl_drew ?_ | refine bl_drewN ?_ _))) ?_
                clear hK K
                refine wpMid_run rfl (fun K hK => ?_)
                go_simp
                refine hK _ _ (by (repeat (first | exact bl_refl | assumption | (apply bl_then; assumption) | refine bl_alloc ?_ _ | refine bl_drew ?_ | refine bl_drewN ?_ _))) ?_
                clear hK K
                refine wpMid_take rfl ?_
                intro K hK
                go_big_quiet_op
                go_big_quiet_on
                refine wpMid_take rfl ?_
                intro K hK
                go_big_quiet_op
                go_big_quiet_on
                refine wpMid_run rfl (fun K hK => ?_)
                go_simp
                refine hK _ _ (by (repeat (first | exact bl_refl | assumption | (apply bl_then; assumption) | refine bl_alloc ?_ _ | refine bl_drew ?_ | refine bl_drewN ?_ _))) ?_
                clear hK K
                refine wpMid_nil ?_
                obtain ⟨A13, c13, rfl⟩ := hV13.shape
                go_wp2_with fail
                refine (HTN.out _ _ (hW5'.below (by (repeat (first | exact bl_refl | assumption | (apply bl_then; assumption) | refine bl_alloc ?_ _ | refine bl_drew ?_ | refine bl_drewN ?_ _))))).mono ?_
                rintro e w14 ⟨v14, rfl, hT14, hb14⟩
                go_wp2_with fail
                refine (sameKnots_any V V _ ((hV13.rd kc_len).below (by (repeat (first | exact bl_refl | assumption | (apply bl_then; assumption) | refine bl_alloc ?_ _ | refine bl_drew ?_ | refine bl_drewN ?_ _)))) (hT14.rd kc_len)).mono ?_
                rintro e w15 ⟨rfl, hb15⟩
                go_wp2_with fail
                go_roundw
                case rel => exact ⟨k + 1, by omega, by go_num, by rw [HOS'.out]; simp, by (repeat (first | exact bl_refl | assumption | (apply bl_then; assumption) | refine bl_alloc ?_ _ | refine bl_drew ?_ | refine bl_drewN ?_ _))⟩
                case measure => simp [intOf]; omega
              · go_wp2_with fail
                go_roundw
                case rel => exact ⟨k + 1, by omega, by go_num, by rw [HOS'.out]; simp, by (repeat (first | exact bl_refl | assumption | (apply bl_then; assumption) | refine bl_alloc ?_ _ | refine bl_drew ?_ | refine bl_drewN ?_ _))⟩
                case measure => simp [intOf]; omega
        · have hc1 : ((c : Int) == 1) = false := by simp; omega
          have hwk1 : ∀ {v u : Value} (w : World) (hN : SlB w v N) (hD : SlB w u D), Calls Tryz.prog 19 #[.agg #[v, u], .agg #[.int .i64 x, .int .i64 y]] w (RKE w [] 18) := fun w hN hD => by
            have := HWK.out x y HC1 w hN hD
            rwa [if_neg (by have := HC2'.out; omega), if_neg (by have := HC2'.out; omega)] at this
          cases o
          all_goals
            go_wp2_with fail
            refine wp_region_ords [0, 2, 3] [(1, false), (4, false), (5, false), (6, true), (7, true), (8, false)] [9] (by kernel_rfl) (by kernel_rfl) (fun d _ _ _ _ h => by cases d <;> exact h) ?_
            simp only [List.map_cons, List.map_nil, List.getD_cons_zero, List.getD_cons_succ]
            repeat (go_big_quiet_step (fail))
            refine wpQuiet_nil ?_
            refine wpMid_run rfl (fun K hK => ?_)
            go_simp
            refine (torn_any N D _ (hN3.below (by (repeat (first | exact bl_refl | assumption | (apply bl_then; assumption) | refine bl_alloc ?_ _ | refine bl_drew ?_ | refine bl_drewN ?_ _)))) (hD3.below (by (repeat (first | exact bl_refl | assumption | (apply bl_then; assumption) | refine bl_alloc ?_ _ | refine bl_drew ?_ | refine bl_drewN ?_ _)))) (by omega) (by omega)).mono ?_
            rintro e w4 ⟨v4, u4, rfl, hN4, hD4, hb4⟩
            refine hK _ _ (by (repeat (first | exact bl_refl | assumption | (apply bl_then; assumption) | refine bl_alloc ?_ _ | refine bl_drew ?_ | refine bl_drewN ?_ _))) ?_
            clear hK K
            have hB1_w4 := hB1.below (show Below _ _ w4 by (repeat (first | exact bl_refl | assumption | (apply bl_then; assumption) | refine bl_alloc ?_ _ | refine bl_drew ?_ | refine bl_drewN ?_ _)))
            have fhB1_w4 := hB1_w4.facts
            refine wpMid_run rfl (fun K hK => ?_)
            go_simp
            refine (hwk1 _ (hN4.rd bc_len) (hD4.rd bc_len)).mono ?_
            rintro e w5 ⟨v5, rfl, hW5, hb5⟩
            refine hK _ _ (by (repeat (first | exact bl_refl | assumption | (apply bl_then; assumption) | refine bl_alloc ?_ _ | refine bl_drew ?_ | refine bl_drewN ?_ _))) ?_
            clear hK K
            have hB1_w5 := hB1.below (show Below _ _ w5 by (repeat (first | exact bl_refl | assumption | (apply bl_then; assumption) | refine bl_alloc ?_ _ | refine bl_drew ?_ | refine bl_drewN ?_ _)))
            have fhB1_w5 := hB1_w5.facts
            refine wpMid_run rfl (fun K hK => ?_)
            go_simp
            refine hK _ _ (by (repeat (first | exact bl_refl | assumption | (apply bl_then; assumption) | refine bl_alloc ?_ _ | refine bl_drew ?_ | refine bl_drewN ?_ _))) ?_
            clear hK K
            refine wpMid_take rfl ?_
            intro K hK
            go_big_quiet_op
            go_big_quiet_on
            refine wpMid_take rfl ?_
            intro K hK
            go_big_quiet_op
            go_big_quiet_on
            refine wpMid_run rfl (fun K hK => ?_)
            go_simp
            refine hK _ _ (by (repeat (first | exact bl_refl | assumption | (apply bl_then; assumption) | refine bl_alloc ?_ _ | refine bl_drew ?_ | refine bl_drewN ?_ _))) ?_
            clear hK K
            refine wpMid_nil ?_
            obtain ⟨A5, c5, rfl⟩ := hW5.shape
            go_wp2_with fail
            go_roundw
            case rel => exact ⟨k + 1, by omega, by go_num, by rw [HOS'.out]; simp, by (repeat (first | exact bl_refl | assumption | (apply bl_then; assumption) | refine bl_alloc ?_ _ | refine bl_drew ?_ | refine bl_drewN ?_ _))⟩
            case measure => simp [intOf]; omega
      · obtain rfl : k = l.length := by omega
        have hbwr : Below w.heap.size w wr := bl_then hbr hbw3
        obtain ⟨o, ho⟩ : ∃ o, openL l l.length = o := ⟨_, rfl⟩
        rw [ho]
        have hpb := HPB.out
        simp only [ho] at hpb
        clear ho
        by_cases hq : runE N D = 0
        · obtain ⟨W, hW, hWl⟩ : ∃ W, runO D = some W ∧ runL N D = W := by
            unfold runE at hq
            split at hq
            · rename_i h0
              cases hr : runO D with
              | none => unfold rdyB at hq; rw [hr] at hq; cases hq
              | some W => exact ⟨W, rfl, by unfold runL; rw [if_pos h0, hr]; rfl⟩
            · rename_i h0; exact absurd hq h0
          have hwlen : W.length = D.length + 1 := by
            obtain ⟨k, L, rfl, R⟩ := run_at hW
            rw [pathK_len, R.len]
          have hrun : ∀ {v u : Value} (w : World) (hN : SlB w v N) (hD : SlB w u D), Calls Tryz.prog 20 #[.agg #[v, u]] w (RKE w W 0) := fun w hN hD => by
            have := prun_any N D w hN hD
            rwa [hq, hWl] at this
          have hcr : ∀ {v u x : Value} (w : World) (hN : SlB w v N) (hD : SlB w u D) (hl : SlK w x W.reverse), Calls Tryz.prog 60 #[.agg #[v, u], x] w (RV w (.int .i64 (if o then 21 else 0))) := fun w hN hD hl => by
            have := checkRun_any N D W.reverse w hN hD hl
            rwa [hpb W hW] at this
          have hw0 : ((W.length : Int) == 0) = false := beq_false_of_ne (by omega)
          have hw2 : W.length ≤ 41 := by omega
          have hw1 : ((41 : Int) < (W.length : Int)) = False := by simp; omega
          clear hq hW hWl hpb hwlen
          go_wp2_with fail
          refine (torn_any N D _ (hN3.below (by (repeat (first | exact bl_refl | assumption | (apply bl_then; assumption) | refine bl_alloc ?_ _ | refine bl_drew ?_ | refine bl_drewN ?_ _)))) (hD3.below (by (repeat (first | exact bl_refl | assumption | (apply bl_then; assumption) | refine bl_alloc ?_ _ | refine bl_drew ?_ | refine bl_drewN ?_ _)))) (by omega) (by omega)).mono ?_
          rintro e w4 ⟨v4, u4, rfl, hN4, hD4, hb4⟩
          replace hB := hB.below (show Below _ _ w4 by (repeat (first | exact bl_refl | assumption | (apply bl_then; assumption) | refine bl_alloc ?_ _ | refine bl_drew ?_ | refine bl_drewN ?_ _)))
          replace fhB := hB.facts
          go_wp2_with fail
          refine (hrun _ (hN4.rd bc_len) (hD4.rd bc_len)).mono ?_
          rintro e w5 ⟨v5, rfl, hR5, hb5⟩
          replace hB := hB.below (show Below _ _ w5 by (repeat (first | exact bl_refl | assumption | (apply bl_then; assumption) | refine bl_alloc ?_ _ | refine bl_drew ?_ | refine bl_drewN ?_ _)))
          replace fhB := hB.facts
          obtain ⟨A5, c5, rfl⟩ := hR5.shape
          have hR5' : SlK w5 _ _ := hR5.rd kc_len
          go_wp2_with fail
          refine (torn_any N D _ (hN3.below (by (repeat (first | exact bl_refl | assumption | (apply bl_then; assumption) | refine bl_alloc ?_ _ | refine bl_drew ?_ | refine bl_drewN ?_ _)))) (hD3.below (by (repeat (first | exact bl_refl | assumption | (apply bl_then; assumption) | refine bl_alloc ?_ _ | refine bl_drew ?_ | refine bl_drewN ?_ _)))) (by omega) (by omega)).mono ?_
          rintro e w6 ⟨v6, u6, rfl, hN6, hD6, hb6⟩
          replace hB := hB.below (show Below _ _ w6 by (repeat (first | exact bl_refl | assumption | (apply bl_then; assumption) | refine bl_alloc ?_ _ | refine bl_drew ?_ | refine bl_drewN ?_ _)))
          replace fhB := hB.facts
          go_wp2_with fail
          refine (turned_any W _ (hR5'.below (by (repeat (first | exact bl_refl | assumption | (apply bl_then; assumption) | refine bl_alloc ?_ _ | refine bl_drew ?_ | refine bl_drewN ?_ _)))) (by omega)).mono ?_
          rintro e w7 ⟨v7, rfl, hT7, hb7⟩
          replace hB := hB.below (show Below _ _ w7 by (repeat (first | exact bl_refl | assumption | (apply bl_then; assumption) | refine bl_alloc ?_ _ | refine bl_drew ?_ | refine bl_drewN ?_ _)))
          replace fhB := hB.facts
          go_wp2_with fail
          refine (hcr _ ((hN6.rd bc_len).below (by (repeat (first | exact bl_refl | assumption | (apply bl_then; assumption) | refine bl_alloc ?_ _ | refine bl_drew ?_ | refine bl_drewN ?_ _)))) ((hD6.rd bc_len).below (by (repeat (first | exact bl_refl | assumption | (apply bl_then; assumption) | refine bl_alloc ?_ _ | refine bl_drew ?_ | refine bl_drewN ?_ _)))) (hT7.rd kc_len)).mono ?_
          rintro e w8 ⟨rfl, hb8⟩
          replace hB := hB.below (show Below _ _ w8 by (repeat (first | exact bl_refl | assumption | (apply bl_then; assumption) | refine bl_alloc ?_ _ | refine bl_drew ?_ | refine bl_drewN ?_ _)))
          replace fhB := hB.facts
          cases o
          all_goals
            go_wp2_with fail
            refine (awake_any _).mono ?_
            rintro e w9 ⟨rfl, hb9⟩
            go_wp2
            go_ret
            exact ⟨rfl, by (repeat (first | exact bl_refl | assumption | (apply bl_then; assumption) | refine bl_alloc ?_ _ | refine bl_drew ?_ | refine bl_drewN ?_ _))⟩
        · have hq' : (runE N D = 7 ∨ runE N D = 18) ∧ runL N D = [] := by
            have hE0 := HE.out
            unfold runE noneE at hq ⊢
            unfold runL noneE
            rw [hE0] at hq ⊢
            by_cases h0 : D.length = 0
            · simp [h0, whenI, firstI]
            · simp only [h0, decide_false, whenI, firstI, Bool.false_eq_true, if_false, if_true] at hq ⊢
              cases hr : runO D with
              | none => simp [rdyB, hr]
              | some W => simp [rdyB, hr] at hq
          obtain ⟨qe, hqe⟩ : ∃ q, runE N D = q := ⟨_, rfl⟩
          have hrun : ∀ {v u : Value} (w : World) (hN : SlB w v N) (hD : SlB w u D), Calls Tryz.prog 20 #[.agg #[v, u]] w (RKE w [] qe) := fun w hN hD => by
            have := prun_any N D w hN hD
            rwa [hqe, hq'.2] at this
          rw [hqe] at hq'
          have hq'' := hq'.1
          clear hq hq' hqe hpb
          rcases hq'' with rfl | rfl
          all_goals
            go_wp2_with fail
            refine (torn_any N D _ (hN3.below (by (repeat (first | exact bl_refl | assumption | (apply bl_then; assumption) | refine bl_alloc ?_ _ | refine bl_drew ?_ | refine bl_drewN ?_ _)))) (hD3.below (by (repeat (first | exact bl_refl | assumption | (apply bl_then; assumption) | refine bl_alloc ?_ _ | refine bl_drew ?_ | refine bl_drewN ?_ _)))) (by omega) (by omega)).mono ?_
            rintro e w4 ⟨v4, u4, rfl, hN4, hD4, hb4⟩
            replace hB := hB.below (show Below _ _ w4 by (repeat (first | exact bl_refl | assumption | (apply bl_then; assumption) | refine bl_alloc ?_ _ | refine bl_drew ?_ | refine bl_drewN ?_ _)))
            replace fhB := hB.facts
            go_wp2_with fail
            refine (hrun _ (hN4.rd bc_len) (hD4.rd bc_len)).mono ?_
            rintro e w5 ⟨v5, rfl, hR5, hb5⟩
            replace hB := hB.below (show Below _ _ w5 by (repeat (first | exact bl_refl | assumption | (apply bl_then; assumption) | refine bl_alloc ?_ _ | refine bl_drew ?_ | refine bl_drewN ?_ _)))
            replace fhB := hB.facts
            obtain ⟨A5, c5, rfl⟩ := hR5.shape
            go_wp2_with fail
            refine (awake_any _).mono ?_
            rintro e w6 ⟨rfl, hb6⟩
            go_wp2
            go_ret
            exact ⟨rfl, by (repeat (first | exact bl_refl | assumption | (apply bl_then; assumption) | refine bl_alloc ?_ _ | refine bl_drew ?_ | refine bl_drewN ?_ _))⟩
end Go.Proofs.YthcnngoaijgnoaaGreat

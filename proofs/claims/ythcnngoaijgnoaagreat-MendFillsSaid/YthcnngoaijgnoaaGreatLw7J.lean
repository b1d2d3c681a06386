/- The statement MendFills, walked. Conditions: slices that read as lists. -/
import Derived.Test.YthcnngoaijgnoaaGreatK11
import Derived.Test.YthcnngoaijgnoaaGreatLw7aJ
namespace Go.Proofs.YthcnngoaijgnoaaGreat
open Go.RowKit Go.ChangeMaps
set_option maxHeartbeats 16000000
set_option maxRecDepth 100000

theorem mendFills_any {v u : Value} (N D : List Bar) (at' : Int) (w : World) (hat : 0 ≤ at' ∧ at' ≤ 255) (hN : SlB w v N) (hD : SlB w u D) : Calls Tryz.prog 7 #[.agg #[v, u], .int .u8 at'] w (RV w (.bool true)) := by
  have hN' := hN
  obtain ⟨A1, c1, rfl, _, _, hr1⟩ := hN'
  have hD' := hD
  obtain ⟨A2, c2, rfl, hlc2, hcm2, hr2⟩ := hD'
  clear hr1 hr2
  have hl2 : D.length ≤ maxLen := Nat.le_trans hlc2 hcm2
  unfold maxLen at hl2
  have hB := Blk.new w 24 #[.slice A1 N.length c1, .slice A2 D.length c2]
  have fhB := hB.facts
  have hvl := fun W (hN : SlB W (.slice A1 N.length c1) N) (hD : SlB W (.slice A2 D.length c2) D) => valid_any N D 40 W hN hD
  obtain ⟨qv, hqv⟩ : ∃ q, vldB N D 40 = q := ⟨_, rfl⟩
  simp only [hqv] at hvl
  cases qv
  · clear hqv
    go_enter Tryz.func7, Tryz.ntmps7
    go_wp2_with fail
    refine (hvl _ (hN.below (by (repeat (first | exact bl_refl | assumption | (apply bl_then; assumption) | refine bl_alloc ?_ _ | refine bl_drew ?_ | refine bl_drewN ?_ _)))) (hD.below (by (repeat (first | exact bl_refl | assumption | (apply bl_then; assumption) | refine bl_alloc ?_ _ | refine bl_drew ?_ | refine bl_drewN ?_ _))))).mono ?_
    rintro e w1 ⟨rfl, hb1⟩
    replace hB := hB.below (show Below _ _ w1 by (repeat (first | exact bl_refl | assumption | (apply bl_then; assumption) | refine bl_alloc ?_ _ | refine bl_drew ?_ | refine bl_drewN ?_ _)))
    replace fhB := hB.facts
    go_wp2_with fail
    refine (awake_any _).mono ?_
    rintro e w2 ⟨rfl, hb2⟩
    go_wp2
    go_ret
    exact ⟨rfl, by (repeat (first | exact bl_refl | assumption | (apply bl_then; assumption) | refine bl_alloc ?_ _ | refine bl_drew ?_ | refine bl_drewN ?_ _))⟩
  · obtain ⟨hs, hE⟩ := vld_ok hqv
    clear hqv
    have hok := torn_ok hE
    have hsm0 : ∀ {v u z : Value} (w : World) (hN : SlB w v N) (hD : SlB w u D) (hP : SlB w z []), Calls Tryz.prog 35 #[.agg #[v, u], z] w (RTE w N D 0) := fun w hN hD hP => by
      have := seam_sub N D [] hE (List.nil_sublist D) w hN hD hP
      rwa [wout_nil] at this
    have hsmA : ∀ {v u z : Value} (w : World) (hN : SlB w v N) (hD : SlB w u D) (hP : SlB w z D), Calls Tryz.prog 35 #[.agg #[v, u], z] w (RTE w N [] 0) := fun w hN hD hP => by
      have := seam_sub N D D hE (List.Sublist.refl D) w hN hD hP
      rwa [wout_self] at this
    have hcp : ∀ {v u z : Value} (w : World) (hN : SlB w v N) (hD : SlB w u D) (hP : SlB w z D), Calls Tryz.prog 37 #[.agg #[v, u], z] w (RV w (.int .i64 18)) := fun w hN hD hP => by
      have := checkPatchP_any N D D w hN hD hP
      rwa [show cpatchE N D D = 18 by unfold cpatchE; rw [if_pos (patch_sub hE (List.Sublist.refl D)), wout_self, rdy_none]; rfl] at this
    obtain ⟨I, hI⟩ : ∃ I, D.filter (inB D) = I := ⟨_, rfl⟩
    have hIs : I.Sublist D := hI ▸ List.filter_sublist
    have hin : ∀ {v u : Value} (w : World) (hN : SlB w v N) (hD : SlB w u D), Calls Tryz.prog 34 #[.agg #[v, u]] w (RBE w I 0) := fun w hN hD => by
      have := pinner_any N D w hN hD
      rwa [show innerL N D = I by unfold innerL; rw [if_pos hE, hI], hE] at this
    have hsI : ∀ {v u z : Value} (w : World) (hN : SlB w v N) (hD : SlB w u D) (hP : SlB w z I), Calls Tryz.prog 35 #[.agg #[v, u], z] w (RTE w N (wout D I) 0) := fun w hN hD hP => seam_sub N D I hE hIs w hN hD hP
    have hcI : ∀ {v u : Value} (w : World) (hI : SlB w v I) (hD : SlB w u D), Calls Tryz.prog 38 #[v, u] w (RV w (.int .i64 0)) := fun w hI hD => by
      have := rsome_any I D w hI hD
      rwa [some_sub (torn_nets hE).2 hIs] at this
    obtain ⟨J, hJ⟩ : ∃ J, wout D I = J := ⟨_, rfl⟩
    have hJl : J.length + I.length = D.length := by rw [← hJ]; exact wout_length hok.dam.nodup (hok.dam.nodup.sublist hIs) fun b hb => hIs.subset hb
    have hJn : ∀ b ∈ I, hasb J b = false := fun b hb => by
      have : b ∉ J := by rw [← hJ, wout_mem]; exact fun h => h.2 hb
      simp [hasb, this]
    rw [hJ] at hsI
    clear hI hJ
    have hIl := hIs.length_le
    have hJ' : ((J.length : Int) + (I.length : Int) != (D.length : Int)) = false := by simp; omega
    have hOdd : ∀ {v u : Value} (w : World) (hN : SlB w v N) (hD : SlB w u D), Calls Tryz.prog 42 #[.agg #[v, u]] w (RKE w (oddK D) 0) := fun w hN hD => by
      have := podd_any N D w hN hD
      rwa [show oddR N D = oddK D by unfold oddR; rw [if_pos hE], hE] at this
    have hOK := Lib.hid (And.intro hE hok)
    clear hIs hE hok
    go_enter Tryz.func7, Tryz.ntmps7
    go_wp2_with fail
    refine (hvl _ (hN.below (by (repeat (first | exact bl_refl | assumption | (apply bl_then; assumption) | refine bl_alloc ?_ _ | refine bl_drew ?_ | refine bl_drewN ?_ _)))) (hD.below (by (repeat (first | exact bl_refl | assumption | (apply bl_then; assumption) | refine bl_alloc ?_ _ | refine bl_drew ?_ | refine bl_drewN ?_ _))))).mono ?_
    rintro e w1 ⟨rfl, hb1⟩
    replace hB := hB.below (show Below _ _ w1 by (repeat (first | exact bl_refl | assumption | (apply bl_then; assumption) | refine bl_alloc ?_ _ | refine bl_drew ?_ | refine bl_drewN ?_ _)))
    replace fhB := hB.facts
    clear hvl
    go_wp2_with fail
    refine (torn_any N D _ (hN.below (by (repeat (first | exact bl_refl | assumption | (apply bl_then; assumption) | refine bl_alloc ?_ _ | refine bl_drew ?_ | refine bl_drewN ?_ _)))) (hD.below (by (repeat (first | exact bl_refl | assumption | (apply bl_then; assumption) | refine bl_alloc ?_ _ | refine bl_drew ?_ | refine bl_drewN ?_ _)))) (by omega) (by omega)).mono ?_
    rintro e w2 ⟨v2, u2, rfl, hN2, hD2, hb2⟩
    replace hB := hB.below (show Below _ _ w2 by (repeat (first | exact bl_refl | assumption | (apply bl_then; assumption) | refine bl_alloc ?_ _ | refine bl_drew ?_ | refine bl_drewN ?_ _)))
    replace fhB := hB.facts
    go_wp2_with fail
    refine (hsm0 _ (hN2.rd bc_len) (hD2.rd bc_len) Sl.nil_).mono ?_
    rintro e w3 ⟨v3, u3, rfl, hN3, hD3, _, hb3⟩
    replace hB := hB.below (show Below _ _ w3 by (repeat (first | exact bl_refl | assumption | (apply bl_then; assumption) | refine bl_alloc ?_ _ | refine bl_drew ?_ | refine bl_drewN ?_ _)))
    replace fhB := hB.facts
    obtain ⟨A3, c3, rfl⟩ := hN3.shape
    obtain ⟨A4, c4, rfl⟩ := hD3.shape
    have hbw3 : Below w.heap.size w w3 := by (repeat (first | exact bl_refl | assumption | (apply bl_then; assumption) | refine bl_alloc ?_ _ | refine bl_drew ?_ | refine bl_drewN ?_ _))
    have hN3' : SlB w3 _ _ := hN3.rd bc_len
    have hD3' : SlB w3 _ _ := hD3.rd bc_len
    clear hN2 hD2 hb1 hb2 hb3 hsm0
    have hS := Blk.new w3 32 #[.slice A3 N.length c3, .slice A4 D.length c4]
    replace hB := hB.alloc (.cells #[.slice A3 N.length c3, .slice A4 D.length c4] 32)
    replace hN3 := hN3'.alloc (.cells #[.slice A3 N.length c3, .slice A4 D.length c4] 32)
    replace hD3 := hD3'.alloc (.cells #[.slice A3 N.length c3, .slice A4 D.length c4] 32)
    have hbx : Below w.heap.size w (w3.alloc (.cells #[.slice A3 N.length c3, .slice A4 D.length c4] 32)) := bl_alloc hbw3 _
    obtain ⟨g3, hg3⟩ : ∃ g, w3.heap.size = g := ⟨_, rfl⟩
    rw [hg3] at hS
    go_upto_region 4 with fail
    obtain ⟨wx, hwx⟩ : ∃ X, w3.alloc (.cells #[.slice A3 N.length c3, .slice A4 D.length c4] 32) = X := ⟨_, rfl⟩
    rw [hwx] at hB hS hN3 hD3 hbx ⊢
    replace fhB := hB.facts
    have fhS := hS.facts
    clear hN3' hD3' hbw3 hwx hg3
    refine fills_r4 (hN.below hbx) (hD.below hbx) (by omega) (by omega) hB hsmA ?_
    intro u33 u34 u35 u36 u37 u38 u39 u40 u41 g7 vN vD wc hT hN7 hD7 hg7 hbc
    have hN7' := hN7
    have hD7' := hD7
    obtain ⟨A6, c6, rfl, _, _, _⟩ := hN7'
    obtain ⟨A7, c7, rfl, _, _, _⟩ := hD7'
    replace hB := hB.below hbc
    replace hS := hS.below hbc
    replace hN3 := hN3.below hbc
    replace hD3 := hD3.below hbc
    replace fhB := hB.facts
    replace fhS := hS.facts
    have fhT := hT.facts
    have hbwc : Below w.heap.size w wc := bl_then hbc hbx
    clear hbc hbx hsmA
    go_wp2_with fail
    refine (torn_any N D _ (hN.below (by (repeat (first | exact bl_refl | assumption | (apply bl_then; assumption) | refine bl_alloc ?_ _ | refine bl_drew ?_ | refine bl_drewN ?_ _)))) (hD.below (by (repeat (first | exact bl_refl | assumption | (apply bl_then; assumption) | refine bl_alloc ?_ _ | refine bl_drew ?_ | refine bl_drewN ?_ _)))) (by omega) (by omega)).mono ?_
    rintro e w8 ⟨v8, u8, rfl, hN8, hD8, hb8⟩
    replace hB := hB.below (show Below _ _ w8 by (repeat (first | exact bl_refl | assumption | (apply bl_then; assumption) | refine bl_alloc ?_ _ | refine bl_drew ?_ | refine bl_drewN ?_ _)))
    replace fhB := hB.facts
    replace hS := hS.below (show Below _ _ w8 by (repeat (first | exact bl_refl | assumption | (apply bl_then; assumption) | refine bl_alloc ?_ _ | refine bl_drew ?_ | refine bl_drewN ?_ _)))
    replace fhS := hS.facts
    replace hT := hT.below (show Below _ _ w8 by (repeat (first | exact bl_refl | assumption | (apply bl_then; assumption) | refine bl_alloc ?_ _ | refine bl_drew ?_ | refine bl_drewN ?_ _)))
    replace fhT := hT.facts
    go_wp2_with fail
    refine (hin _ (hN8.rd bc_len) (hD8.rd bc_len)).mono ?_
    rintro e w9 ⟨v9, rfl, hI9, hb9⟩
    replace hB := hB.below (show Below _ _ w9 by (repeat (first | exact bl_refl | assumption | (apply bl_then; assumption) | refine bl_alloc ?_ _ | refine bl_drew ?_ | refine bl_drewN ?_ _)))
    replace fhB := hB.facts
    replace hS := hS.below (show Below _ _ w9 by (repeat (first | exact bl_refl | assumption | (apply bl_then; assumption) | refine bl_alloc ?_ _ | refine bl_drew ?_ | refine bl_drewN ?_ _)))
    replace fhS := hS.facts
    replace hT := hT.below (show Below _ _ w9 by (repeat (first | exact bl_refl | assumption | (apply bl_then; assumption) | refine bl_alloc ?_ _ | refine bl_drew ?_ | refine bl_drewN ?_ _)))
    replace fhT := hT.facts
    obtain ⟨A9, c9, rfl⟩ := hI9.shape
    have hI9' : SlB w9 _ _ := hI9.rd bc_len
    replace hN3 := hN3.below (show Below _ _ w9 by (repeat (first | exact bl_refl | assumption | (apply bl_then; assumption) | refine bl_alloc ?_ _ | refine bl_drew ?_ | refine bl_drewN ?_ _)))
    replace hD3 := hD3.below (show Below _ _ w9 by (repeat (first | exact bl_refl | assumption | (apply bl_then; assumption) | refine bl_alloc ?_ _ | refine bl_drew ?_ | refine bl_drewN ?_ _)))
    replace hN7 := hN7.below (show Below _ _ w9 by (repeat (first | exact bl_refl | assumption | (apply bl_then; assumption) | refine bl_alloc ?_ _ | refine bl_drew ?_ | refine bl_drewN ?_ _)))
    have hbw9 : Below w.heap.size w w9 := by (repeat (first | exact bl_refl | assumption | (apply bl_then; assumption) | refine bl_alloc ?_ _ | refine bl_drew ?_ | refine bl_drewN ?_ _))
    clear hN8 hD8 hI9 hb8 hb9 hbwc hin
    go_upto_region 6 with fail
    refine fills_r6 (hN.below hbw9) (hD.below hbw9) (by omega) (by omega) hB hS hT hN3 hD3 hN7 hI9' hcp hcI ?_
    intro u48 u49 u50 u51 u52 u53 u54 u55 u56 u57 u58 u59 u60 u61 u62 u63 u64 u65 u66 u67 u68 u69 u70 u71 u72 u73 u74 u75 u76 u77 u78 u79 u80 u81 u82 u83 u84 u85 u86 u87 u88 u89 u90 u91 u92 u93 u94 u95 u96 u97 u98 u99 u100 u101 u102 w16 hb16
    replace hB := hB.below hb16
    replace fhB := hB.facts
    have hI16 : SlB w16 _ _ := hI9'.below hb16
    have hbw16 : Below w.heap.size w w16 := bl_then hb16 hbw9
    clear hb16 hcp hcI hbw9 hS hT fhS fhT hN3 hD3 hN7 hD7 hI9'
    go_wp2_with fail
    refine (torn_any N D _ (hN.below (by (repeat (first | exact bl_refl | assumption | (apply bl_then; assumption) | refine bl_alloc ?_ _ | refine bl_drew ?_ | refine bl_drewN ?_ _)))) (hD.below (by (repeat (first | exact bl_refl | assumption | (apply bl_then; assumption) | refine bl_alloc ?_ _ | refine bl_drew ?_ | refine bl_drewN ?_ _)))) (by omega) (by omega)).mono ?_
    rintro e w17 ⟨v17, u17, rfl, hN17, hD17, hb17⟩
    replace hB := hB.below (show Below _ _ w17 by (repeat (first | exact bl_refl | assumption | (apply bl_then; assumption) | refine bl_alloc ?_ _ | refine bl_drew ?_ | refine bl_drewN ?_ _)))
    replace fhB := hB.facts
    go_wp2_with fail
    refine (bars_any I _ (hI16.below (by (repeat (first | exact bl_refl | assumption | (apply bl_then; assumption) | refine bl_alloc ?_ _ | refine bl_drew ?_ | refine bl_drewN ?_ _)))) (by omega)).mono ?_
    rintro e w18 ⟨v18, rfl, hP18, hb18⟩
    replace hB := hB.below (show Below _ _ w18 by (repeat (first | exact bl_refl | assumption | (apply bl_then; assumption) | refine bl_alloc ?_ _ | refine bl_drew ?_ | refine bl_drewN ?_ _)))
    replace fhB := hB.facts
    go_wp2_with fail
    refine (hsI _ ((hN17.rd bc_len).below (by (repeat (first | exact bl_refl | assumption | (apply bl_then; assumption) | refine bl_alloc ?_ _ | refine bl_drew ?_ | refine bl_drewN ?_ _)))) ((hD17.rd bc_len).below (by (repeat (first | exact bl_refl | assumption | (apply bl_then; assumption) | refine bl_alloc ?_ _ | refine bl_drew ?_ | refine bl_drewN ?_ _)))) (hP18.rd bc_len)).mono ?_
    rintro e w19 ⟨v19, u19, rfl, hN19, hJ19, _, hb19⟩
    replace hB := hB.below (show Below _ _ w19 by (repeat (first | exact bl_refl | assumption | (apply bl_then; assumption) | refine bl_alloc ?_ _ | refine bl_drew ?_ | refine bl_drewN ?_ _)))
    replace fhB := hB.facts
    obtain ⟨A19, c19, rfl⟩ := hN19.shape
    obtain ⟨A20, c20, rfl⟩ := hJ19.shape
    have hI19 : SlB w19 _ _ := hI16.below (show Below _ _ w19 by (repeat (first | exact bl_refl | assumption | (apply bl_then; assumption) | refine bl_alloc ?_ _ | refine bl_drew ?_ | refine bl_drewN ?_ _)))
    have hbw19 : Below w.heap.size w w19 := by (repeat (first | exact bl_refl | assumption | (apply bl_then; assumption) | refine bl_alloc ?_ _ | refine bl_drew ?_ | refine bl_drewN ?_ _))
    have hJ19' : SlB w19 _ _ := hJ19.rd bc_len
    clear hN17 hD17 hP18 hb17 hb18 hb19 hbw16 hI16 hN19 hJ19 hsI
    as_aux_lemma =>
      have hS := Blk.new w19 32 #[.slice A19 N.length c19, .slice A20 J.length c20]
      replace hB := hB.alloc (.cells #[.slice A19 N.length c19, .slice A20 J.length c20] 32)
      have hJ20 := hJ19'.alloc (.cells #[.slice A19 N.length c19, .slice A20 J.length c20] 32)
      have hI20 := hI19.alloc (.cells #[.slice A19 N.length c19, .slice A20 J.length c20] 32)
      have hbx : Below w.heap.size w (w19.alloc (.cells #[.slice A19 N.length c19, .slice A20 J.length c20] 32)) := bl_alloc hbw19 _
      obtain ⟨g19, hg19⟩ : ∃ g, w19.heap.size = g := ⟨_, rfl⟩
      rw [hg19] at hS
      go_upto_region 9 with fail
      obtain ⟨wy, hwy⟩ : ∃ X, w19.alloc (.cells #[.slice A19 N.length c19, .slice A20 J.length c20] 32) = X := ⟨_, rfl⟩
      rw [hwy] at hB hS hJ20 hI20 hbx ⊢
      replace fhB := hB.facts
      have fhS := hS.facts
      clear hJ19' hI19 hbw19 hwy hg19
      have hI20' := hI20
      obtain ⟨AI, cI, hAI, _, _, hrI⟩ := hI20'
      obtain ⟨rfl, rfl⟩ : A9 = AI ∧ c9 = cI := by simpa using hAI
      clear hAI
      have hJn' := Lib.hid hJn
      clear hJn
      go_wp2_with fail
      go_loopw [128] (fun i wr => ∃ k : Nat, k ≤ I.length ∧ i = .int .i64 k ∧ Below wy.heap.size wy wr) (fun i _ => I.length - (intOf i).toNat)
      case atStart => exact ⟨0, Nat.zero_le _, rfl, by (repeat (first | exact bl_refl | assumption | (apply bl_then; assumption) | refine bl_alloc ?_ _ | refine bl_drew ?_ | refine bl_drewN ?_ _))⟩
      case round =>
        as_aux_lemma =>
          obtain ⟨k, hk, rfl, hbr⟩ := hrel
          replace hB := hB.below hbr
          replace hS := hS.below hbr
          replace fhB := hB.facts
          replace fhS := hS.facts
          replace hJ20 := hJ20.below hbr
          by_cases hlt : k < I.length
          · have hr := hrI.below hbr
            obtain ⟨b, off, rfl, hb, e0, e1, e2⟩ := hr.bar hlt
            have hno := Lib.hid (hJn'.out _ (List.getElem_mem hlt))
            obtain ⟨⟨x, y, s⟩, hx⟩ : ∃ z, I[k] = z := ⟨_, rfl⟩
            rw [hx] at e0 e1 e2 hno
            simp only at e0 e1 e2
            have hB1 := Blk.new wr 70 #[.int .i64 x, .int .i64 y, .int .i64 s]
            have fhB1 := hB1.facts
            have hS1 := hS.alloc (.cells #[.int .i64 x, .int .i64 y, .int .i64 s] 70)
            have fhS1 := hS1.facts
            have hh : ∀ W, SlB W (.slice A20 J.length c20) J → Calls Tryz.prog 46 #[.slice A20 J.length c20, .agg #[.int .i64 x, .int .i64 y, .int .i64 s]] W (RV W (.bool false)) := fun W h => by
              have := has_any J x y s W h
              rwa [hno.out] at this
            go_wp2_with (go_at_call 46; refine (hh _ (hJ20.below (by (repeat (first | exact bl_refl | assumption | (apply bl_then; assumption) | refine bl_alloc ?_ _ | refine bl_drew ?_ | refine bl_drewN ?_ _))))).mono ?_; rintro e w20 ⟨rfl, hb20⟩)
            go_roundw
            case rel => exact ⟨k + 1, by omega, by go_num, by (repeat (first | exact bl_refl | assumption | (apply bl_then; assumption) | refine bl_alloc ?_ _ | refine bl_drew ?_ | refine bl_drewN ?_ _))⟩
            case measure => simp [intOf]; omega
          · have hbwr : Below w.heap.size w wr := bl_then hbr hbx
            clear hJ20 hrI hI20 hS fhS hJn' hbx
            by_cases h0 : D.length = 0
            · have h0' : ((D.length : Int) == 0) = true := by simp [h0]
              go_wp2_with fail
              refine (awake_any _).mono ?_
              rintro e w21 ⟨rfl, hb21⟩
              go_wp2
              go_ret
              exact ⟨rfl, by (repeat (first | exact bl_refl | assumption | (apply bl_then; assumption) | refine bl_alloc ?_ _ | refine bl_drew ?_ | refine bl_drewN ?_ _))⟩
            · have h0' : ((D.length : Int) == 0) = false := beq_false_of_ne (by omega)
              have hm0 : ∃ m : Nat, m < D.length ∧ at'.tmod (D.length : Int) = (m : Int) := by
                rw [Int.tmod_eq_emod_of_nonneg hat.1]
                have h1 := Int.emod_nonneg at' (show (D.length : Int) ≠ 0 by omega)
                have h2 := Int.emod_lt_of_pos at' (show (0 : Int) < D.length by omega)
                exact ⟨(at' % (D.length : Int)).toNat, by omega, by omega⟩
              obtain ⟨m, hmlt, hm⟩ := hm0
              obtain ⟨⟨x, y, s⟩, hx⟩ : ∃ z, D[m] = z := ⟨_, rfl⟩
              have hmem : (x, y, s) ∈ D := by rw [← hx]; exact List.getElem_mem hmlt
              have hsub1 : [(x, y, s)].Sublist D := List.singleton_sublist.2 hmem
              have hsmK : ∀ {v u z : Value} (w : World) (hN : SlB w v N) (hD : SlB w u D) (hP : SlB w z [(x, y, s)]), Calls Tryz.prog 35 #[.agg #[v, u], z] w (RTE w N (wout D [(x, y, s)]) 0) := fun w hN hD hP => seam_sub N D _ hOK.out.1 hsub1 w hN hD hP
              have hsE := torn_sub hOK.out.1 (wout_sub D [(x, y, s)])
              have hmem2 : ∀ b, b ∈ wout D [(x, y, s)] ↔ b ∈ D ∧ b ≠ (x, y, s) := fun b => by rw [wout_mem]; simp
              have hod2 := odd_less (D := D) (D' := wout D [(x, y, s)]) (fun b hb => (hOK.out.2.dam.ok b hb).2.2) hOK.out.2.dam.nodup hmem2
              have hev1 := odd_even hOK.out.2.dam.nodup (fun b hb => (hOK.out.2.dam.ok b hb).2.2)
              have hev2 := odd_even (hOK.out.2.dam.nodup.sublist (wout_sub D [(x, y, s)])) (fun b hb => (hOK.out.2.dam.ok b ((wout_sub D [(x, y, s)]).subset hb)).2.2)
              have hwl := wout_length hOK.out.2.dam.nodup (P := [(x, y, s)]) (by simp) (fun b hb => hsub1.subset hb)
              have hno : hasb (wout D [(x, y, s)]) (x, y, s) = false := by
                rw [hasb_not]; intro h; exact ((hmem2 _).1 h).2 rfl
              have hOdd2 : ∀ {v u : Value} (w : World) (hN : SlB w v N) (hD : SlB w u (wout D [(x, y, s)])), Calls Tryz.prog 42 #[.agg #[v, u]] w (RKE w (oddK (wout D [(x, y, s)])) 0) := fun w hN hD => by
                have := podd_any N (wout D [(x, y, s)]) w hN hD
                rwa [show oddR N (wout D [(x, y, s)]) = oddK (wout D [(x, y, s)]) by unfold oddR; rw [if_pos hsE], hsE] at this
              have hhs : ∀ {v : Value} (w : World) (h : SlB w v (wout D [(x, y, s)])), Calls Tryz.prog 46 #[v, .agg #[.int .i64 x, .int .i64 y, .int .i64 s]] w (RV w (.bool false)) := fun w h => by
                have := has_any (wout D [(x, y, s)]) x y s w h
                rwa [hno] at this
              obtain ⟨K, hK⟩ : ∃ K, wout D [(x, y, s)] = K := ⟨_, rfl⟩
              obtain ⟨P, hP⟩ : ∃ P, oddK D = P := ⟨_, rfl⟩
              rw [hP] at hod2 hev1
              simp only [hP] at hOdd
              simp only [hK] at hsmK hod2 hev2 hwl hOdd2 hhs
              obtain ⟨Q, hQ⟩ : ∃ Q, oddK K = Q := ⟨_, rfl⟩
              simp only [hQ] at hod2 hev2 hOdd2
              simp only [List.length_cons, List.length_nil] at hwl
              have hK' : ((K.length : Int) != (D.length : Int) - 1) = false := by simp; omega
              clear hno hmem2 hsE hsub1 hmem hK hP hQ
              go_upto_region 20 with fail
              have hNr := hN.below hbwr
              have hDr := hD.below hbwr
              refine fills_r20 hmlt hx hNr hDr (by omega) (by omega) hB hsmK ?_
              intro u148 u149 u150 u151 u152 u153 u154 u155 u156 u157 u158 u159 u160 g20 vN vD w20 hT hN20 hK20 hg20 hbc
              have hN20' := hN20
              have hK20' := hK20
              obtain ⟨A30, c30, rfl, _, _, _⟩ := hN20'
              obtain ⟨A31, c31, rfl, _, _, _⟩ := hK20'
              replace hB := hB.below hbc
              replace fhB := hB.facts
              have fhT := hT.facts
              have hN21 := hNr.below hbc
              have hD21 := hDr.below hbc
              have hbw20 : Below w.heap.size w w20 := bl_then hbc hbwr
              clear hbc hbwr hsmK hNr hDr hg20
              go_wp2_with fail
              refine (torn_any N D _ (hN21.below (by (repeat (first | exact bl_refl | assumption | (apply bl_then; assumption) | refine bl_alloc ?_ _ | refine bl_drew ?_ | refine bl_drewN ?_ _)))) (hD21.below (by (repeat (first | exact bl_refl | assumption | (apply bl_then; assumption) | refine bl_alloc ?_ _ | refine bl_drew ?_ | refine bl_drewN ?_ _)))) (by omega) (by omega)).mono ?_
              rintro e w21 ⟨v21, u21, rfl, hN22, hD22, hb21⟩
              replace hB := hB.below (show Below _ _ w21 by (repeat (first | exact bl_refl | assumption | (apply bl_then; assumption) | refine bl_alloc ?_ _ | refine bl_drew ?_ | refine bl_drewN ?_ _)))
              replace fhB := hB.facts
              replace hT := hT.below (show Below _ _ w21 by (repeat (first | exact bl_refl | assumption | (apply bl_then; assumption) | refine bl_alloc ?_ _ | refine bl_drew ?_ | refine bl_drewN ?_ _)))
              replace fhT := hT.facts
              go_wp2_with fail
              refine (hOdd _ (hN22.rd bc_len) (hD22.rd bc_len)).mono ?_
              rintro e w22 ⟨v22, rfl, hP22, hb22⟩
              replace hB := hB.below (show Below _ _ w22 by (repeat (first | exact bl_refl | assumption | (apply bl_then; assumption) | refine bl_alloc ?_ _ | refine bl_drew ?_ | refine bl_drewN ?_ _)))
              replace fhB := hB.facts
              replace hT := hT.below (show Below _ _ w22 by (repeat (first | exact bl_refl | assumption | (apply bl_then; assumption) | refine bl_alloc ?_ _ | refine bl_drew ?_ | refine bl_drewN ?_ _)))
              replace fhT := hT.facts
              obtain ⟨A22, c22, rfl⟩ := hP22.shape
              go_wp2_with fail
              refine (hOdd2 _ (hN20.below (by (repeat (first | exact bl_refl | assumption | (apply bl_then; assumption) | refine bl_alloc ?_ _ | refine bl_drew ?_ | refine bl_drewN ?_ _)))) (hK20.below (by (repeat (first | exact bl_refl | assumption | (apply bl_then; assumption) | refine bl_alloc ?_ _ | refine bl_drew ?_ | refine bl_drewN ?_ _))))).mono ?_
              rintro e w23 ⟨v23, rfl, hQ23, hb23⟩
              replace hB := hB.below (show Below _ _ w23 by (repeat (first | exact bl_refl | assumption | (apply bl_then; assumption) | refine bl_alloc ?_ _ | refine bl_drew ?_ | refine bl_drewN ?_ _)))
              replace fhB := hB.facts
              replace hT := hT.below (show Below _ _ w23 by (repeat (first | exact bl_refl | assumption | (apply bl_then; assumption) | refine bl_alloc ?_ _ | refine bl_drew ?_ | refine bl_drewN ?_ _)))
              replace fhT := hT.facts
              obtain ⟨A23, c23, rfl⟩ := hQ23.shape
              have hD23 := hD21.below (show Below _ _ w23 by (repeat (first | exact bl_refl | assumption | (apply bl_then; assumption) | refine bl_alloc ?_ _ | refine bl_drew ?_ | refine bl_drewN ?_ _)))
              have hK23 := hK20.below (show Below _ _ w23 by (repeat (first | exact bl_refl | assumption | (apply bl_then; assumption) | refine bl_alloc ?_ _ | refine bl_drew ?_ | refine bl_drewN ?_ _)))
              obtain ⟨A2', c2', e2, _, _, hrD⟩ := hD23
              obtain ⟨rfl, rfl⟩ : A2 = A2' ∧ c2 = c2' := by simpa using e2
              obtain ⟨bD, oD, hAD, hbD, k0, k1, k2⟩ := hrD.bar hmlt
              subst hAD
              rw [hx] at k0 k1 k2
              simp only at k0 k1 k2
              have hmlI : (m : Int) < (D.length : Int) := by omega
              have hz : ∃ z : Int, (Q.length : Int) - (P.length : Int) = z ∧ (z = -2 ∨ z = 0 ∨ z = 2) := ⟨_, rfl, by omega⟩
              obtain ⟨z, hzz, hz3⟩ := hz
              clear hx hev1 hev2 hod2 hwl
              go_upto_region 23 with fail
              refine wp_region_ords [0, 1, 2, 3, 4, 5, 6, 7, 8, 9, 10, 11, 12, 13, 14, 15, 16, 17, 18, 19, 20, 21, 22, 23, 24, 25, 26, 27] [] [28, 29] (by kernel_rfl) (by kernel_rfl) (fun d _ _ _ _ h => by cases d <;> exact h) ?_
              simp only [List.map_cons, List.map_nil, List.getD_cons_zero, List.getD_cons_succ]
              repeat (go_big_quiet_step (fail))
              refine wpQuiet_nil ?_
              refine wpMid_nil ?_
              go_wp2_with fail
              refine (hhs _ (hK23.below (by (repeat (first | exact bl_refl | assumption | (apply bl_then; assumption) | refine bl_alloc ?_ _ | refine bl_drew ?_ | refine bl_drewN ?_ _))))).mono ?_
              rintro e w24 ⟨rfl, hb24⟩
              rcases hz3 with rfl | rfl | rfl
              all_goals
                go_wp2_with fail
                refine (awake_any _).mono ?_
                rintro e w25 ⟨rfl, hb25⟩
                go_wp2
                go_ret
                exact ⟨rfl, by (repeat (first | exact bl_refl | assumption | (apply bl_then; assumption) | refine bl_alloc ?_ _ | refine bl_drew ?_ | refine bl_drewN ?_ _))⟩
end Go.Proofs.YthcnngoaijgnoaaGreat

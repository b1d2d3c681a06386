/- Rest, walked. Conditions: none. -/
import Derived.Test.YtkkefahobjlagaaGreatDoorQ31
import Derived.Test.YtkkefahobjlagaaGreatDoorQ14
namespace Go.Proofs.YtkkefahobjlagaaGreatDoor
open Go.RowKit Go.ChangeMaps
set_option maxHeartbeats 4000000
set_option maxRecDepth 100000
attribute [local go_sem] Oper.semAt_some
theorem frm_near {p : Pan} (hok : PanOk p) : -100001 ≤ frmX p ∧ frmX p ≤ 100000 ∧ 0 ≤ frmC p ∧ frmC p ≤ 100001 := by
 have hal : ∀ k ∈ allP p, -100000 ≤ k.1 ∧ k.1 ≤ 100000 := by
  intro k hk
  rcases List.mem_append.1 hk with hk | hk
  ·obtain ⟨i, hi, rfl⟩ := List.getElem_of_mem hk
   have := (hok.asc false).near i hi
   omega
  ·obtain ⟨i, hi, rfl⟩ := List.getElem_of_mem hk
   have := (hok.asc true).near i hi
   omega
 have hne := lmF_near hal (0, 0) (by simp)
 have hle := lmF_le (l := allP p) (0, 0) (Int.le_refl _)
 have h1 : lmP p = lmF (allP p) (0, 0) := rfl
 rw [← h1] at hne hle
 unfold frmC frmX
 split <;> omega
def restE (p : Pan) : Int := if netErr p ≠ 0 then netErr p else if 256 < frmC p ∨ 4096 < 2 * frmC p * heightP p then 5 else if sheetE (frmX p) 0 (frmC p) (heightP p) ≠ 0 then sheetE (frmX p) 0 (frmC p) (heightP p) else putE minusK (sheetL (frmX p) 0 (frmC p) (heightP p)) (netL p)
def restL (p : Pan) : List Bar := if restE p = 0 then mergeL minusK (sheetL (frmX p) 0 (frmC p) (heightP p)) (netL p) else []
theorem apiRest_any {vL vR : Value} (p : Pan) (w : World) (hnm : p.1.length ≤ 1000000) (hL : SlE w vL p.2.2.1) (hR : SlE w vR p.2.2.2) :
    Calls Tryz.prog 46 #[.agg #[sV p.1, .int .i64 p.2.1, vL, vR]] w (RBE w (restL p) (restE p)) := by
  have hn := fun W (hb : Below w.heap.size w W) => net_any p W hnm (hL.below hb) (hR.below hb)
  by_cases hE : netErr p = 0
  · obtain ⟨hE0, hl⟩ := netErr_zero hE
    have hok := panE_zero hE0
    have hbd := fun W (hb : Below w.heap.size w W) => around_any p W (hL.below hb) (hR.below hb) hok
    obtain ⟨H, hH⟩ : ∃ H : Nat, heightP p = H := ⟨(heightP p).toNat, by have := hok.high; omega⟩
    have hHb : H ≤ 256 := by have := hok.high; omega
    obtain ⟨hx1, hx2, hc1, hc2⟩ := frm_near hok
    have HN : Hid (onlyOk (netErr p) (netL p) = netL p) := by unfold Hid onlyOk; rw [if_pos hE]
    have HF : frmA p = #[.int .i64 (frmX p), .int .i64 0, .int .i64 (frmC p), .int .i64 H] := by unfold frmA; rw [hH]
    have HR : restE p = if 256 < frmC p ∨ 4096 < 2 * frmC p * (H : Int) then 5 else if sheetE (frmX p) 0 (frmC p) H ≠ 0 then sheetE (frmX p) 0 (frmC p) H else putE minusK (sheetL (frmX p) 0 (frmC p) H) (netL p) := by
      unfold restE; rw [if_neg (by simp [hE]), hH]
    have HL : restL p = if restE p = 0 then mergeL minusK (sheetL (frmX p) 0 (frmC p) H) (netL p) else [] := by unfold restL; rw [hH]
    rw [HN.out, hE] at hn
    rw [HF] at hbd
    obtain ⟨X, hX⟩ : ∃ X, frmX p = X := ⟨_, rfl⟩
    obtain ⟨C, hC⟩ : ∃ C : Nat, frmC p = C := ⟨(frmC p).toNat, by omega⟩
    obtain ⟨T, hT⟩ : ∃ T, netL p = T := ⟨_, rfl⟩
    rw [hX] at hx1 hx2 hbd HR HL
    rw [hC] at hc1 hc2 hbd HR HL
    rw [hT] at hn hl HR HL
    obtain ⟨AL, cL, rfl, _, _, _⟩ := hL
    obtain ⟨AR, cR, rfl, _, _, _⟩ := hR
    unfold sV at hn hbd ⊢
    have hP := Blk.new w 30 #[.string ⟨p.1.toArray⟩, .int .i64 p.2.1, .slice AL p.2.2.1.length cL, .slice AR p.2.2.2.length cR]
    have fhP := hP.facts
    have hm1 : 2 * (C : Int) * (H : Int) ≤ 2 * 100001 * 256 := by
      have := Nat.mul_le_mul (show 2 * C ≤ 2 * 100001 by omega) hHb
      have h2 : ((2 * C * H : Nat) : Int) ≤ ((2 * 100001 * 256 : Nat) : Int) := Int.ofNat_le.2 this
      simpa using h2
    have hm0 : 0 ≤ 2 * (C : Int) * (H : Int) := Int.mul_nonneg (by omega) (by omega)
    obtain ⟨RE, hRE⟩ : ∃ X, restE p = X := ⟨_, rfl⟩
    obtain ⟨RL, hRL⟩ : ∃ X, restL p = X := ⟨_, rfl⟩
    rw [hRE] at HR HL ⊢
    rw [hRL] at HL ⊢
    clear hE hE0 hnm hH HF hX hC hT hRE hRL HN hok
    by_cases h1 : 256 < C
    · have HS : Hid (RE = 5 ∧ RL = []) := by
        have : RE = 5 := by rw [HR, if_pos (.inl (by omega))]
        exact ⟨this, by rw [HL, this]; rfl⟩
      have h1' : (256 < (C : Int)) = True := eq_true (by omega)
      clear h1 HR HL
      go_enter Tryz.func46, Tryz.ntmps46
      go_wp2_with fail
      refine (hn _ (by (repeat first|exact J0|assumption|(apply J1;assumption)|apply J2|apply J3|apply J4))).mono ?_
      rintro e w2 ⟨v2, rfl, hO2, hb2⟩
      replace hP := hP.below (show Below _ _ w2 by (repeat first|exact J0|assumption|(apply J1;assumption)|apply J2|apply J3|apply J4))
      replace fhP := hP.facts
      obtain ⟨A2, c2, rfl⟩ := hO2.shape
      go_wp2_with fail
      refine (hbd _ (by (repeat first|exact J0|assumption|(apply J1;assumption)|apply J2|apply J3|apply J4))).mono ?_
      rintro e w3 ⟨rfl, hb3⟩
      replace hP := hP.below (show Below _ _ w3 by (repeat first|exact J0|assumption|(apply J1;assumption)|apply J2|apply J3|apply J4))
      replace fhP := hP.facts
      go_wp2
      go_ret2
      exact ⟨_, by rw [HS.out.1]; rfl, by rw [HS.out.2]; exact Own.nil_, by (repeat first|exact J0|assumption|(apply J1;assumption)|apply J2|apply J3|apply J4)⟩
    · by_cases h2 : 4096 < 2 * (C : Int) * (H : Int)
      · have HS : Hid (RE = 5 ∧ RL = []) := by
          have : RE = 5 := by rw [HR, if_pos (.inr h2)]
          exact ⟨this, by rw [HL, this]; rfl⟩
        have h1' : (256 < (C : Int)) = False := eq_false (by omega)
        have h2' : (4096 < 2 * (C : Int) * (H : Int)) = True := eq_true h2
        clear h1 h2 HR HL
        go_enter Tryz.func46, Tryz.ntmps46
        go_wp2_with fail
        refine (hn _ (by (repeat first|exact J0|assumption|(apply J1;assumption)|apply J2|apply J3|apply J4))).mono ?_
        rintro e w2 ⟨v2, rfl, hO2, hb2⟩
        replace hP := hP.below (show Below _ _ w2 by (repeat first|exact J0|assumption|(apply J1;assumption)|apply J2|apply J3|apply J4))
        replace fhP := hP.facts
        obtain ⟨A2, c2, rfl⟩ := hO2.shape
        go_wp2_with fail
        refine (hbd _ (by (repeat first|exact J0|assumption|(apply J1;assumption)|apply J2|apply J3|apply J4))).mono ?_
        rintro e w3 ⟨rfl, hb3⟩
        replace hP := hP.below (show Below _ _ w3 by (repeat first|exact J0|assumption|(apply J1;assumption)|apply J2|apply J3|apply J4))
        replace fhP := hP.facts
        go_wp2
        go_ret2
        exact ⟨_, by rw [HS.out.1]; rfl, by rw [HS.out.2]; exact Own.nil_, by (repeat first|exact J0|assumption|(apply J1;assumption)|apply J2|apply J3|apply J4)⟩
      · have h1' : (256 < (C : Int)) = False := eq_false (by omega)
        have h2' : (4096 < 2 * (C : Int) * (H : Int)) = False := eq_false h2
        rw [if_neg (by intro h; rcases h with h | h <;> omega)] at HR
        have hsh := fun W => apiSheet_any X 0 C H W
        obtain ⟨SE, hSE⟩ : ∃ E, sheetE X 0 C H = E := ⟨_, rfl⟩
        obtain ⟨SL, hSL⟩ : ∃ E, sheetL X 0 C H = E := ⟨_, rfl⟩
        rw [hSE, hSL] at hsh HR
        rw [hSL] at HL
        clear h1 h2 hSE hSL
        by_cases h3 : SE = 0
        · subst h3
          have HP : Hid (RE = putE minusK SL T ∧ RL = putL minusK SL T) := by
            have : RE = putE minusK SL T := by rw [HR, if_neg (by simp)]
            refine ⟨this, ?_⟩
            rw [HL, this]
            rfl
          clear HR HL
          go_enter Tryz.func46, Tryz.ntmps46
          go_wp2_with fail
          refine (hn _ (by (repeat first|exact J0|assumption|(apply J1;assumption)|apply J2|apply J3|apply J4))).mono ?_
          rintro e w2 ⟨v2, rfl, hO2, hb2⟩
          replace hP := hP.below (show Below _ _ w2 by (repeat first|exact J0|assumption|(apply J1;assumption)|apply J2|apply J3|apply J4))
          replace fhP := hP.facts
          obtain ⟨A2, c2, rfl⟩ := hO2.shape
          go_wp2_with fail
          refine (hbd _ (by (repeat first|exact J0|assumption|(apply J1;assumption)|apply J2|apply J3|apply J4))).mono ?_
          rintro e w3 ⟨rfl, hb3⟩
          replace hP := hP.below (show Below _ _ w3 by (repeat first|exact J0|assumption|(apply J1;assumption)|apply J2|apply J3|apply J4))
          replace fhP := hP.facts
          go_wp2_with (go_at_call 111; refine (hsh _).mono ?_; rintro e w4 ⟨v4, rfl, hO4, hb4⟩; obtain ⟨A4, c4, rfl⟩ := hO4.shape)
          have hb24 : Below w2.heap.size w2 w4 := by (repeat first|exact J0|assumption|(apply J1;assumption)|apply J2|apply J3|apply J4)
          have hbw4 : Below w.heap.size w w4 := by (repeat first|exact J0|assumption|(apply J1;assumption)|apply J2|apply J3|apply J4)
          have hSl4 := hO4.rd bc_len
          have hSl2 := (hO2.rd bc_len).below hb24
          go_wp2_with (go_at_call 112; refine (apiMinus1_any _ _ _ hSl4 hSl2).mono ?_; rintro e w5 ⟨v5, rfl, hO5, hb5⟩; obtain ⟨A5, c5, rfl⟩ := hO5.shape)
          go_wp2
          go_ret2
          exact ⟨_, by rw [HP.out.1]; rfl, by rw [HP.out.2]; exact hO5.base_mono hbw4.size, by (repeat first|exact J0|assumption|(apply J1;assumption)|apply J2|apply J3|apply J4)⟩
        · have HS : Hid (RE = SE ∧ RL = []) := by
            have : RE = SE := by rw [HR, if_pos h3]
            exact ⟨this, by rw [HL, this, if_neg h3]⟩
          have h3' : (SE != 0) = true := by simpa using h3
          clear h3 HR HL
          go_enter Tryz.func46, Tryz.ntmps46
          go_wp2_with fail
          refine (hn _ (by (repeat first|exact J0|assumption|(apply J1;assumption)|apply J2|apply J3|apply J4))).mono ?_
          rintro e w2 ⟨v2, rfl, hO2, hb2⟩
          replace hP := hP.below (show Below _ _ w2 by (repeat first|exact J0|assumption|(apply J1;assumption)|apply J2|apply J3|apply J4))
          replace fhP := hP.facts
          obtain ⟨A2, c2, rfl⟩ := hO2.shape
          go_wp2_with fail
          refine (hbd _ (by (repeat first|exact J0|assumption|(apply J1;assumption)|apply J2|apply J3|apply J4))).mono ?_
          rintro e w3 ⟨rfl, hb3⟩
          replace hP := hP.below (show Below _ _ w3 by (repeat first|exact J0|assumption|(apply J1;assumption)|apply J2|apply J3|apply J4))
          replace fhP := hP.facts
          go_wp2_with (go_at_call 111; refine (hsh _).mono ?_; rintro e w4 ⟨v4, rfl, hO4, hb4⟩; obtain ⟨A4, c4, rfl⟩ := hO4.shape)
          go_wp2
          go_ret2
          exact ⟨_, by rw [HS.out.1]; rfl, by rw [HS.out.2]; exact Own.nil_, by (repeat first|exact J0|assumption|(apply J1;assumption)|apply J2|apply J3|apply J4)⟩
  · have HS : Hid (restE p = netErr p ∧ restL p = []) := by
      have : restE p = netErr p := by unfold restE; rw [if_pos hE]
      exact ⟨this, by unfold restL; rw [this, if_neg hE]⟩
    have t0 : (netErr p != 0) = true := by simp [hE]
    obtain ⟨E, hEE⟩ : ∃ E, netErr p = E := ⟨_, rfl⟩
    rw [HS.out.1, HS.out.2]
    rw [hEE] at hn t0 ⊢
    obtain ⟨AL, cL, rfl, _, _, _⟩ := hL
    obtain ⟨AR, cR, rfl, _, _, _⟩ := hR
    unfold sV at hn ⊢
    have hP := Blk.new w 30 #[.string ⟨p.1.toArray⟩, .int .i64 p.2.1, .slice AL p.2.2.1.length cL, .slice AR p.2.2.2.length cR]
    have fhP := hP.facts
    clear hE hEE hnm HS
    go_enter Tryz.func46, Tryz.ntmps46
    go_wp2_with fail
    refine (hn _ (by (repeat first|exact J0|assumption|(apply J1;assumption)|apply J2|apply J3|apply J4))).mono ?_
    rintro e w2 ⟨v2, rfl, hO2, hb2⟩
    replace hP := hP.below (show Below _ _ w2 by (repeat first|exact J0|assumption|(apply J1;assumption)|apply J2|apply J3|apply J4))
    replace fhP := hP.facts
    obtain ⟨A2, c2, rfl⟩ := hO2.shape
    go_wp2
    go_ret2
    exact ⟨_, rfl, Own.nil_, by (repeat first|exact J0|assumption|(apply J1;assumption)|apply J2|apply J3|apply J4)⟩
theorem Sl.rd_ {α : Type} {enc : α → List Value} {sz : Nat} {w : World} {A : Option Addr} {n c : Nat} {l : List α} (h : Sl enc sz w (.slice A n c) l) : Rd enc sz w A l := by
 obtain ⟨A', c', e, _, _, hr⟩ := h
 injection e with e1 _ _
 rw [e1]
 exact hr
theorem splitK_any (x y r : Int) (g : Nat) (w : World) (hg : Blk w g 3 #[.int .i64 r]) : Calls Tryz.prog 126 #[.agg #[.int .i64 x, .int .i64 y], .pointer (some ⟨g, 0, none⟩)] w (RV w (.bool (y == r))) := by
 have hK := Blk.new w 40 #[.int .i64 x, .int .i64 y]
 have fK := hK.facts
 have hg2 := hg.alloc (.cells #[.int .i64 x, .int .i64 y] 40)
 have fg := hg2.facts
 go_enter Tryz.func126, Tryz.ntmps126
 go_wp2
 go_ret
 exact ⟨rfl, by (repeat first|exact J0|assumption|(apply J1;assumption)|apply J2|apply J3|apply J4)⟩
def splitG (y : Int) : List Knot → Nat → Int
 | [], _ => -1
 | k :: l, n => if k.2 == y then n else splitG y l (n + 1)
def splitI (l : List Knot) (y : Int) : Int := splitG y l 0
theorem splitG_at {y : Int} {l : List Knot} {k : Nat} (h : k < l.length) (n : Nat) : splitG y (l.drop k) n = if l[k].2 == y then (n : Int) else splitG y (l.drop (k + 1)) (n + 1) := by
 rw [List.drop_eq_getElem_cons h]
 rfl
theorem splitG_le (y : Int) : ∀ (l : List Knot) (n : Nat), -1 ≤ splitG y l n ∧ splitG y l n ≤ (n + l.length : Nat)
 | [], n => by simp [splitG]
 | k :: l, n => by
  have := splitG_le y l (n + 1)
  simp only [splitG, List.length_cons]
  split <;> omega
theorem idxSplit_any (l : List Knot) (A : Option Addr) (c : Nat) (y : Int) (g : Nat) (w : World) (h : Rd kc 2 w A l) (hl : l.length ≤ 100000) (hg : Blk w g 3 #[.int .i64 y]) :
    Calls Tryz.prog 125 #[.slice A l.length c, .func (.func 126) #[] #[.pointer (some ⟨g, 0, none⟩)]] w (RV w (.int .i64 (splitI l y))) := by
  go_enter Tryz.func125, Tryz.ntmps125
  go_wp2
  go_loopw [8] (fun i wr => ∃ k : Nat, k ≤ l.length ∧ i = .int .i64 k ∧ Hid (splitI l y = splitG y (l.drop k) k) ∧ Below w.heap.size w wr) (fun i _ => l.length - (intOf i).toNat)
  case atStart => exact ⟨0, Nat.zero_le _, rfl, rfl, bl_refl⟩
  case round =>
    obtain ⟨k, hk, rfl, HK, hbw⟩ := hrel
    by_cases hlt : k < l.length
    · have hr := h.below hbw
      obtain ⟨b, off, rfl, hb, e0, e1⟩ := hr.knot hlt
      have HS := Lib.hid (splitG_at (y := y) hlt k)
      obtain ⟨⟨px, py⟩, hx⟩ : ∃ z, l[k] = z := ⟨_, rfl⟩
      rw [hx] at e0 e1 HS
      simp only at e0 e1 HS
      have hC := splitK_any px py y g _ (hg.below hbw)
      obtain ⟨q, hq⟩ : ∃ q, (py == y) = q := ⟨_, rfl⟩
      rw [hq] at hC HS
      clear hq hx
      cases q
      · have HK2 : Hid (splitI l y = splitG y (l.drop (k + 1)) (k + 1)) := by
          unfold Hid; rw [HK.out, HS.out]; simp
        go_wp2_with fail
        refine (hC).mono ?_
        rintro e w2 ⟨rfl, hb2⟩
        go_wp2
        go_roundw
        case rel => exact ⟨k + 1, by omega, by go_num, HK2.out, by (repeat first|exact J0|assumption|(apply J1;assumption)|apply J2|apply J3|apply J4)⟩
        case measure => simp [intOf]; omega
      · have HK2 : Hid (splitI l y = (k : Int)) := by
          unfold Hid; rw [HK.out, HS.out]; simp
        go_wp2_with fail
        refine (hC).mono ?_
        rintro e w2 ⟨rfl, hb2⟩
        go_wp2
        go_ret
        exact ⟨by rw [HK2.out]; rfl, by (repeat first|exact J0|assumption|(apply J1;assumption)|apply J2|apply J3|apply J4)⟩
    · have hkl : k = l.length := by omega
      have HE : Hid (splitI l y = -1) := by unfold Hid; rw [HK.out, hkl, List.drop_length]; rfl
      go_wp2
      go_ret
      exact ⟨by rw [HE.out]; rfl, by (repeat first|exact J0|assumption|(apply J1;assumption)|apply J2|apply J3|apply J4)⟩
theorem pspl_any (l : List Knot) (A : Option Addr) (c : Nat) (y : Int) (w : World) (h : Rd kc 2 w A l) (hl : l.length ≤ 100000) :
  Calls Tryz.prog 65 #[.slice A l.length c, .int .i64 y] w (RV w (.int .i64 (splitI l y))) := by
 have hg := Blk.new w 3 #[.int .i64 y]
 go_enter Tryz.func65, Tryz.ntmps65
 go_wp2_with fail
 refine (idxSplit_any l A c y w.heap.size _ (h.alloc _) hl hg).mono ?_
 rintro e w2 ⟨rfl, hb2⟩
 go_wp2
 go_ret
 exact ⟨rfl, by (repeat first|exact J0|assumption|(apply J1;assumption)|apply J2|apply J3|apply J4)⟩
theorem apiCut_rule {vL vR : Value} (p : Pan) (y : Int) (w : World) (hnm : p.1.length ≤ 1000000) (hL : SlE w vL p.2.2.1) (hR : SlE w vR p.2.2.2) (hE : panE p = 0) (hy : 1 ≤ y ∧ y ≤ heightP p - 1) (hs : splitI (outP p false) y < 0) :
  Calls Tryz.prog 12 #[.agg #[sV p.1, .int .i64 p.2.1, vL, vR], .int .i64 y] w (RV w (.tuple #[.agg (zeroPV ++ zeroPV), .int .i64 18])) := by
 have hc := fun W (hb : Below w.heap.size w W) => checkPanel_any p W hnm (hL.below hb) (hR.below hb)
 have hok := panE_zero hE
 have o1 := fun W (hb : Below w.heap.size w W) => outline_any p false W (hL.below hb) (hR.below hb) hok.wid' (hok.side false)
 have o2 := fun W (hb : Below w.heap.size w W) => outline_any p true W (hL.below hb) (hR.below hb) hok.wid' (hok.side true)
 have hh := fun W (hb : Below w.heap.size w W) => height_any p W (hL.below hb) (hR.below hb) hok.wid' (hok.side false)
 obtain ⟨H, hH⟩ : ∃ H : Nat, heightP p = H := ⟨(heightP p).toNat, by have := hok.high; omega⟩
 have hHb : H ≤ 256 := by have := hok.high; omega
 have l1 := out_len p false (hok.side false)
 have l2 := out_len p true (hok.side true)
 have hwi := fun W => pwithin_any y 1 ((H : Int) - 1) W
 have hwz : withinI y 1 ((H : Int) - 1) = 0 := by
  unfold withinI whenI
  rw [hH] at hy
  rw [if_neg]
  simp
  omega
 rw [hwz] at hwi
 rw [hE] at hc
 rw [hH] at hh
 obtain ⟨O1, hO1⟩ : ∃ O, outP p false = O := ⟨_, rfl⟩
 obtain ⟨O2, hO2⟩ : ∃ O, outP p true = O := ⟨_, rfl⟩
 rw [hO1] at o1 l1 hs
 rw [hO2] at o2 l2
 have sb := splitG_le y O1 0
 obtain ⟨S1, hS1⟩ : ∃ S, splitI O1 y = S := ⟨_, rfl⟩
 have hq1 := fun A c W h => pspl_any O1 A c y W h (by omega)
 have hq2 := fun A c W h => pspl_any O2 A c y W h (by omega)
 rw [hS1] at hs hq1
 have t1 : (S1 < 0) = True := eq_true hs
 clear hs sb hwz hO1 hO2 hS1 hE hH hok hnm
 obtain ⟨AL, cL, rfl, _, _, _⟩ := hL
 obtain ⟨AR, cR, rfl, _, _, _⟩ := hR
 unfold sV at hc o1 o2 hh ⊢
 have hP := (Blk.new w 30 #[.string ⟨p.1.toArray⟩, .int .i64 p.2.1, .slice AL p.2.2.1.length cL, .slice AR p.2.2.2.length cR]).alloc (.cells (zeroPV ++ zeroPV) 31)
 have hZ := Blk.new1 w (.cells #[.string ⟨p.1.toArray⟩, .int .i64 p.2.1, .slice AL p.2.2.1.length cL, .slice AR p.2.2.2.length cR] 30) 31 (zeroPV ++ zeroPV)
 unfold zeroPV at hP hZ ⊢
 simp only [List.append_toArray, List.cons_append, List.nil_append] at hP hZ ⊢
 have fhP := hP.facts
 have fhZ := hZ.facts
 go_enter Tryz.func12, Tryz.ntmps12
 go_wp2_with fail
 refine (hc _ (by (repeat first|exact J0|assumption|(apply J1;assumption)|apply J2|apply J3|apply J4))).mono ?_
 rintro e w2 ⟨rfl, hb2⟩
 replace hP := hP.below (show Below _ _ w2 by (repeat first|exact J0|assumption|(apply J1;assumption)|apply J2|apply J3|apply J4))
 replace fhP := hP.facts
 replace hZ := hZ.below (show Below _ _ w2 by (repeat first|exact J0|assumption|(apply J1;assumption)|apply J2|apply J3|apply J4))
 replace fhZ := hZ.facts
 go_wp2_with (go_at_call 63; refine (hh _ (by (repeat first|exact J0|assumption|(apply J1;assumption)|apply J2|apply J3|apply J4))).mono ?_; rintro e w3 ⟨rfl, hb3⟩; replace hP := hP.below hb3; replace hZ := hZ.below hb3; have f3 := hP.facts)
 refine (hwi _).mono ?_
 rintro e w4 ⟨rfl, hb4⟩
 replace hP := hP.below hb4
 replace hZ := hZ.below hb4
 have f4 := hP.facts
 have hbw4 : Below w.heap.size w w4 := by (repeat first|exact J0|assumption|(apply J1;assumption)|apply J2|apply J3|apply J4)
 clear hh hc hwi f3 fhP fhZ hb2 hb3 hb4
 go_upto_region 7 with fail
 refine wp_region_ords [0, 2] [(1, false)] [3, 4, 5] (by kernel_rfl) (by kernel_rfl) (fun d _ _ _ _ h => by cases d <;> exact h) ?_
 simp only [List.map_cons, List.map_nil, List.getD_cons_zero, List.getD_cons_succ]
 repeat (go_big_quiet_step (fail))
 refine wpQuiet_nil ?_
 refine wpMid_run rfl (fun K hK => ?_)
 go_simp
 refine (o1 _ (by (repeat first|exact J0|assumption|(apply J1;assumption)|apply J2|apply J3|apply J4))).mono ?_
 rintro e w8 ⟨v8, rfl, hO8, hb8⟩
 refine hK _ _ (by (repeat first|exact J0|assumption|(apply J1;assumption)|apply J2|apply J3|apply J4)) ?_
 clear hK K
 have hP_w8 := hP.below (show Below _ _ w8 by (repeat first|exact J0|assumption|(apply J1;assumption)|apply J2|apply J3|apply J4))
 have fhP_w8 := hP_w8.facts
 have hZ_w8 := hZ.below (show Below _ _ w8 by (repeat first|exact J0|assumption|(apply J1;assumption)|apply J2|apply J3|apply J4))
 have fhZ_w8 := hZ_w8.facts
 obtain ⟨A8, c8, rfl⟩ := hO8.shape
 refine wpMid_nil ?_
 go_wp2_with (go_at_call 64; refine (o2 _ (by (repeat first|exact J0|assumption|(apply J1;assumption)|apply J2|apply J3|apply J4))).mono ?_; rintro e w9 ⟨v9, rfl, hO9, hb9⟩; obtain ⟨A9, c9, rfl⟩ := hO9.shape)
 have hb49 : Below w4.heap.size w4 w9 := by (repeat first|exact J0|assumption|(apply J1;assumption)|apply J2|apply J3|apply J4)
 have hZ9 := hZ_w8.below hb9
 have hr8 := ((hO8.rd kc_len).below hb9).rd_
 have hr9 := (hO9.rd kc_len).rd_
 refine (hq1 _ _ _ hr8).mono ?_
 rintro e w10 ⟨rfl, hb10⟩
 go_wp2_with (first | (go_at_call 65; refine (hq2 _ _ _ (hr9.below hb10)).mono ?_; rintro e w11 ⟨rfl, hb11⟩; have hZ11 := (hZ9.below hb10).below hb11) | (refine wpList_store_blk hZ11 rfl _ _ _ rfl rfl rfl (by rfl) (by kernel_rfl) (by kernel_rfl) ?_; intro w12 hZ12 hc12; have f12 := hZ12.facts))
 have hb11w : Below w.heap.size w w11 := bl_then hb11 (bl_then hb10 (bl_then hb49 hbw4))
 refine bodyPost_ret (v := .tuple #[.agg #[.string ⟨#[]⟩, .int .i64 0, .slice none 0 0, .slice none 0 0, .string ⟨#[]⟩, .int .i64 0, .slice none 0 0, .slice none 0 0], .int .i64 18]) (by simp [results, Tryz.results12, go_sem, f12]) rfl ?_
 exact ⟨rfl, chg_bl hb11w hc12 (by omega)⟩
end Go.Proofs.YtkkefahobjlagaaGreatDoor

/- PanelPrints, walked. Conditions: the variables are laid. -/
import Derived.Test.YtkkefahobjlagaaGreatDoorQ37
import Derived.Test.YtkkefahobjlagaaGreatDoorVtjJ
import Derived.Test.YtkkefahobjlagaaGreatDoorQ55
import Derived.Test.YtkkefahobjlagaaGreatDoorQ54
import Derived.Test.YtkkefahobjlagaaGreatDoorQ28
import Derived.Test.YtkkefahobjlagaaGreatDoorQ34
namespace Go.Proofs.YtkkefahobjlagaaGreatDoor
open Go.RowKit Go.ChangeMaps
set_option maxHeartbeats 4000000
set_option maxRecDepth 100000
attribute [local go_sem] Oper.semAt_some
theorem panelPrints_any {v : Value} (l : List Pan) (s : Str) (W : World) (hl : SlP W v l) (hnm : ∀ p ∈ l, p.1.length ≤ maxLen) (hs : s.length ≤ maxLen) (hLay : Lay W) :
  Calls Tryz.prog 7 #[v, sV s] W (RV W (.bool true)) := by
 have cAw := fun W' (hb : Below W.heap.size W W') => awakeP_any W' (hLay.below hb)
 have cSh := fun W' (hb : Below W.heap.size W W') => rshorts_any l 3 20 W' (hl.below hb) hnm
 have hxl : l.length ≤ maxLen := by obtain ⟨xs, ⟨_, _, _, h1, h2, _⟩, h3⟩ := hl; have := h3.len; omega
 unfold maxLen at hs hxl
 obtain ⟨q, hq⟩ : ∃ q, shortPs l 3 20 = q := ⟨_, rfl⟩
 rw [hq] at cSh
 by_cases h3 : 3 < l.length
 ·have t1 : (3 < (l.length : Int)) = True := eq_true (by omega)
  obtain ⟨xs, ⟨A, c, rfl, _, _, _⟩, hx⟩ := hl
  have hxe := hx.len
  rw [hxe]
  unfold sV
  clear h3 hq hxe
  go_enter Tryz.func7, Tryz.ntmps7
  go_wp2_with fail
  refine (cAw _ (by (repeat first|exact J0|assumption|(apply J1;assumption)|apply J2|apply J3|apply J4))).mono ?_
  rintro e w1 ⟨rfl, hb1⟩
  go_wp2_with fail
  refine (cAw _ (by (repeat first|exact J0|assumption|(apply J1;assumption)|apply J2|apply J3|apply J4))).mono ?_
  rintro e w9 ⟨rfl, hb9⟩
  go_wp2
  go_ret
  exact ⟨rfl, by (repeat first|exact J0|assumption|(apply J1;assumption)|apply J2|apply J3|apply J4)⟩
 ·have t1 : (3 < (l.length : Int)) = False := eq_false (by omega)
  cases q
  ·obtain ⟨xs, ⟨A, c, hv, _, _, _⟩, hx⟩ := id hl
   have hxe := hx.len
   rw [hxe] at hv
   subst hv
   unfold sV
   clear h3 hq hxe
   go_enter Tryz.func7, Tryz.ntmps7
   go_wp2_with fail
   refine (cAw _ (by (repeat first|exact J0|assumption|(apply J1;assumption)|apply J2|apply J3|apply J4))).mono ?_
   rintro e w1 ⟨rfl, hb1⟩
   go_wp2_with fail
   refine (cSh _ (by (repeat first|exact J0|assumption|(apply J1;assumption)|apply J2|apply J3|apply J4))).mono ?_
   rintro e w2 ⟨rfl, hb2⟩
   go_wp2_with fail
   refine (cAw _ (by (repeat first|exact J0|assumption|(apply J1;assumption)|apply J2|apply J3|apply J4))).mono ?_
   rintro e w9 ⟨rfl, hb9⟩
   go_wp2
   go_ret
   exact ⟨rfl, by (repeat first|exact J0|assumption|(apply J1;assumption)|apply J2|apply J3|apply J4)⟩
  ·obtain ⟨hl18, _, hsh⟩ := shortPs_in hq
   have hnm2 : ∀ p ∈ l, p.1.length ≤ 1000000 := fun p hp => by have := (shortP_words (hsh p hp)).1; omega
   have hwd : ∀ p ∈ l, (∀ e ∈ p.2.2.1, e.1.length ≤ 1000000) ∧ ∀ e ∈ p.2.2.2, e.1.length ≤ 1000000 := fun p hp => by
    obtain ⟨_, ⟨_, h1⟩, _, h2⟩ := shortP_words (hsh p hp)
    exact ⟨fun e he => by have := h1 e he; omega, fun e he => by have := h2 e he; omega⟩
   have hwl : ∀ p ∈ l, p.2.2.1.length ≤ 100000 ∧ p.2.2.2.length ≤ 100000 := fun p hp => by
    obtain ⟨_, ⟨h1, _⟩, h2, _⟩ := shortP_words (hsh p hp)
    omega
   have cLi := fun W' (hb : Below W.heap.size W W') => llists_any l W' (hl.below hb) (by omega) hwl
   have cPr := fun (u : Value) W' (h : SlP W' u l) (hL : Lay W') => apiPrintP_any l W' h hnm2 hL
   have cCk := fun W' (hb : Below W.heap.size W W') => rcheckPanels_any l W' (hl.below hb) hnm2 hwd
   obtain ⟨xs, ⟨A, c, hv, _, _, _⟩, hx⟩ := id hl
   have hxe := hx.len
   rw [hxe] at hv
   subst hv
   by_cases hz : allE l = 0
   ·rw [hz] at cCk
    by_cases h15 : 1500 < s.length
    ·have t2 : (1500 < (s.length : Int)) = True := eq_true (by omega)
     unfold sV
     clear h15 h3 hq hz
     go_enter Tryz.func7, Tryz.ntmps7
     go_wp2_with fail
     refine (cAw _ (by (repeat first|exact J0|assumption|(apply J1;assumption)|apply J2|apply J3|apply J4))).mono ?_
     rintro e w1 ⟨rfl, hb1⟩
     go_wp2_with fail
     refine (cSh _ (by (repeat first|exact J0|assumption|(apply J1;assumption)|apply J2|apply J3|apply J4))).mono ?_
     rintro e w2 ⟨rfl, hb2⟩
     go_wp2_with fail
     refine (cCk _ (by (repeat first|exact J0|assumption|(apply J1;assumption)|apply J2|apply J3|apply J4))).mono ?_
     rintro e w3 ⟨rfl, hb3⟩
     go_wp2_with fail
     refine (cAw _ (by (repeat first|exact J0|assumption|(apply J1;assumption)|apply J2|apply J3|apply J4))).mono ?_
     rintro e w9 ⟨rfl, hb9⟩
     go_wp2
     go_ret
     exact ⟨rfl, by (repeat first|exact J0|assumption|(apply J1;assumption)|apply J2|apply J3|apply J4)⟩
    ·have t2 : (1500 < (s.length : Int)) = False := eq_false (by omega)
     obtain ⟨hp1, hp2, hp3, _⟩ := short_prn hq hz
     rw [hp2, hp3] at cPr
     have cPa := fun W' (hL : Lay W') => apiParse_any (prnT l) W' hL
     rw [prn_par hz (by omega)] at cPa
     have cAl := fun (u : Value) W' (h : SlP W' u l) => lall_any l W' h (by omega) hwl
     have cSm := fun (u u' : Value) W' (h : SlP W' u l) (h' : SlP W' u' l) => rsames_any l W' h h'
     have cPs := fun W' (hL : Lay W') => apiParse_any s W' hL
     obtain ⟨⟨X, K, EP⟩, hX⟩ : ∃ z, parR s = z := ⟨_, rfl⟩
     have HX := hX
     rw [hX] at cPs
     unfold RPP at cPa cPs
     unfold RPS at cLi cAl
     simp only at cPa cPs
     have cTorn : l ≠ [] → ∃ k : Int, parR ((prnT l).take ((prnT l).length - 1)) = ([], k, 25) := fun h => prn_torn hz (by omega) h
     have cPt := fun W' (hL : Lay W') => apiParse_any ((prnT l).take ((prnT l).length - 1)) W' hL
     unfold sV at cPr cPa cPs ⊢
     have hN0 : (prnT l).length = 0 → l = [] := prnT_nil
     have hN1 : l = [] → (prnT l).length = 0 := fun h => by rw [h]; rfl
     obtain ⟨P, hP⟩ : ∃ P, prnT l = P := ⟨_, rfl⟩
     rw [hP] at cPr cPa cPt cTorn hN0 hN1 hp1
     have hPl : P.length ≤ 4200 := hp1
     clear hP hp1 hp2 hp3 hsh hz h3 hq
     by_cases he : EP = 0
     ·subst he
      have hK : K = 0 := by
       have := parR_zero (s := s) (by rw [hX])
       rw [hX] at this
       exact this
      subst hK
      obtain ⟨hx1, hx2⟩ := par_prn hX
      obtain ⟨hx3, hx4⟩ := allE_few hx1
      have hx5 : prnE X = 0 := by
       unfold prnE whenI
       rw [if_neg (by simp [hx1]), hx2, if_neg (by simp; omega)]
      have hx6 : prnS X = s := by unfold prnS; rw [if_pos hx5, hx2]
      have cPx := fun (u : Value) W' (h : SlP W' u X) (hL : Lay W') => apiPrintP_any X W' h (fun p hp => by have := (hx4 p hp).2.2; omega) hL
      rw [hx5, hx6] at cPx
      unfold sV at cPx
      have tEq : (({ data := s.toArray } : ByteArray).toList != ({ data := s.toArray } : ByteArray).toList) = false := by simp
      clear hX hx1 hx2 hx3 hx4 hx5 hx6 HX
      by_cases hp0 : P.length = 0
      ·have hl0 : l.length = 0 := by rw [hN0 hp0]; rfl
       have t5 : ((P.length : Int) == 0) = true := by rw [hp0]; rfl
       have t6 : ((l.length : Int) == 0) = true := by rw [hl0]; rfl
       clear hp0 hl0 hN0 hN1 cTorn cPt
       go_enter Tryz.func7, Tryz.ntmps7
       go_wp2_with fail
       refine (cAw _ (by (repeat first|exact J0|assumption|(apply J1;assumption)|apply J2|apply J3|apply J4))).mono ?_
       rintro e w1 ⟨rfl, hb1⟩
       go_wp2_with fail
       refine (cSh _ (by (repeat first|exact J0|assumption|(apply J1;assumption)|apply J2|apply J3|apply J4))).mono ?_
       rintro e w2 ⟨rfl, hb2⟩
       go_wp2_with fail
       refine (cCk _ (by (repeat first|exact J0|assumption|(apply J1;assumption)|apply J2|apply J3|apply J4))).mono ?_
       rintro e w3 ⟨rfl, hb3⟩
       go_wp2_with fail
       refine (cLi _ (by (repeat first|exact J0|assumption|(apply J1;assumption)|apply J2|apply J3|apply J4))).mono ?_
       rintro e w4 ⟨v4, rfl, hS4, hb4⟩
       go_wp2_with fail
       refine (cPr _ _ hS4 (hLay.below (by (repeat first|exact J0|assumption|(apply J1;assumption)|apply J2|apply J3|apply J4)))).mono ?_
       rintro e w5 ⟨rfl, hb5⟩
       go_wp2_with fail
       refine (cPa _ (hLay.below (by (repeat first|exact J0|assumption|(apply J1;assumption)|apply J2|apply J3|apply J4)))).mono ?_
       rintro e w6 ⟨v6, rfl, hS6, hb6⟩
       go_wp2_with fail
       refine (cAl _ _ hS6).mono ?_
       rintro e w7 ⟨v7, rfl, hS7, hb7⟩
       go_wp2_with fail
       refine (cSm _ _ _ hS7 (hl.below (by (repeat first|exact J0|assumption|(apply J1;assumption)|apply J2|apply J3|apply J4)))).mono ?_
       rintro e w8 ⟨rfl, hb8⟩
       go_wp2_with fail
       refine (cPs _ (hLay.below (by (repeat first|exact J0|assumption|(apply J1;assumption)|apply J2|apply J3|apply J4)))).mono ?_
       rintro e w9 ⟨v9, rfl, hS9, hb9⟩
       go_wp2_with fail
       refine (cPx _ _ (hS9.below (by (repeat first|exact J0|assumption|(apply J1;assumption)|apply J2|apply J3|apply J4))) (hLay.below (by (repeat first|exact J0|assumption|(apply J1;assumption)|apply J2|apply J3|apply J4)))).mono ?_
       rintro e w10 ⟨rfl, hb10⟩
       go_wp2
       go_ret
       exact ⟨rfl, by (repeat first|exact J0|assumption|(apply J1;assumption)|apply J2|apply J3|apply J4)⟩
      ·have hl0 : l ≠ [] := fun h => hp0 (hN1 h)
       obtain ⟨m, hm⟩ : ∃ m, P.length = m + 1 := ⟨P.length - 1, by omega⟩
       obtain ⟨kk, hkk⟩ := cTorn hl0
       rw [hm, Nat.add_sub_cancel] at hkk cPt
       rw [hkk] at cPt
       have hcu := ba_cut P 0 m
       rw [List.drop_zero, Nat.sub_zero] at hcu
       unfold sV at cPt
       rw [← hcu] at cPt
       unfold RPP at cPt
       simp only at cPt
       have t5 : ((P.length : Int) == 0) = false := beq_false_of_ne (by omega)
       have t7 : (P.length : Int) - 1 = m := by omega
       have t8 : m ≤ P.length := by omega
       clear hp0 hl0 hN0 hN1 cTorn hm hkk hcu
       go_enter Tryz.func7, Tryz.ntmps7
       go_wp2_with fail
       refine (cAw _ (by (repeat first|exact J0|assumption|(apply J1;assumption)|apply J2|apply J3|apply J4))).mono ?_
       rintro e w1 ⟨rfl, hb1⟩
       go_wp2_with fail
       refine (cSh _ (by (repeat first|exact J0|assumption|(apply J1;assumption)|apply J2|apply J3|apply J4))).mono ?_
       rintro e w2 ⟨rfl, hb2⟩
       go_wp2_with fail
       refine (cCk _ (by (repeat first|exact J0|assumption|(apply J1;assumption)|apply J2|apply J3|apply J4))).mono ?_
       rintro e w3 ⟨rfl, hb3⟩
       go_wp2_with fail
       refine (cLi _ (by (repeat first|exact J0|assumption|(apply J1;assumption)|apply J2|apply J3|apply J4))).mono ?_
       rintro e w4 ⟨v4, rfl, hS4, hb4⟩
       go_wp2_with fail
       refine (cPr _ _ hS4 (hLay.below (by (repeat first|exact J0|assumption|(apply J1;assumption)|apply J2|apply J3|apply J4)))).mono ?_
       rintro e w5 ⟨rfl, hb5⟩
       go_wp2_with fail
       refine (cPa _ (hLay.below (by (repeat first|exact J0|assumption|(apply J1;assumption)|apply J2|apply J3|apply J4)))).mono ?_
       rintro e w6 ⟨v6, rfl, hS6, hb6⟩
       go_wp2_with fail
       refine (cAl _ _ hS6).mono ?_
       rintro e w7 ⟨v7, rfl, hS7, hb7⟩
       go_wp2_with fail
       refine (cSm _ _ _ hS7 (hl.below (by (repeat first|exact J0|assumption|(apply J1;assumption)|apply J2|apply J3|apply J4)))).mono ?_
       rintro e w8 ⟨rfl, hb8⟩
       go_wp2_with fail
       refine (cPs _ (hLay.below (by (repeat first|exact J0|assumption|(apply J1;assumption)|apply J2|apply J3|apply J4)))).mono ?_
       rintro e w9 ⟨v9, rfl, hS9, hb9⟩
       go_wp2_with fail
       refine (cPx _ _ (hS9.below (by (repeat first|exact J0|assumption|(apply J1;assumption)|apply J2|apply J3|apply J4))) (hLay.below (by (repeat first|exact J0|assumption|(apply J1;assumption)|apply J2|apply J3|apply J4)))).mono ?_
       rintro e w10 ⟨rfl, hb10⟩
       go_wp2_with fail
       refine (cPt _ (hLay.below (by (repeat first|exact J0|assumption|(apply J1;assumption)|apply J2|apply J3|apply J4)))).mono ?_
       rintro e w11 ⟨v11, rfl, hS11, hb11⟩
       go_wp2
       go_ret
       exact ⟨rfl, by (repeat first|exact J0|assumption|(apply J1;assumption)|apply J2|apply J3|apply J4)⟩
     ·have tE : (EP == 0) = false := beq_false_of_ne he
      clear hX he HX
      by_cases hp0 : P.length = 0
      ·have hl0 : l.length = 0 := by rw [hN0 hp0]; rfl
       have t5 : ((P.length : Int) == 0) = true := by rw [hp0]; rfl
       have t6 : ((l.length : Int) == 0) = true := by rw [hl0]; rfl
       clear hp0 hl0 hN0 hN1 cTorn cPt
       go_enter Tryz.func7, Tryz.ntmps7
       go_wp2_with fail
       refine (cAw _ (by (repeat first|exact J0|assumption|(apply J1;assumption)|apply J2|apply J3|apply J4))).mono ?_
       rintro e w1 ⟨rfl, hb1⟩
       go_wp2_with fail
       refine (cSh _ (by (repeat first|exact J0|assumption|(apply J1;assumption)|apply J2|apply J3|apply J4))).mono ?_
       rintro e w2 ⟨rfl, hb2⟩
       go_wp2_with fail
       refine (cCk _ (by (repeat first|exact J0|assumption|(apply J1;assumption)|apply J2|apply J3|apply J4))).mono ?_
       rintro e w3 ⟨rfl, hb3⟩
       go_wp2_with fail
       refine (cLi _ (by (repeat first|exact J0|assumption|(apply J1;assumption)|apply J2|apply J3|apply J4))).mono ?_
       rintro e w4 ⟨v4, rfl, hS4, hb4⟩
       go_wp2_with fail
       refine (cPr _ _ hS4 (hLay.below (by (repeat first|exact J0|assumption|(apply J1;assumption)|apply J2|apply J3|apply J4)))).mono ?_
       rintro e w5 ⟨rfl, hb5⟩
       go_wp2_with fail
       refine (cPa _ (hLay.below (by (repeat first|exact J0|assumption|(apply J1;assumption)|apply J2|apply J3|apply J4)))).mono ?_
       rintro e w6 ⟨v6, rfl, hS6, hb6⟩
       go_wp2_with fail
       refine (cAl _ _ hS6).mono ?_
       rintro e w7 ⟨v7, rfl, hS7, hb7⟩
       go_wp2_with fail
       refine (cSm _ _ _ hS7 (hl.below (by (repeat first|exact J0|assumption|(apply J1;assumption)|apply J2|apply J3|apply J4)))).mono ?_
       rintro e w8 ⟨rfl, hb8⟩
       go_wp2_with fail
       refine (cPs _ (hLay.below (by (repeat first|exact J0|assumption|(apply J1;assumption)|apply J2|apply J3|apply J4)))).mono ?_
       rintro e w9 ⟨v9, rfl, hS9, hb9⟩
       go_wp2
       go_ret
       exact ⟨rfl, by (repeat first|exact J0|assumption|(apply J1;assumption)|apply J2|apply J3|apply J4)⟩
      ·have hl0 : l ≠ [] := fun h => hp0 (hN1 h)
       obtain ⟨m, hm⟩ : ∃ m, P.length = m + 1 := ⟨P.length - 1, by omega⟩
       obtain ⟨kk, hkk⟩ := cTorn hl0
       rw [hm, Nat.add_sub_cancel] at hkk cPt
       rw [hkk] at cPt
       have hcu := ba_cut P 0 m
       rw [List.drop_zero, Nat.sub_zero] at hcu
       unfold sV at cPt
       rw [← hcu] at cPt
       unfold RPP at cPt
       simp only at cPt
       have t5 : ((P.length : Int) == 0) = false := beq_false_of_ne (by omega)
       have t7 : (P.length : Int) - 1 = m := by omega
       have t8 : m ≤ P.length := by omega
       clear hp0 hl0 hN0 hN1 cTorn hm hkk hcu
       go_enter Tryz.func7, Tryz.ntmps7
       go_wp2_with fail
       refine (cAw _ (by (repeat first|exact J0|assumption|(apply J1;assumption)|apply J2|apply J3|apply J4))).mono ?_
       rintro e w1 ⟨rfl, hb1⟩
       go_wp2_with fail
       refine (cSh _ (by (repeat first|exact J0|assumption|(apply J1;assumption)|apply J2|apply J3|apply J4))).mono ?_
       rintro e w2 ⟨rfl, hb2⟩
       go_wp2_with fail
       refine (cCk _ (by (repeat first|exact J0|assumption|(apply J1;assumption)|apply J2|apply J3|apply J4))).mono ?_
       rintro e w3 ⟨rfl, hb3⟩
       go_wp2_with fail
       refine (cLi _ (by (repeat first|exact J0|assumption|(apply J1;assumption)|apply J2|apply J3|apply J4))).mono ?_
       rintro e w4 ⟨v4, rfl, hS4, hb4⟩
       go_wp2_with fail
       refine (cPr _ _ hS4 (hLay.below (by (repeat first|exact J0|assumption|(apply J1;assumption)|apply J2|apply J3|apply J4)))).mono ?_
       rintro e w5 ⟨rfl, hb5⟩
       go_wp2_with fail
       refine (cPa _ (hLay.below (by (repeat first|exact J0|assumption|(apply J1;assumption)|apply J2|apply J3|apply J4)))).mono ?_
       rintro e w6 ⟨v6, rfl, hS6, hb6⟩
       go_wp2_with fail
       refine (cAl _ _ hS6).mono ?_
       rintro e w7 ⟨v7, rfl, hS7, hb7⟩
       go_wp2_with fail
       refine (cSm _ _ _ hS7 (hl.below (by (repeat first|exact J0|assumption|(apply J1;assumption)|apply J2|apply J3|apply J4)))).mono ?_
       rintro e w8 ⟨rfl, hb8⟩
       go_wp2_with fail
       refine (cPs _ (hLay.below (by (repeat first|exact J0|assumption|(apply J1;assumption)|apply J2|apply J3|apply J4)))).mono ?_
       rintro e w9 ⟨v9, rfl, hS9, hb9⟩
       go_wp2_with fail
       refine (cPt _ (hLay.below (by (repeat first|exact J0|assumption|(apply J1;assumption)|apply J2|apply J3|apply J4)))).mono ?_
       rintro e w11 ⟨v11, rfl, hS11, hb11⟩
       go_wp2
       go_ret
       exact ⟨rfl, by (repeat first|exact J0|assumption|(apply J1;assumption)|apply J2|apply J3|apply J4)⟩
   ·obtain ⟨E, hE⟩ : ∃ E, allE l = E := ⟨_, rfl⟩
    rw [hE] at cCk hz
    have tE1 : (E != 0) = true := by simpa using hz
    unfold sV
    clear hE hz h3 hq
    go_enter Tryz.func7, Tryz.ntmps7
    go_wp2_with fail
    refine (cAw _ (by (repeat first|exact J0|assumption|(apply J1;assumption)|apply J2|apply J3|apply J4))).mono ?_
    rintro e w1 ⟨rfl, hb1⟩
    go_wp2_with fail
    refine (cSh _ (by (repeat first|exact J0|assumption|(apply J1;assumption)|apply J2|apply J3|apply J4))).mono ?_
    rintro e w2 ⟨rfl, hb2⟩
    go_wp2_with fail
    refine (cCk _ (by (repeat first|exact J0|assumption|(apply J1;assumption)|apply J2|apply J3|apply J4))).mono ?_
    rintro e w3 ⟨rfl, hb3⟩
    go_wp2_with fail
    refine (cAw _ (by (repeat first|exact J0|assumption|(apply J1;assumption)|apply J2|apply J3|apply J4))).mono ?_
    rintro e w9 ⟨rfl, hb9⟩
    go_wp2
    go_ret
    exact ⟨rfl, by (repeat first|exact J0|assumption|(apply J1;assumption)|apply J2|apply J3|apply J4)⟩
end Go.Proofs.YtkkefahobjlagaaGreatDoor

/- PanelTexts, walked. Conditions: the variables are laid. -/
import Derived.Test.YtkkefahobjlagaaGreatDoorQ37
import Derived.Test.YtkkefahobjlagaaGreatDoorVtjJ
import Derived.Test.YtkkefahobjlagaaGreatDoorQ55
import Derived.Test.YtkkefahobjlagaaGreatDoorQ54
import Derived.Test.YtkkefahobjlagaaGreatDoorQ28
import Derived.Test.YtkkefahobjlagaaGreatDoorQ34
namespace Go.Proofs.YtkkefahobjlagaaGreatDoor
open Go.RowKit Go.ChangeMaps
set_option maxHeartbeats 4000000
set_option maxRecDepth 100000
attribute [local go_sem] Oper.semAt_some
theorem panelTexts_any {v : Value} (l : List Pan) (s : Str) (W : World) (hl : SlP W v l) (hnm : ∀ p ∈ l, p.1.length ≤ maxLen) (hs : s.length ≤ maxLen) (hLay : Lay W) :
  Calls Tryz.prog 6 #[v, sV s] W (RV W (.bool true)) := by
 have cAw := fun W' (hb : Below W.heap.size W W') => awakeP_any W' (hLay.below hb)
 have cSh := fun W' (hb : Below W.heap.size W W') => rshorts_any l 3 20 W' (hl.below hb) hnm
 have hxl : l.length ≤ maxLen := by obtain ⟨xs, ⟨_, _, _, h1, h2, _⟩, h3⟩ := hl; have := h3.len; omega
 unfold maxLen at hs hxl
 obtain ⟨q, hq⟩ : ∃ q, shortPs l 3 20 = q := ⟨_, rfl⟩
 rw [hq] at cSh
 cases q
 ·unfold sV
  have hB : True := trivial
  clear hq hl
  go_enter Tryz.func6, Tryz.ntmps6
  go_wp2_with fail
  refine (cAw _ (by (repeat first|exact J0|assumption|(apply J1;assumption)|apply J2|apply J3|apply J4))).mono ?_
  rintro e w1 ⟨rfl, hb1⟩
  go_wp2_with fail
  refine (cSh _ (by (repeat first|exact J0|assumption|(apply J1;assumption)|apply J2|apply J3|apply J4))).mono ?_
  rintro e w2 ⟨rfl, hb2⟩
  go_wp2_with fail
  refine (cAw _ (by (repeat first|exact J0|assumption|(apply J1;assumption)|apply J2|apply J3|apply J4))).mono ?_
  rintro e w3 ⟨rfl, hb3⟩
  go_wp2
  go_ret
  exact ⟨rfl, by (repeat first|exact J0|assumption|(apply J1;assumption)|apply J2|apply J3|apply J4)⟩
 ·by_cases hbad : (1500 < s.length ∧ s.length ≤ 16384) ∨ 16386 < s.length
  ·unfold sV
   clear hq hl
   by_cases h1 : 1500 < s.length
   ·have t1 : (1500 < (s.length : Int)) = True := eq_true (by omega)
    by_cases h2 : s.length ≤ 16384
    ·have t2 : ((s.length : Int) ≤ 16384) = True := eq_true (by omega)
     clear h1 h2 hbad
     go_enter Tryz.func6, Tryz.ntmps6
     go_wp2_with fail
     refine (cAw _ (by (repeat first|exact J0|assumption|(apply J1;assumption)|apply J2|apply J3|apply J4))).mono ?_
     rintro e w1 ⟨rfl, hb1⟩
     go_wp2_with fail
     refine (cSh _ (by (repeat first|exact J0|assumption|(apply J1;assumption)|apply J2|apply J3|apply J4))).mono ?_
     rintro e w2 ⟨rfl, hb2⟩
     go_wp2_with fail
     refine (cAw _ (by (repeat first|exact J0|assumption|(apply J1;assumption)|apply J2|apply J3|apply J4))).mono ?_
     rintro e w3 ⟨rfl, hb3⟩
     go_wp2
     go_ret
     exact ⟨rfl, by (repeat first|exact J0|assumption|(apply J1;assumption)|apply J2|apply J3|apply J4)⟩
    ·have t2 : ((s.length : Int) ≤ 16384) = False := eq_false (by omega)
     have t3 : (16386 < (s.length : Int)) = True := eq_true (by omega)
     clear h1 h2 hbad
     go_enter Tryz.func6, Tryz.ntmps6
     go_wp2_with fail
     refine (cAw _ (by (repeat first|exact J0|assumption|(apply J1;assumption)|apply J2|apply J3|apply J4))).mono ?_
     rintro e w1 ⟨rfl, hb1⟩
     go_wp2_with fail
     refine (cSh _ (by (repeat first|exact J0|assumption|(apply J1;assumption)|apply J2|apply J3|apply J4))).mono ?_
     rintro e w2 ⟨rfl, hb2⟩
     go_wp2_with fail
     refine (cAw _ (by (repeat first|exact J0|assumption|(apply J1;assumption)|apply J2|apply J3|apply J4))).mono ?_
     rintro e w3 ⟨rfl, hb3⟩
     go_wp2
     go_ret
     exact ⟨rfl, by (repeat first|exact J0|assumption|(apply J1;assumption)|apply J2|apply J3|apply J4)⟩
   ·omega
  ·obtain ⟨hl18, _, hsh⟩ := shortPs_in hq
   have hnm2 : ∀ p ∈ l, p.1.length ≤ 1000000 := fun p hp => by have := (shortP_words (hsh p hp)).1; omega
   have hwd : ∀ p ∈ l, (∀ e ∈ p.2.2.1, e.1.length ≤ 1000000) ∧ ∀ e ∈ p.2.2.2, e.1.length ≤ 1000000 := fun p hp => by
    obtain ⟨_, ⟨_, h1⟩, _, h2⟩ := shortP_words (hsh p hp)
    exact ⟨fun e he => by have := h1 e he; omega, fun e he => by have := h2 e he; omega⟩
   have hwl : ∀ p ∈ l, p.2.2.1.length ≤ 100000 ∧ p.2.2.2.length ≤ 100000 := fun p hp => by
    obtain ⟨_, ⟨h1, _⟩, h2, _⟩ := shortP_words (hsh p hp)
    omega
   have cLi := fun W' (hb : Below W.heap.size W W') => llists_any l W' (hl.below hb) (by omega) hwl
   have cPr := fun (u : Value) W' (h : SlP W' u l) (hL : Lay W') => apiPrintP_any l W' h hnm2 hL
   have cCk := fun W' (hb : Below W.heap.size W W') => rcheckPanels_any l W' (hl.below hb) hnm2 hwd
   have cPa := fun W' (hL : Lay W') => apiParse_any s W' hL
   have cRp := fun W' => rparse_any s W' (by omega)
   rw [rf_par] at cRp
   obtain ⟨hf1, hf2⟩ := parR_few s
   have cAl := fun (u : Value) W' (h : SlP W' u (parR s).1) => lall_any (parR s).1 W' h hf1 hf2
   have cSm := fun (u u' : Value) W' (h : SlP W' u (parR s).1) (h' : SlP W' u' (parR s).1) => rsames_any (parR s).1 W' h h'
   obtain ⟨⟨X, K, EP⟩, hX⟩ : ∃ z, parR s = z := ⟨_, rfl⟩
   rw [hX] at cPa cRp cAl cSm
   unfold RPP at cPa
   unfold RRF at cRp
   unfold RPS at cLi cAl
   simp only at cPa cRp cAl cSm
   by_cases hz : allE l = 0
   ·obtain ⟨hp1, hp2, hp3, _⟩ := short_prn hq hz
    have hok : ∀ p ∈ l, PanOk p := fun p hp => panE_zero ((allE_zero hz).2 p hp)
    have cRt := fun W' (hb : Below W.heap.size W W') => rprint_any l W' (hl.below hb) hok (allE_zero hz).1
    rw [hp2, hp3] at cPr
    rw [hz] at cCk
    have hgt := ba_eq (prnT l) (prnT l)
    rw [show (prnT l == prnT l) = true by simp] at hgt
    unfold sV at cPr cRt cPa cRp ⊢
    obtain ⟨BT, hBT⟩ : ∃ B : ByteArray, ({ data := (prnT l).toArray } : ByteArray) = B := ⟨_, rfl⟩
    rw [hBT] at cPr cRt hgt
    have hgt2 : (BT.toList != BT.toList) = false := by simp
    have t1 : (1500 < (s.length : Int) ∧ (s.length : Int) ≤ 16384) = False := eq_false (by omega)
    have t3 : (16386 < (s.length : Int)) = False := eq_false (by omega)
    clear hz hq hsh hp1 hp2 hp3 hok hX hf1 hf2 hBT hl
    by_cases h1 : 1500 < s.length
    ·have t4 : (1500 < (s.length : Int)) = True := eq_true (by omega)
     have t5 : ((s.length : Int) ≤ 16384) = False := eq_false (by omega)
     clear h1 hbad
     go_enter Tryz.func6, Tryz.ntmps6
     go_wp2_with fail
     refine (cAw _ (by (repeat first|exact J0|assumption|(apply J1;assumption)|apply J2|apply J3|apply J4))).mono ?_
     rintro e w1 ⟨rfl, hb1⟩
     go_wp2_with fail
     refine (cSh _ (by (repeat first|exact J0|assumption|(apply J1;assumption)|apply J2|apply J3|apply J4))).mono ?_
     rintro e w2 ⟨rfl, hb2⟩
     go_wp2_with fail
     refine (cLi _ (by (repeat first|exact J0|assumption|(apply J1;assumption)|apply J2|apply J3|apply J4))).mono ?_
     rintro e w3 ⟨v3, rfl, hS3, hb3⟩
     go_wp2_with fail
     refine (cPr _ _ hS3 (hLay.below (by (repeat first|exact J0|assumption|(apply J1;assumption)|apply J2|apply J3|apply J4)))).mono ?_
     rintro e w4 ⟨rfl, hb4⟩
     go_wp2_with fail
     refine (cPa _ (hLay.below (by (repeat first|exact J0|assumption|(apply J1;assumption)|apply J2|apply J3|apply J4)))).mono ?_
     rintro e w5 ⟨v5, rfl, hS5, hb5⟩
     go_wp2_with fail
     refine (cCk _ (by (repeat first|exact J0|assumption|(apply J1;assumption)|apply J2|apply J3|apply J4))).mono ?_
     rintro e w6 ⟨rfl, hb6⟩
     go_wp2_with fail
     refine (cRt _ (by (repeat first|exact J0|assumption|(apply J1;assumption)|apply J2|apply J3|apply J4))).mono ?_
     rintro e w7 ⟨rfl, hb7⟩
     go_wp2_with fail
     refine (cRp _).mono ?_
     rintro e w8 ⟨v8, rfl, hS8, hb8⟩
     go_wp2_with fail
     refine (cAl _ _ (hS5.below (by (repeat first|exact J0|assumption|(apply J1;assumption)|apply J2|apply J3|apply J4)))).mono ?_
     rintro e w9 ⟨v9, rfl, hS9, hb9⟩
     go_wp2_with fail
     refine (cSm _ _ _ hS9 (hS8.below hb9)).mono ?_
     rintro e w10 ⟨rfl, hb10⟩
     go_wp2
     go_ret
     exact ⟨rfl, by (repeat first|exact J0|assumption|(apply J1;assumption)|apply J2|apply J3|apply J4)⟩
    ·have t4 : (1500 < (s.length : Int)) = False := eq_false (by omega)
     clear h1 hbad
     go_enter Tryz.func6, Tryz.ntmps6
     go_wp2_with fail
     refine (cAw _ (by (repeat first|exact J0|assumption|(apply J1;assumption)|apply J2|apply J3|apply J4))).mono ?_
     rintro e w1 ⟨rfl, hb1⟩
     go_wp2_with fail
     refine (cSh _ (by (repeat first|exact J0|assumption|(apply J1;assumption)|apply J2|apply J3|apply J4))).mono ?_
     rintro e w2 ⟨rfl, hb2⟩
     go_wp2_with fail
     refine (cLi _ (by (repeat first|exact J0|assumption|(apply J1;assumption)|apply J2|apply J3|apply J4))).mono ?_
     rintro e w3 ⟨v3, rfl, hS3, hb3⟩
     go_wp2_with fail
     refine (cPr _ _ hS3 (hLay.below (by (repeat first|exact J0|assumption|(apply J1;assumption)|apply J2|apply J3|apply J4)))).mono ?_
     rintro e w4 ⟨rfl, hb4⟩
     go_wp2_with fail
     refine (cPa _ (hLay.below (by (repeat first|exact J0|assumption|(apply J1;assumption)|apply J2|apply J3|apply J4)))).mono ?_
     rintro e w5 ⟨v5, rfl, hS5, hb5⟩
     go_wp2_with fail
     refine (cCk _ (by (repeat first|exact J0|assumption|(apply J1;assumption)|apply J2|apply J3|apply J4))).mono ?_
     rintro e w6 ⟨rfl, hb6⟩
     go_wp2_with fail
     refine (cRt _ (by (repeat first|exact J0|assumption|(apply J1;assumption)|apply J2|apply J3|apply J4))).mono ?_
     rintro e w7 ⟨rfl, hb7⟩
     go_wp2_with fail
     refine (cRp _).mono ?_
     rintro e w8 ⟨v8, rfl, hS8, hb8⟩
     go_wp2_with fail
     refine (cAl _ _ (hS5.below (by (repeat first|exact J0|assumption|(apply J1;assumption)|apply J2|apply J3|apply J4)))).mono ?_
     rintro e w9 ⟨v9, rfl, hS9, hb9⟩
     go_wp2_with fail
     refine (cSm _ _ _ hS9 (hS8.below hb9)).mono ?_
     rintro e w10 ⟨rfl, hb10⟩
     go_wp2
     go_ret
     exact ⟨rfl, by (repeat first|exact J0|assumption|(apply J1;assumption)|apply J2|apply J3|apply J4)⟩
   ·have hp1 : prnE l = allE l := by unfold prnE; rw [if_pos hz]
    have hp2 : prnS l = [] := by unfold prnS; rw [hp1, if_neg hz]
    rw [hp1, hp2] at cPr
    obtain ⟨E, hE⟩ : ∃ E, allE l = E := ⟨_, rfl⟩
    rw [hE] at cPr cCk hz
    have tE1 : (E != 0) = true := by simpa using hz
    have tE2 : (E == 0) = false := beq_false_of_ne hz
    unfold sV at cPr cPa cRp ⊢
    have t3 : (16386 < (s.length : Int)) = False := eq_false (by omega)
    clear hz hq hsh hp1 hp2 hX hf1 hf2 hE hl
    by_cases h1 : 1500 < s.length
    ·have t4 : (1500 < (s.length : Int)) = True := eq_true (by omega)
     have t5 : ((s.length : Int) ≤ 16384) = False := eq_false (by omega)
     clear h1 hbad
     go_enter Tryz.func6, Tryz.ntmps6
     go_wp2_with fail
     refine (cAw _ (by (repeat first|exact J0|assumption|(apply J1;assumption)|apply J2|apply J3|apply J4))).mono ?_
     rintro e w1 ⟨rfl, hb1⟩
     go_wp2_with fail
     refine (cSh _ (by (repeat first|exact J0|assumption|(apply J1;assumption)|apply J2|apply J3|apply J4))).mono ?_
     rintro e w2 ⟨rfl, hb2⟩
     go_wp2_with fail
     refine (cLi _ (by (repeat first|exact J0|assumption|(apply J1;assumption)|apply J2|apply J3|apply J4))).mono ?_
     rintro e w3 ⟨v3, rfl, hS3, hb3⟩
     go_wp2_with fail
     refine (cPr _ _ hS3 (hLay.below (by (repeat first|exact J0|assumption|(apply J1;assumption)|apply J2|apply J3|apply J4)))).mono ?_
     rintro e w4 ⟨rfl, hb4⟩
     go_wp2_with fail
     refine (cPa _ (hLay.below (by (repeat first|exact J0|assumption|(apply J1;assumption)|apply J2|apply J3|apply J4)))).mono ?_
     rintro e w5 ⟨v5, rfl, hS5, hb5⟩
     go_wp2_with fail
     refine (cCk _ (by (repeat first|exact J0|assumption|(apply J1;assumption)|apply J2|apply J3|apply J4))).mono ?_
     rintro e w6 ⟨rfl, hb6⟩
     go_wp2_with fail
     refine (cRp _).mono ?_
     rintro e w8 ⟨v8, rfl, hS8, hb8⟩
     go_wp2_with fail
     refine (cAl _ _ (hS5.below (by (repeat first|exact J0|assumption|(apply J1;assumption)|apply J2|apply J3|apply J4)))).mono ?_
     rintro e w9 ⟨v9, rfl, hS9, hb9⟩
     go_wp2_with fail
     refine (cSm _ _ _ hS9 (hS8.below hb9)).mono ?_
     rintro e w10 ⟨rfl, hb10⟩
     go_wp2
     go_ret
     exact ⟨rfl, by (repeat first|exact J0|assumption|(apply J1;assumption)|apply J2|apply J3|apply J4)⟩
    ·have t4 : (1500 < (s.length : Int)) = False := eq_false (by omega)
     clear h1 hbad
     go_enter Tryz.func6, Tryz.ntmps6
     go_wp2_with fail
     refine (cAw _ (by (repeat first|exact J0|assumption|(apply J1;assumption)|apply J2|apply J3|apply J4))).mono ?_
     rintro e w1 ⟨rfl, hb1⟩
     go_wp2_with fail
     refine (cSh _ (by (repeat first|exact J0|assumption|(apply J1;assumption)|apply J2|apply J3|apply J4))).mono ?_
     rintro e w2 ⟨rfl, hb2⟩
     go_wp2_with fail
     refine (cLi _ (by (repeat first|exact J0|assumption|(apply J1;assumption)|apply J2|apply J3|apply J4))).mono ?_
     rintro e w3 ⟨v3, rfl, hS3, hb3⟩
     go_wp2_with fail
     refine (cPr _ _ hS3 (hLay.below (by (repeat first|exact J0|assumption|(apply J1;assumption)|apply J2|apply J3|apply J4)))).mono ?_
     rintro e w4 ⟨rfl, hb4⟩
     go_wp2_with fail
     refine (cPa _ (hLay.below (by (repeat first|exact J0|assumption|(apply J1;assumption)|apply J2|apply J3|apply J4)))).mono ?_
     rintro e w5 ⟨v5, rfl, hS5, hb5⟩
     go_wp2_with fail
     refine (cCk _ (by (repeat first|exact J0|assumption|(apply J1;assumption)|apply J2|apply J3|apply J4))).mono ?_
     rintro e w6 ⟨rfl, hb6⟩
     go_wp2_with fail
     refine (cRp _).mono ?_
     rintro e w8 ⟨v8, rfl, hS8, hb8⟩
     go_wp2_with fail
     refine (cAl _ _ (hS5.below (by (repeat first|exact J0|assumption|(apply J1;assumption)|apply J2|apply J3|apply J4)))).mono ?_
     rintro e w9 ⟨v9, rfl, hS9, hb9⟩
     go_wp2_with fail
     refine (cSm _ _ _ hS9 (hS8.below hb9)).mono ?_
     rintro e w10 ⟨rfl, hb10⟩
     go_wp2
     go_ret
     exact ⟨rfl, by (repeat first|exact J0|assumption|(apply J1;assumption)|apply J2|apply J3|apply J4)⟩
end Go.Proofs.YtkkefahobjlagaaGreatDoor

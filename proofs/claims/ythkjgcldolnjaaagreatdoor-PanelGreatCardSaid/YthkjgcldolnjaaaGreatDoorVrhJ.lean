/- PanelGreat, walked. Conditions: the variables are laid. -/
import Derived.Test.YthkjgcldolnjaaaGreatDoorH37
import Derived.Test.YthkjgcldolnjaaaGreatDoorH40
import Derived.Test.YthkjgcldolnjaaaGreatDoorVqQJ
import Derived.Test.YthkjgcldolnjaaaGreatDoorVqTJ
import Derived.Test.YthkjgcldolnjaaaGreatDoorVreJ
import Derived.Test.YthkjgcldolnjaaaGreatDoorVrgJ
import Derived.Test.YthkjgcldolnjaaaGreatDoorH45
namespace Go.Proofs.YthkjgcldolnjaaaGreatDoor
open Go.RowKit Go.ChangeMaps
set_option maxHeartbeats 4000000
set_option maxRecDepth 100000

attribute [local go_sem] Oper.semAt_some
/-! # PanelGreat -/
@[go_sem] theorem idx3_1 (a b c : Int) (w : World) : (Instr.index 97 (.agg #[.int .i64 a, .int .i64 b, .int .i64 c]) (.int .i64 1)).run Tryz.prog w = .ok (.int .i64 b) w := by kernel_rfl
theorem cntU_map (l : List Stp) (q : UInt8) : cntU l q = (l.map (·.1)).count q := rfl
theorem many_eq {p : Pan} (h : panE p = 0) : whenI (decide (4096 < (areaS (strips p) + (cntU (stpL p.2.2.1 ++ stpL p.2.2.2) 66 : Nat)).tdiv 2)) 5 = netErr p := by
  have ok := panE_zero h
  rw [cntU_map, ← netL_two ok]
  unfold netErr
  rw [if_pos h]
  have e : (2 * ((netL p).length : Int)).tdiv 2 = (netL p).length := Int.mul_tdiv_cancel_left _ (by decide)
  rw [e]
  congr 2
  exact propext ⟨fun h => by omega, fun h => by omega⟩
theorem lmany_any {vL vR : Value} (p : Pan) (w : World) (hL : SlE w vL p.2.2.1) (hR : SlE w vR p.2.2.2) (h : panE p = 0) :
    Calls Tryz.prog 34 #[.agg #[sV p.1, .int .i64 p.2.1, vL, vR]] w (RV w (.int .i64 (netErr p))) := by
  have ok := panE_zero h
  have cA := fun W (hb : Below w.heap.size w W) => rarea_any p W (hL.below hb) (hR.below hb) ok
  have cT := fun W (hb : Below w.heap.size w W) => rletters_any p W (hL.below hb) (hR.below hb) ok
  have cW := fun b W => lwhn_any b 5 W
  have hn := areaS_near (strips_near ok) (strips p).length (Nat.le_refl _)
  have hl := strips_le ok
  rw [List.take_length] at hn
  have hc : (cntU (stpL p.2.2.1 ++ stpL p.2.2.2) 66 : Nat) ≤ 1024 := by
    rw [cntU_map]
    refine Nat.le_trans List.count_le_length ?_
    have h1 := ok.left.len
    have h2 := ok.right.len
    rw [List.length_map, List.length_append]
    omega
  rw [← many_eq h]
  obtain ⟨A, hA⟩ : ∃ A, areaS (strips p) = A := ⟨_, rfl⟩
  obtain ⟨c0, h0⟩ : ∃ c : Int, ((cntU (stpL p.2.2.1 ++ stpL p.2.2.2) 78 : Nat) : Int) = c := ⟨_, rfl⟩
  obtain ⟨c1, h1⟩ : ∃ c : Int, ((cntU (stpL p.2.2.1 ++ stpL p.2.2.2) 66 : Nat) : Int) = c := ⟨_, rfl⟩
  obtain ⟨c2, h2⟩ : ∃ c : Int, ((cntU (stpL p.2.2.1 ++ stpL p.2.2.2) 84 : Nat) : Int) = c := ⟨_, rfl⟩
  have hc1 : 0 ≤ c1 ∧ c1 ≤ 1024 := by omega
  have hA2 : -102400000 ≤ A ∧ A ≤ 102400000 := by omega
  rw [hA] at cA ⊢
  rw [h0, h1, h2] at cT
  rw [h1]
  obtain ⟨hc3, hc4⟩ := hc1
  obtain ⟨hA3, hA4⟩ := hA2
  clear hA h0 h1 h2 hc hn
  obtain ⟨AL, cL, rfl, _, _, _⟩ := hL
  obtain ⟨AR, cR, rfl, _, _, _⟩ := hR
  unfold sV at cA cT ⊢
  have hP := Blk.new w 24 #[.string ⟨p.1.toArray⟩, .int .i64 p.2.1, .slice AL p.2.2.1.length cL, .slice AR p.2.2.2.length cR]
  have fP := hP.facts
  clear ok h hl
  go_enter Tryz.func34, Tryz.ntmps34
  go_upto_region 1 with fail
  refine wp_region_ords [0, 2] [(1, false)] [3, 4, 5, 6, 7, 8, 9] (by kernel_rfl) (by kernel_rfl) (fun d _ _ _ _ h => by cases d <;> exact h) ?_
  simp only [List.map_cons, List.map_nil, List.getD_cons_zero, List.getD_cons_succ]
  repeat (go_big_quiet_step (fail))
  refine wpQuiet_nil ?_
  refine wpMid_run rfl (fun K hK => ?_)
  go_simp
  refine (cA _ (by (repeat (first | exact bl_refl | assumption | (apply bl_then; assumption) | refine bl_alloc ?_ _ | refine bl_drew ?_ | refine bl_drewN ?_ _)))).mono ?_
  rintro e w2 ⟨rfl, hb2⟩
  refine hK _ _ (by (repeat (first | exact bl_refl | assumption | (apply bl_then; assumption) | refine bl_alloc ?_ _ | refine bl_drew ?_ | refine bl_drewN ?_ _))) ?_
  clear hK K
  have hP_w2 := hP.below (show Below _ _ w2 by (repeat (first | exact bl_refl | assumption | (apply bl_then; assumption) | refine bl_alloc ?_ _ | refine bl_drew ?_ | refine bl_drewN ?_ _)))
  have fhP_w2 := hP_w2.facts
  refine wpMid_nil ?_
  go_wp2_with fail
  refine (cT _ (by (repeat (first | exact bl_refl | assumption | (apply bl_then; assumption) | refine bl_alloc ?_ _ | refine bl_drew ?_ | refine bl_drewN ?_ _)))).mono ?_
  rintro e w3 ⟨rfl, hb3⟩
  go_wp2_with fail
  refine (cW _ _).mono ?_
  rintro e w4 ⟨rfl, hb4⟩
  go_wp2
  go_ret
  exact ⟨rfl, by (repeat (first | exact bl_refl | assumption | (apply bl_then; assumption) | refine bl_alloc ?_ _ | refine bl_drew ?_ | refine bl_drewN ?_ _))⟩
theorem great_cases {p : Pan} (h : panE p = 0) : (netErr p = 5 ∧ greatE p = 5) ∨ (netErr p = 0 ∧ greatE p = 5) ∨ (netErr p = 0 ∧ greatE p = 0) := by
  have hn : netErr p = whenI (decide (4096 < (netL p).length)) 5 := by unfold netErr; rw [if_pos h]
  unfold greatE
  rw [hn]
  unfold whenI
  split
  · exact .inl ⟨rfl, rfl⟩
  · split
    · exact .inr (.inl ⟨rfl, rfl⟩)
    · exact .inr (.inr ⟨rfl, rfl⟩)
theorem onlyOk_nil {α : Type} {e : Int} (h : e ≠ 0) (l : List α) : onlyOk e l = [] := if_neg h
theorem u8_range {n : Int} (h : (Lit.int .u8 n).wf = true) : 0 ≤ n ∧ n ≤ 255 := by
  simp [Lit.wf, IntKind.min, IntKind.max, IntKind.signed, IntKind.bits] at h
  omega
theorem panelGreat_any (a b : Int) (o : Bool) (W : World) (ha : 0 ≤ a ∧ a ≤ 255) (hb : 0 ≤ b ∧ b ≤ 255) (hLay : Lay W) :
    Calls Tryz.prog 6 #[.int .u8 a, .int .u8 b, .bool o] W (RV W (.bool true)) := by
  have cAw := fun W' (hb : Below W.heap.size W W') => awakeP_any W' (hLay.below hb)
  obtain ⟨ha1, ha2⟩ := ha
  obtain ⟨hb1, hb2⟩ := hb
  obtain ⟨a, rfl⟩ : ∃ n : Nat, a = n := ⟨a.toNat, by omega⟩
  obtain ⟨b, rfl⟩ : ∃ n : Nat, b = n := ⟨b.toNat, by omega⟩
  go_enter Tryz.func6, Tryz.ntmps6
  go_wp2_with fail
  refine (cAw _ (by (repeat (first | exact bl_refl | assumption | (apply bl_then; assumption) | refine bl_alloc ?_ _ | refine bl_drew ?_ | refine bl_drewN ?_ _)))).mono ?_
  rintro e w1 ⟨rfl, hq1⟩
  go_upto_region 4 with fail
  obtain ⟨x, hx⟩ : ∃ x : Int, 1 + (a : Int) % 128 = x := ⟨_, rfl⟩
  obtain ⟨h, hh⟩ : ∃ h : Nat, 1 + (b : Int) % 64 = h := ⟨(1 + (b : Int) % 64).toNat, by omega⟩
  have hx1 : 1 ≤ x ∧ x ≤ 128 := by omega
  have hh1 : 1 ≤ h ∧ h ≤ 64 := by omega
  rw [hx, hh]
  clear hx hh
  go_upto_region 5 with fail
  obtain ⟨g, hg⟩ : ∃ g, w1.heap.size = g := ⟨_, rfl⟩
  have hE1 := ((Sl.oneG (enc := ec) (sz := 3) w1 60 ([78], (h : Int), false) #[.string ⟨#[78]⟩, .int .i64 h, .bool false] rfl).alloc (.cells #[.string ⟨#[66, 66]⟩, .int .i64 h, .bool o] 60)).alloc (.cells #[.string ⟨#[103, 114, 101, 97, 116]⟩, .int .i64 x, .slice (some ⟨w1.heap.size, 0, none⟩) 1 1, .slice (some ⟨w1.heap.size + 1, 0, none⟩) 1 1] 24)
  have hE2 := (Sl.oneG (enc := ec) (sz := 3) (w1.alloc (.cells #[.string ⟨#[78]⟩, .int .i64 h, .bool false] 60)) 60 ([66, 66], (h : Int), o) #[.string ⟨#[66, 66]⟩, .int .i64 h, .bool o] rfl).alloc (.cells #[.string ⟨#[103, 114, 101, 97, 116]⟩, .int .i64 x, .slice (some ⟨w1.heap.size, 0, none⟩) 1 1, .slice (some ⟨w1.heap.size + 1, 0, none⟩) 1 1] 24)
  have hP := Blk.new2 w1 (.cells #[.string ⟨#[78]⟩, .int .i64 h, .bool false] 60) (.cells #[.string ⟨#[66, 66]⟩, .int .i64 h, .bool o] 60) 24 #[.string ⟨#[103, 114, 101, 97, 116]⟩, .int .i64 x, .slice (some ⟨w1.heap.size, 0, none⟩) 1 1, .slice (some ⟨w1.heap.size + 1, 0, none⟩) 1 1]
  rw [World.size_alloc] at hE2
  obtain ⟨w2, hw2⟩ : ∃ X, ((w1.alloc (.cells #[.string ⟨#[78]⟩, .int .i64 h, .bool false] 60)).alloc (.cells #[.string ⟨#[66, 66]⟩, .int .i64 h, .bool o] 60)).alloc (.cells #[.string ⟨#[103, 114, 101, 97, 116]⟩, .int .i64 x, .slice (some ⟨w1.heap.size, 0, none⟩) 1 1, .slice (some ⟨w1.heap.size + 1, 0, none⟩) 1 1] 24) = X := ⟨_, rfl⟩
  have hq2 : Below W.heap.size W w2 := by rw [← hw2]; exact bl_alloc (bl_alloc (bl_alloc hq1 _) _) _
  rw [hw2] at hE1 hE2 hP ⊢
  rw [hg] at hE1 hE2 hP ⊢
  clear hw2 hg hq1
  obtain ⟨P, hPe⟩ : ∃ P, greatP x h o = P := ⟨_, rfl⟩
  have hP0 : sV P.1 = .string ⟨#[103, 114, 101, 97, 116]⟩ := by rw [← hPe]; rfl
  have hP00 : P.1.length = 5 := by rw [← hPe]; rfl
  have hP1 : P.2.1 = x := by rw [← hPe]; rfl
  have hP2 : P.2.2.1 = [([78], (h : Int), false)] := by rw [← hPe]; rfl
  have hP3 : P.2.2.2 = [([66, 66], (h : Int), o)] := by rw [← hPe]; rfl
  rw [← hP2] at hE1
  rw [← hP3] at hE2
  have cG := fun W' (hb : Below w2.heap.size w2 W') => given_any P W' (hE1.below hb) (hE2.below hb) (by rw [hP2]; simp) (by rw [hP3]; simp)
  have cRP := fun W' (hb : Below w2.heap.size w2 W') => rcheckPanel_any P W' (by omega) (hE1.below hb) (hE2.below hb) (by rw [hP2]; simp) (by rw [hP3]; simp)
  unfold GIW at cG
  have fP := hP.facts
  by_cases hz : panE P = 0
  · have hok := panE_zero hz
    have cA := fun (vL vR : Value) W' hL hR => apiArea_any (vL := vL) (vR := vR) P W' (by omega) hL hR
    have cN := fun (vL vR : Value) W' hL hR => apiNet_any (vL := vL) (vR := vR) P W' (by omega) hL hR
    have cR := fun (vL vR : Value) W' hL hR => apiRows_any (vL := vL) (vR := vR) P W' (by omega) hL hR
    have cX := fun (vL vR : Value) W' hL hR => apiRest_any (vL := vL) (vR := vR) P W' (by omega) hL hR
    have cRA := fun W' (hb : Below w2.heap.size w2 W') => rarea_any P W' (hE1.below hb) (hE2.below hb) hok
    have cM := fun W' (hb : Below w2.heap.size w2 W') => lmany_any P W' (hE1.below hb) (hE2.below hb) hz
    have cRF := fun W' (hb : Below w2.heap.size w2 W') => raroundP_any P W' (hE1.below hb) (hE2.below hb) hok
    have cW := fun b W => lwhn_any b 5 W
    obtain ⟨hR, hX1, hX2⟩ := greatE_eq hz
    have hN2 : 2 * ((netL P).length : Int) = areaS (strips P) + 2 * (h : Int) := by rw [← hPe] at hz ⊢; exact great_two hz
    have hH : heightP P = 2 * (h : Int) := by rw [← hPe]; exact great_high x h o
    have hRl := rowsL_len P
    have hfr := hok.frame
    have hcs := great_cases hz
    have hnn : netErr P = 0 → (netL P).length ≤ 4096 := fun q => (netErr_zero q).2
    have hgE : greatE P = firstI [netErr P, whenI (decide (256 < frmC P) || decide (4096 < 2 * frmC P * heightP P)) 5] := rfl
    rw [hz] at cRP cA
    rw [hR] at cX
    rw [show onlyN 0 (areaS (strips P)) = areaS (strips P) from rfl] at cA
    have hFA : frmA P = #[.int .i64 (frmX P), .int .i64 0, .int .i64 (frmC P), .int .i64 (heightP P)] := rfl
    rw [hFA] at cRF
    rw [hP0, hP1] at cG cRP cA cN cR cX cRA cM cRF
    obtain ⟨N, hN⟩ : ∃ z, netL P = z := ⟨_, rfl⟩
    obtain ⟨R, hRR⟩ : ∃ z, rowsL P = z := ⟨_, rfl⟩
    obtain ⟨X, hX⟩ : ∃ z, restL P = z := ⟨_, rfl⟩
    obtain ⟨AA, hAA⟩ : ∃ z, areaS (strips P) = z := ⟨_, rfl⟩
    obtain ⟨X0, hX0⟩ : ∃ z, frmX P = z := ⟨_, rfl⟩
    obtain ⟨C, hC⟩ : ∃ z, frmC P = z := ⟨_, rfl⟩
    obtain ⟨H, hHH⟩ : ∃ z, heightP P = z := ⟨_, rfl⟩
    rw [hN] at cN hN2 hX1 hnn
    rw [hRR] at cR hRl
    rw [hX] at cX hX1 hX2
    rw [hAA] at cA cRA hN2
    rw [hX0] at cRF hfr
    rw [hC] at cRF hfr hX1 hgE
    rw [hHH] at cRF hX1 hH hgE hRl
    have hm : 0 ≤ 2 * C * H ∧ 2 * C * H ≤ 10000 * 128 := ⟨Int.mul_nonneg (by omega) (by omega), Int.mul_le_mul (by omega) (by omega) (by omega) (by omega)⟩
    obtain ⟨hm1, hm2⟩ := hm
    have hRl2 : (R.length : Int) = 2 * (h : Int) + 1 := by omega
    obtain ⟨B, hB⟩ : ∃ z, netErr P = z := ⟨_, rfl⟩
    obtain ⟨G, hG⟩ : ∃ z, greatE P = z := ⟨_, rfl⟩
    rw [hB] at cN cR cM hcs hnn hgE
    rw [hG] at cX hcs hX1 hX2 hgE
    obtain ⟨hx1, hx2⟩ := hx1
    obtain ⟨hh1, hh2⟩ := hh1
    have HgE := Lib.hid hgE
    have HX1 := Lib.hid hX1
    have HN2 := Lib.hid hN2
    have HRl := Lib.hid hRl2
    clear hN hRR hX hAA hX0 hC hHH hB hG hz hok hPe hE1 hE2 hP2 hP3 hR hgE hX1 hN2 hRl2 hRl hFA
    obtain ⟨_, _, hC1, hC2, _⟩ := hfr
    have HH := Lib.hid hH
    clear hH
    have tN2 : (2 * (N.length : Int) != AA + 2 * (h : Int)) = false := by rw [HN2.out]; exact bne_self_eq_false _
    have tRl : ((R.length : Int) != 2 * (h : Int) + 1) = false := by rw [HRl.out]; exact bne_self_eq_false _
    rcases hcs with ⟨rfl, rfl⟩ | ⟨rfl, rfl⟩ | ⟨rfl, rfl⟩
    · rw [show onlyOk 5 N = [] from onlyOk_nil (by decide) N] at cN
      rw [show onlyOk 5 R = [] from onlyOk_nil (by decide) R] at cR
      have cNet := fun (v u : Value) W' h h' => lnetP_any (v := v) (u := u) [] [] 5 5 W' h h'
      rw [show netBP [] 5 5 [] = true from rfl] at cNet
      obtain rfl := hX2 (by decide)
      clear hX2 hnn HN2 HRl HX1 HH
      go_wp2_with fail
      refine (cRP _ (by (repeat (first | exact bl_refl | assumption | (apply bl_then; assumption) | refine bl_alloc ?_ _ | refine bl_drew ?_ | refine bl_drewN ?_ _)))).mono ?_
      rintro e w3 ⟨rfl, hb3⟩
      replace hP := hP.below (show Below _ _ w3 by (repeat (first | exact bl_refl | assumption | (apply bl_then; assumption) | refine bl_alloc ?_ _ | refine bl_drew ?_ | refine bl_drewN ?_ _)))
      replace fhP := hP.facts
      go_wp2_with fail
      refine (cG _ (by (repeat (first | exact bl_refl | assumption | (apply bl_then; assumption) | refine bl_alloc ?_ _ | refine bl_drew ?_ | refine bl_drewN ?_ _)))).mono ?_
      rintro e w4 ⟨uL4, uR4, rfl, oL4, oR4, hb4⟩
      replace hP := hP.below (show Below _ _ w4 by (repeat (first | exact bl_refl | assumption | (apply bl_then; assumption) | refine bl_alloc ?_ _ | refine bl_drew ?_ | refine bl_drewN ?_ _)))
      replace fhP := hP.facts
      go_wp2_with fail
      refine (cA _ _ _ (oL4.rd ec_len) (oR4.rd ec_len)).mono ?_
      rintro e w5 ⟨rfl, hb5⟩
      replace hP := hP.below (show Below _ _ w5 by (repeat (first | exact bl_refl | assumption | (apply bl_then; assumption) | refine bl_alloc ?_ _ | refine bl_drew ?_ | refine bl_drewN ?_ _)))
      replace fhP := hP.facts
      go_wp2_with fail
      refine (cG _ (by (repeat (first | exact bl_refl | assumption | (apply bl_then; assumption) | refine bl_alloc ?_ _ | refine bl_drew ?_ | refine bl_drewN ?_ _)))).mono ?_
      rintro e w6 ⟨uL6, uR6, rfl, oL6, oR6, hb6⟩
      replace hP := hP.below (show Below _ _ w6 by (repeat (first | exact bl_refl | assumption | (apply bl_then; assumption) | refine bl_alloc ?_ _ | refine bl_drew ?_ | refine bl_drewN ?_ _)))
      replace fhP := hP.facts
      go_wp2_with fail
      refine (cN _ _ _ (oL6.rd ec_len) (oR6.rd ec_len)).mono ?_
      rintro e w7 ⟨v7, rfl, hO7, hb7⟩
      replace hP := hP.below (show Below _ _ w7 by (repeat (first | exact bl_refl | assumption | (apply bl_then; assumption) | refine bl_alloc ?_ _ | refine bl_drew ?_ | refine bl_drewN ?_ _)))
      replace fhP := hP.facts
      obtain ⟨A7, c7, hv7⟩ : ∃ A c, v7 = .slice A 0 c := by obtain ⟨A, c, rfl⟩ := hO7.shape; exact ⟨A, c, rfl⟩
      subst hv7
      go_wp2_with fail
      refine (cG _ (by (repeat (first | exact bl_refl | assumption | (apply bl_then; assumption) | refine bl_alloc ?_ _ | refine bl_drew ?_ | refine bl_drewN ?_ _)))).mono ?_
      rintro e w8 ⟨uL8, uR8, rfl, oL8, oR8, hb8⟩
      replace hP := hP.below (show Below _ _ w8 by (repeat (first | exact bl_refl | assumption | (apply bl_then; assumption) | refine bl_alloc ?_ _ | refine bl_drew ?_ | refine bl_drewN ?_ _)))
      replace fhP := hP.facts
      go_wp2_with fail
      refine (cR _ _ _ (oL8.rd ec_len) (oR8.rd ec_len)).mono ?_
      rintro e w9 ⟨v9, rfl, hO9, hb9⟩
      replace hP := hP.below (show Below _ _ w9 by (repeat (first | exact bl_refl | assumption | (apply bl_then; assumption) | refine bl_alloc ?_ _ | refine bl_drew ?_ | refine bl_drewN ?_ _)))
      replace fhP := hP.facts
      obtain ⟨A9, c9, hv9⟩ : ∃ A c, v9 = .slice A 0 c := by obtain ⟨A, c, rfl⟩ := hO9.shape; exact ⟨A, c, rfl⟩
      subst hv9
      go_wp2_with fail
      refine (cG _ (by (repeat (first | exact bl_refl | assumption | (apply bl_then; assumption) | refine bl_alloc ?_ _ | refine bl_drew ?_ | refine bl_drewN ?_ _)))).mono ?_
      rintro e w10 ⟨uL10, uR10, rfl, oL10, oR10, hb10⟩
      replace hP := hP.below (show Below _ _ w10 by (repeat (first | exact bl_refl | assumption | (apply bl_then; assumption) | refine bl_alloc ?_ _ | refine bl_drew ?_ | refine bl_drewN ?_ _)))
      replace fhP := hP.facts
      go_wp2_with fail
      refine (cX _ _ _ (oL10.rd ec_len) (oR10.rd ec_len)).mono ?_
      rintro e w11 ⟨v11, rfl, hO11, hb11⟩
      replace hP := hP.below (show Below _ _ w11 by (repeat (first | exact bl_refl | assumption | (apply bl_then; assumption) | refine bl_alloc ?_ _ | refine bl_drew ?_ | refine bl_drewN ?_ _)))
      replace fhP := hP.facts
      obtain ⟨A11, c11, hv11⟩ : ∃ A c, v11 = .slice A 0 c := by obtain ⟨A, c, rfl⟩ := hO11.shape; exact ⟨A, c, rfl⟩
      subst hv11
      go_wp2_with fail
      refine (cRA _ (by (repeat (first | exact bl_refl | assumption | (apply bl_then; assumption) | refine bl_alloc ?_ _ | refine bl_drew ?_ | refine bl_drewN ?_ _)))).mono ?_
      rintro e w12 ⟨rfl, hb12⟩
      replace hP := hP.below (show Below _ _ w12 by (repeat (first | exact bl_refl | assumption | (apply bl_then; assumption) | refine bl_alloc ?_ _ | refine bl_drew ?_ | refine bl_drewN ?_ _)))
      replace fhP := hP.facts
      go_wp2_with fail
      refine (cM _ (by (repeat (first | exact bl_refl | assumption | (apply bl_then; assumption) | refine bl_alloc ?_ _ | refine bl_drew ?_ | refine bl_drewN ?_ _)))).mono ?_
      rintro e w13 ⟨rfl, hb13⟩
      replace hP := hP.below (show Below _ _ w13 by (repeat (first | exact bl_refl | assumption | (apply bl_then; assumption) | refine bl_alloc ?_ _ | refine bl_drew ?_ | refine bl_drewN ?_ _)))
      replace fhP := hP.facts
      go_wp2_with fail
      refine (cRF _ (by (repeat (first | exact bl_refl | assumption | (apply bl_then; assumption) | refine bl_alloc ?_ _ | refine bl_drew ?_ | refine bl_drewN ?_ _)))).mono ?_
      rintro e w14 ⟨rfl, hb14⟩
      replace hP := hP.below (show Below _ _ w14 by (repeat (first | exact bl_refl | assumption | (apply bl_then; assumption) | refine bl_alloc ?_ _ | refine bl_drew ?_ | refine bl_drewN ?_ _)))
      replace fhP := hP.facts
      have hB14 := Blk.new w14 57 #[.int .i64 X0, .int .i64 0, .int .i64 C, .int .i64 H]
      have fB14 := hB14.facts
      go_upto_region 15 with fail
      by_cases hD : 256 < C
      · have tD : (256 < C) = True := eq_true hD
        have qD : decide (256 < C) = true := decide_eq_true hD
        clear hD
        have cF : ∀ A c' W, Rd ic 1 W A [5, whenI true 5] → Calls Tryz.prog 35 #[.slice A 2 c'] W (RV W (.int .i64 5)) := fun A c' W hr => by
          have hq := lfst_any [5, whenI true 5] A c' W (by simp [maxLen]) hr
          rw [show firstI [5, whenI true 5] = 5 by have hq := HgE.out; rw [qD, Bool.true_or] at hq; exact hq.symm] at hq
          exact hq
        clear HgE
        go_wp2_with fail
        refine (cW _ _).mono ?_
        rintro e w15 ⟨rfl, hb15⟩
        replace hP := hP.below (show Below _ _ w15 by (repeat (first | exact bl_refl | assumption | (apply bl_then; assumption) | refine bl_alloc ?_ _ | refine bl_drew ?_ | refine bl_drewN ?_ _)))
        replace fhP := hP.facts
        replace hB14 := hB14.below (show Below _ _ w15 by (repeat (first | exact bl_refl | assumption | (apply bl_then; assumption) | refine bl_alloc ?_ _ | refine bl_drew ?_ | refine bl_drewN ?_ _)))
        replace fhB14 := hB14.facts
        go_wp2_with fail
        refine (cF _ _ _ (Rd.ints2 ?xa ?xb ?xc)).mono ?_
        case xa => go_simp
        case xb => go_simp
        case xc => go_simp
        rintro e w16 ⟨rfl, hb16⟩
        replace hB14 := hB14.below (show Below w15.heap.size w15 w16 by (repeat (first | exact bl_refl | assumption | (apply bl_then; assumption) | refine bl_alloc ?_ _ | refine bl_drew ?_ | refine bl_drewN ?_ _)))
        have fB14 := hB14.facts
        go_wp2_with fail
        refine (cNet _ _ _ ((hO7.rd bc_len).below (by (repeat (first | exact bl_refl | assumption | (apply bl_then; assumption) | refine bl_alloc ?_ _ | refine bl_drew ?_ | refine bl_drewN ?_ _)))) Sl.nil_).mono ?_
        rintro e w17 ⟨rfl, hb17⟩
        replace hB14 := hB14.below (show Below _ _ w17 by (repeat (first | exact bl_refl | assumption | (apply bl_then; assumption) | refine bl_alloc ?_ _ | refine bl_drew ?_ | refine bl_drewN ?_ _)))
        replace fhB14 := hB14.facts
        go_wp2
        go_ret
        exact ⟨rfl, by (repeat (first | exact bl_refl | assumption | (apply bl_then; assumption) | refine bl_alloc ?_ _ | refine bl_drew ?_ | refine bl_drewN ?_ _))⟩
      · have tD : (256 < C) = False := eq_false hD
        have qD : decide (256 < C) = false := decide_eq_false hD
        clear hD
        have cF : ∀ A c' W, Rd ic 1 W A [5, whenI (decide (4096 < 2 * C * H)) 5] → Calls Tryz.prog 35 #[.slice A 2 c'] W (RV W (.int .i64 5)) := fun A c' W hr => by
          have hq := lfst_any [5, whenI (decide (4096 < 2 * C * H)) 5] A c' W (by simp [maxLen]) hr
          rw [show firstI [5, whenI (decide (4096 < 2 * C * H)) 5] = 5 by have hq := HgE.out; rw [qD, Bool.false_or] at hq; exact hq.symm] at hq
          exact hq
        clear HgE
        go_wp2_with fail
        refine (cW _ _).mono ?_
        rintro e w15 ⟨rfl, hb15⟩
        replace hP := hP.below (show Below _ _ w15 by (repeat (first | exact bl_refl | assumption | (apply bl_then; assumption) | refine bl_alloc ?_ _ | refine bl_drew ?_ | refine bl_drewN ?_ _)))
        replace fhP := hP.facts
        replace hB14 := hB14.below (show Below _ _ w15 by (repeat (first | exact bl_refl | assumption | (apply bl_then; assumption) | refine bl_alloc ?_ _ | refine bl_drew ?_ | refine bl_drewN ?_ _)))
        replace fhB14 := hB14.facts
        go_wp2_with fail
        refine (cF _ _ _ (Rd.ints2 ?xa ?xb ?xc)).mono ?_
        case xa => go_simp
        case xb => go_simp
        case xc => go_simp
        rintro e w16 ⟨rfl, hb16⟩
        replace hB14 := hB14.below (show Below w15.heap.size w15 w16 by (repeat (first | exact bl_refl | assumption | (apply bl_then; assumption) | refine bl_alloc ?_ _ | refine bl_drew ?_ | refine bl_drewN ?_ _)))
        have fB14 := hB14.facts
        go_wp2_with fail
        refine (cNet _ _ _ ((hO7.rd bc_len).below (by (repeat (first | exact bl_refl | assumption | (apply bl_then; assumption) | refine bl_alloc ?_ _ | refine bl_drew ?_ | refine bl_drewN ?_ _)))) Sl.nil_).mono ?_
        rintro e w17 ⟨rfl, hb17⟩
        replace hB14 := hB14.below (show Below _ _ w17 by (repeat (first | exact bl_refl | assumption | (apply bl_then; assumption) | refine bl_alloc ?_ _ | refine bl_drew ?_ | refine bl_drewN ?_ _)))
        replace fhB14 := hB14.facts
        go_wp2
        go_ret
        exact ⟨rfl, by (repeat (first | exact bl_refl | assumption | (apply bl_then; assumption) | refine bl_alloc ?_ _ | refine bl_drew ?_ | refine bl_drewN ?_ _))⟩
    · rw [show onlyOk 0 N = N from rfl] at cN
      rw [show onlyOk 0 R = R from rfl] at cR
      have hNl := hnn rfl
      have hAA1 : -200 ≤ AA := by have := HN2.out; omega
      have hAA2 : AA ≤ 8192 := by have := HN2.out; omega
      obtain rfl := hX2 (by decide)
      clear hX2 hnn HN2 HRl HX1 HH
      go_wp2_with fail
      refine (cRP _ (by (repeat (first | exact bl_refl | assumption | (apply bl_then; assumption) | refine bl_alloc ?_ _ | refine bl_drew ?_ | refine bl_drewN ?_ _)))).mono ?_
      rintro e w3 ⟨rfl, hb3⟩
      replace hP := hP.below (show Below _ _ w3 by (repeat (first | exact bl_refl | assumption | (apply bl_then; assumption) | refine bl_alloc ?_ _ | refine bl_drew ?_ | refine bl_drewN ?_ _)))
      replace fhP := hP.facts
      go_wp2_with fail
      refine (cG _ (by (repeat (first | exact bl_refl | assumption | (apply bl_then; assumption) | refine bl_alloc ?_ _ | refine bl_drew ?_ | refine bl_drewN ?_ _)))).mono ?_
      rintro e w4 ⟨uL4, uR4, rfl, oL4, oR4, hb4⟩
      replace hP := hP.below (show Below _ _ w4 by (repeat (first | exact bl_refl | assumption | (apply bl_then; assumption) | refine bl_alloc ?_ _ | refine bl_drew ?_ | refine bl_drewN ?_ _)))
      replace fhP := hP.facts
      go_wp2_with fail
      refine (cA _ _ _ (oL4.rd ec_len) (oR4.rd ec_len)).mono ?_
      rintro e w5 ⟨rfl, hb5⟩
      replace hP := hP.below (show Below _ _ w5 by (repeat (first | exact bl_refl | assumption | (apply bl_then; assumption) | refine bl_alloc ?_ _ | refine bl_drew ?_ | refine bl_drewN ?_ _)))
      replace fhP := hP.facts
      go_wp2_with fail
      refine (cG _ (by (repeat (first | exact bl_refl | assumption | (apply bl_then; assumption) | refine bl_alloc ?_ _ | refine bl_drew ?_ | refine bl_drewN ?_ _)))).mono ?_
      rintro e w6 ⟨uL6, uR6, rfl, oL6, oR6, hb6⟩
      replace hP := hP.below (show Below _ _ w6 by (repeat (first | exact bl_refl | assumption | (apply bl_then; assumption) | refine bl_alloc ?_ _ | refine bl_drew ?_ | refine bl_drewN ?_ _)))
      replace fhP := hP.facts
      go_wp2_with fail
      refine (cN _ _ _ (oL6.rd ec_len) (oR6.rd ec_len)).mono ?_
      rintro e w7 ⟨v7, rfl, hO7, hb7⟩
      replace hP := hP.below (show Below _ _ w7 by (repeat (first | exact bl_refl | assumption | (apply bl_then; assumption) | refine bl_alloc ?_ _ | refine bl_drew ?_ | refine bl_drewN ?_ _)))
      replace fhP := hP.facts
      obtain ⟨A7, c7, rfl⟩ := hO7.shape
      go_wp2_with fail
      refine (cG _ (by (repeat (first | exact bl_refl | assumption | (apply bl_then; assumption) | refine bl_alloc ?_ _ | refine bl_drew ?_ | refine bl_drewN ?_ _)))).mono ?_
      rintro e w8 ⟨uL8, uR8, rfl, oL8, oR8, hb8⟩
      replace hP := hP.below (show Below _ _ w8 by (repeat (first | exact bl_refl | assumption | (apply bl_then; assumption) | refine bl_alloc ?_ _ | refine bl_drew ?_ | refine bl_drewN ?_ _)))
      replace fhP := hP.facts
      go_wp2_with fail
      refine (cR _ _ _ (oL8.rd ec_len) (oR8.rd ec_len)).mono ?_
      rintro e w9 ⟨v9, rfl, hO9, hb9⟩
      replace hP := hP.below (show Below _ _ w9 by (repeat (first | exact bl_refl | assumption | (apply bl_then; assumption) | refine bl_alloc ?_ _ | refine bl_drew ?_ | refine bl_drewN ?_ _)))
      replace fhP := hP.facts
      obtain ⟨A9, c9, rfl⟩ := hO9.shape
      go_wp2_with fail
      refine (cG _ (by (repeat (first | exact bl_refl | assumption | (apply bl_then; assumption) | refine bl_alloc ?_ _ | refine bl_drew ?_ | refine bl_drewN ?_ _)))).mono ?_
      rintro e w10 ⟨uL10, uR10, rfl, oL10, oR10, hb10⟩
      replace hP := hP.below (show Below _ _ w10 by (repeat (first | exact bl_refl | assumption | (apply bl_then; assumption) | refine bl_alloc ?_ _ | refine bl_drew ?_ | refine bl_drewN ?_ _)))
      replace fhP := hP.facts
      go_wp2_with fail
      refine (cX _ _ _ (oL10.rd ec_len) (oR10.rd ec_len)).mono ?_
      rintro e w11 ⟨v11, rfl, hO11, hb11⟩
      replace hP := hP.below (show Below _ _ w11 by (repeat (first | exact bl_refl | assumption | (apply bl_then; assumption) | refine bl_alloc ?_ _ | refine bl_drew ?_ | refine bl_drewN ?_ _)))
      replace fhP := hP.facts
      obtain ⟨A11, c11, hv11⟩ : ∃ A c, v11 = .slice A 0 c := by obtain ⟨A, c, rfl⟩ := hO11.shape; exact ⟨A, c, rfl⟩
      subst hv11
      go_wp2_with fail
      refine (cRA _ (by (repeat (first | exact bl_refl | assumption | (apply bl_then; assumption) | refine bl_alloc ?_ _ | refine bl_drew ?_ | refine bl_drewN ?_ _)))).mono ?_
      rintro e w12 ⟨rfl, hb12⟩
      replace hP := hP.below (show Below _ _ w12 by (repeat (first | exact bl_refl | assumption | (apply bl_then; assumption) | refine bl_alloc ?_ _ | refine bl_drew ?_ | refine bl_drewN ?_ _)))
      replace fhP := hP.facts
      go_wp2_with fail
      refine (cM _ (by (repeat (first | exact bl_refl | assumption | (apply bl_then; assumption) | refine bl_alloc ?_ _ | refine bl_drew ?_ | refine bl_drewN ?_ _)))).mono ?_
      rintro e w13 ⟨rfl, hb13⟩
      replace hP := hP.below (show Below _ _ w13 by (repeat (first | exact bl_refl | assumption | (apply bl_then; assumption) | refine bl_alloc ?_ _ | refine bl_drew ?_ | refine bl_drewN ?_ _)))
      replace fhP := hP.facts
      go_wp2_with fail
      refine (cRF _ (by (repeat (first | exact bl_refl | assumption | (apply bl_then; assumption) | refine bl_alloc ?_ _ | refine bl_drew ?_ | refine bl_drewN ?_ _)))).mono ?_
      rintro e w14 ⟨rfl, hb14⟩
      replace hP := hP.below (show Below _ _ w14 by (repeat (first | exact bl_refl | assumption | (apply bl_then; assumption) | refine bl_alloc ?_ _ | refine bl_drew ?_ | refine bl_drewN ?_ _)))
      replace fhP := hP.facts
      have hB14 := Blk.new w14 57 #[.int .i64 X0, .int .i64 0, .int .i64 C, .int .i64 H]
      have fB14 := hB14.facts
      go_upto_region 15 with fail
      by_cases hD : 256 < C
      · have tD : (256 < C) = True := eq_true hD
        have qD : decide (256 < C) = true := decide_eq_true hD
        clear hD
        have cF : ∀ A c' W, Rd ic 1 W A [0, whenI true 5] → Calls Tryz.prog 35 #[.slice A 2 c'] W (RV W (.int .i64 5)) := fun A c' W hr => by
          have hq := lfst_any [0, whenI true 5] A c' W (by simp [maxLen]) hr
          rw [show firstI [0, whenI true 5] = 5 by have hq := HgE.out; rw [qD, Bool.true_or] at hq; exact hq.symm] at hq
          exact hq
        clear HgE
        go_wp2_with fail
        refine (cW _ _).mono ?_
        rintro e w15 ⟨rfl, hb15⟩
        replace hP := hP.below (show Below _ _ w15 by (repeat (first | exact bl_refl | assumption | (apply bl_then; assumption) | refine bl_alloc ?_ _ | refine bl_drew ?_ | refine bl_drewN ?_ _)))
        replace fhP := hP.facts
        replace hB14 := hB14.below (show Below _ _ w15 by (repeat (first | exact bl_refl | assumption | (apply bl_then; assumption) | refine bl_alloc ?_ _ | refine bl_drew ?_ | refine bl_drewN ?_ _)))
        replace fhB14 := hB14.facts
        go_wp2_with fail
        refine (cF _ _ _ (Rd.ints2 ?xa ?xb ?xc)).mono ?_
        case xa => go_simp
        case xb => go_simp
        case xc => go_simp
        rintro e w16 ⟨rfl, hb16⟩
        replace hB14 := hB14.below (show Below w15.heap.size w15 w16 by (repeat (first | exact bl_refl | assumption | (apply bl_then; assumption) | refine bl_alloc ?_ _ | refine bl_drew ?_ | refine bl_drewN ?_ _)))
        have fB14 := hB14.facts
        go_wp2
        go_ret
        exact ⟨rfl, by (repeat (first | exact bl_refl | assumption | (apply bl_then; assumption) | refine bl_alloc ?_ _ | refine bl_drew ?_ | refine bl_drewN ?_ _))⟩
      · have tD : (256 < C) = False := eq_false hD
        have qD : decide (256 < C) = false := decide_eq_false hD
        clear hD
        have cF : ∀ A c' W, Rd ic 1 W A [0, whenI (decide (4096 < 2 * C * H)) 5] → Calls Tryz.prog 35 #[.slice A 2 c'] W (RV W (.int .i64 5)) := fun A c' W hr => by
          have hq := lfst_any [0, whenI (decide (4096 < 2 * C * H)) 5] A c' W (by simp [maxLen]) hr
          rw [show firstI [0, whenI (decide (4096 < 2 * C * H)) 5] = 5 by have hq := HgE.out; rw [qD, Bool.false_or] at hq; exact hq.symm] at hq
          exact hq
        clear HgE
        go_wp2_with fail
        refine (cW _ _).mono ?_
        rintro e w15 ⟨rfl, hb15⟩
        replace hP := hP.below (show Below _ _ w15 by (repeat (first | exact bl_refl | assumption | (apply bl_then; assumption) | refine bl_alloc ?_ _ | refine bl_drew ?_ | refine bl_drewN ?_ _)))
        replace fhP := hP.facts
        replace hB14 := hB14.below (show Below _ _ w15 by (repeat (first | exact bl_refl | assumption | (apply bl_then; assumption) | refine bl_alloc ?_ _ | refine bl_drew ?_ | refine bl_drewN ?_ _)))
        replace fhB14 := hB14.facts
        go_wp2_with fail
        refine (cF _ _ _ (Rd.ints2 ?xa ?xb ?xc)).mono ?_
        case xa => go_simp
        case xb => go_simp
        case xc => go_simp
        rintro e w16 ⟨rfl, hb16⟩
        replace hB14 := hB14.below (show Below w15.heap.size w15 w16 by (repeat (first | exact bl_refl | assumption | (apply bl_then; assumption) | refine bl_alloc ?_ _ | refine bl_drew ?_ | refine bl_drewN ?_ _)))
        have fB14 := hB14.facts
        go_wp2
        go_ret
        exact ⟨rfl, by (repeat (first | exact bl_refl | assumption | (apply bl_then; assumption) | refine bl_alloc ?_ _ | refine bl_drew ?_ | refine bl_drewN ?_ _))⟩
    · rw [show onlyOk 0 N = N from rfl] at cN
      rw [show onlyOk 0 R = R from rfl] at cR
      have hNl := hnn rfl
      have hAA1 : -200 ≤ AA := by have := HN2.out; omega
      have hAA2 : AA ≤ 8192 := by have := HN2.out; omega
      have hXl := HX1.out rfl
      have hX3 : ((X.length : Int) + (N.length : Int) == 2 * C * H) = true := by rw [hXl]; exact beq_self_eq_true _
      have hX4 : (X.length : Int) ≤ 1280000 := by omega
      clear hXl
      clear hX2 hnn HN2 HRl HX1 HH
      go_wp2_with fail
      refine (cRP _ (by (repeat (first | exact bl_refl | assumption | (apply bl_then; assumption) | refine bl_alloc ?_ _ | refine bl_drew ?_ | refine bl_drewN ?_ _)))).mono ?_
      rintro e w3 ⟨rfl, hb3⟩
      replace hP := hP.below (show Below _ _ w3 by (repeat (first | exact bl_refl | assumption | (apply bl_then; assumption) | refine bl_alloc ?_ _ | refine bl_drew ?_ | refine bl_drewN ?_ _)))
      replace fhP := hP.facts
      go_wp2_with fail
      refine (cG _ (by (repeat (first | exact bl_refl | assumption | (apply bl_then; assumption) | refine bl_alloc ?_ _ | refine bl_drew ?_ | refine bl_drewN ?_ _)))).mono ?_
      rintro e w4 ⟨uL4, uR4, rfl, oL4, oR4, hb4⟩
      replace hP := hP.below (show Below _ _ w4 by (repeat (first | exact bl_refl | assumption | (apply bl_then; assumption) | refine bl_alloc ?_ _ | refine bl_drew ?_ | refine bl_drewN ?_ _)))
      replace fhP := hP.facts
      go_wp2_with fail
      refine (cA _ _ _ (oL4.rd ec_len) (oR4.rd ec_len)).mono ?_
      rintro e w5 ⟨rfl, hb5⟩
      replace hP := hP.below (show Below _ _ w5 by (repeat (first | exact bl_refl | assumption | (apply bl_then; assumption) | refine bl_alloc ?_ _ | refine bl_drew ?_ | refine bl_drewN ?_ _)))
      replace fhP := hP.facts
      go_wp2_with fail
      refine (cG _ (by (repeat (first | exact bl_refl | assumption | (apply bl_then; assumption) | refine bl_alloc ?_ _ | refine bl_drew ?_ | refine bl_drewN ?_ _)))).mono ?_
      rintro e w6 ⟨uL6, uR6, rfl, oL6, oR6, hb6⟩
      replace hP := hP.below (show Below _ _ w6 by (repeat (first | exact bl_refl | assumption | (apply bl_then; assumption) | refine bl_alloc ?_ _ | refine bl_drew ?_ | refine bl_drewN ?_ _)))
      replace fhP := hP.facts
      go_wp2_with fail
      refine (cN _ _ _ (oL6.rd ec_len) (oR6.rd ec_len)).mono ?_
      rintro e w7 ⟨v7, rfl, hO7, hb7⟩
      replace hP := hP.below (show Below _ _ w7 by (repeat (first | exact bl_refl | assumption | (apply bl_then; assumption) | refine bl_alloc ?_ _ | refine bl_drew ?_ | refine bl_drewN ?_ _)))
      replace fhP := hP.facts
      obtain ⟨A7, c7, rfl⟩ := hO7.shape
      go_wp2_with fail
      refine (cG _ (by (repeat (first | exact bl_refl | assumption | (apply bl_then; assumption) | refine bl_alloc ?_ _ | refine bl_drew ?_ | refine bl_drewN ?_ _)))).mono ?_
      rintro e w8 ⟨uL8, uR8, rfl, oL8, oR8, hb8⟩
      replace hP := hP.below (show Below _ _ w8 by (repeat (first | exact bl_refl | assumption | (apply bl_then; assumption) | refine bl_alloc ?_ _ | refine bl_drew ?_ | refine bl_drewN ?_ _)))
      replace fhP := hP.facts
      go_wp2_with fail
      refine (cR _ _ _ (oL8.rd ec_len) (oR8.rd ec_len)).mono ?_
      rintro e w9 ⟨v9, rfl, hO9, hb9⟩
      replace hP := hP.below (show Below _ _ w9 by (repeat (first | exact bl_refl | assumption | (apply bl_then; assumption) | refine bl_alloc ?_ _ | refine bl_drew ?_ | refine bl_drewN ?_ _)))
      replace fhP := hP.facts
      obtain ⟨A9, c9, rfl⟩ := hO9.shape
      go_wp2_with fail
      refine (cG _ (by (repeat (first | exact bl_refl | assumption | (apply bl_then; assumption) | refine bl_alloc ?_ _ | refine bl_drew ?_ | refine bl_drewN ?_ _)))).mono ?_
      rintro e w10 ⟨uL10, uR10, rfl, oL10, oR10, hb10⟩
      replace hP := hP.below (show Below _ _ w10 by (repeat (first | exact bl_refl | assumption | (apply bl_then; assumption) | refine bl_alloc ?_ _ | refine bl_drew ?_ | refine bl_drewN ?_ _)))
      replace fhP := hP.facts
      go_wp2_with fail
      refine (cX _ _ _ (oL10.rd ec_len) (oR10.rd ec_len)).mono ?_
      rintro e w11 ⟨v11, rfl, hO11, hb11⟩
      replace hP := hP.below (show Below _ _ w11 by (repeat (first | exact bl_refl | assumption | (apply bl_then; assumption) | refine bl_alloc ?_ _ | refine bl_drew ?_ | refine bl_drewN ?_ _)))
      replace fhP := hP.facts
      obtain ⟨A11, c11, rfl⟩ := hO11.shape
      go_wp2_with fail
      refine (cRA _ (by (repeat (first | exact bl_refl | assumption | (apply bl_then; assumption) | refine bl_alloc ?_ _ | refine bl_drew ?_ | refine bl_drewN ?_ _)))).mono ?_
      rintro e w12 ⟨rfl, hb12⟩
      replace hP := hP.below (show Below _ _ w12 by (repeat (first | exact bl_refl | assumption | (apply bl_then; assumption) | refine bl_alloc ?_ _ | refine bl_drew ?_ | refine bl_drewN ?_ _)))
      replace fhP := hP.facts
      go_wp2_with fail
      refine (cM _ (by (repeat (first | exact bl_refl | assumption | (apply bl_then; assumption) | refine bl_alloc ?_ _ | refine bl_drew ?_ | refine bl_drewN ?_ _)))).mono ?_
      rintro e w13 ⟨rfl, hb13⟩
      replace hP := hP.below (show Below _ _ w13 by (repeat (first | exact bl_refl | assumption | (apply bl_then; assumption) | refine bl_alloc ?_ _ | refine bl_drew ?_ | refine bl_drewN ?_ _)))
      replace fhP := hP.facts
      go_wp2_with fail
      refine (cRF _ (by (repeat (first | exact bl_refl | assumption | (apply bl_then; assumption) | refine bl_alloc ?_ _ | refine bl_drew ?_ | refine bl_drewN ?_ _)))).mono ?_
      rintro e w14 ⟨rfl, hb14⟩
      replace hP := hP.below (show Below _ _ w14 by (repeat (first | exact bl_refl | assumption | (apply bl_then; assumption) | refine bl_alloc ?_ _ | refine bl_drew ?_ | refine bl_drewN ?_ _)))
      replace fhP := hP.facts
      have hB14 := Blk.new w14 57 #[.int .i64 X0, .int .i64 0, .int .i64 C, .int .i64 H]
      have fB14 := hB14.facts
      go_upto_region 15 with fail
      by_cases hD : 256 < C
      · have tD : (256 < C) = True := eq_true hD
        have qD : decide (256 < C) = true := decide_eq_true hD
        clear hD
        have cF : ∀ A c' W, Rd ic 1 W A [0, whenI true 5] → Calls Tryz.prog 35 #[.slice A 2 c'] W (RV W (.int .i64 0)) := fun A c' W hr => by
          have hq := lfst_any [0, whenI true 5] A c' W (by simp [maxLen]) hr
          rw [show firstI [0, whenI true 5] = 0 by have hq := HgE.out; rw [qD, Bool.true_or] at hq; exact hq.symm] at hq
          exact hq
        clear HgE
        go_wp2_with fail
        refine (cW _ _).mono ?_
        rintro e w15 ⟨rfl, hb15⟩
        replace hP := hP.below (show Below _ _ w15 by (repeat (first | exact bl_refl | assumption | (apply bl_then; assumption) | refine bl_alloc ?_ _ | refine bl_drew ?_ | refine bl_drewN ?_ _)))
        replace fhP := hP.facts
        replace hB14 := hB14.below (show Below _ _ w15 by (repeat (first | exact bl_refl | assumption | (apply bl_then; assumption) | refine bl_alloc ?_ _ | refine bl_drew ?_ | refine bl_drewN ?_ _)))
        replace fhB14 := hB14.facts
        go_wp2_with fail
        refine (cF _ _ _ (Rd.ints2 ?xa ?xb ?xc)).mono ?_
        case xa => go_simp
        case xb => go_simp
        case xc => go_simp
        rintro e w16 ⟨rfl, hb16⟩
        replace hB14 := hB14.below (show Below w15.heap.size w15 w16 by (repeat (first | exact bl_refl | assumption | (apply bl_then; assumption) | refine bl_alloc ?_ _ | refine bl_drew ?_ | refine bl_drewN ?_ _)))
        have fB14 := hB14.facts
        go_wp2
        go_ret
        exact ⟨rfl, by (repeat (first | exact bl_refl | assumption | (apply bl_then; assumption) | refine bl_alloc ?_ _ | refine bl_drew ?_ | refine bl_drewN ?_ _))⟩
      · have tD : (256 < C) = False := eq_false hD
        have qD : decide (256 < C) = false := decide_eq_false hD
        clear hD
        have cF : ∀ A c' W, Rd ic 1 W A [0, whenI (decide (4096 < 2 * C * H)) 5] → Calls Tryz.prog 35 #[.slice A 2 c'] W (RV W (.int .i64 0)) := fun A c' W hr => by
          have hq := lfst_any [0, whenI (decide (4096 < 2 * C * H)) 5] A c' W (by simp [maxLen]) hr
          rw [show firstI [0, whenI (decide (4096 < 2 * C * H)) 5] = 0 by have hq := HgE.out; rw [qD, Bool.false_or] at hq; exact hq.symm] at hq
          exact hq
        clear HgE
        go_wp2_with fail
        refine (cW _ _).mono ?_
        rintro e w15 ⟨rfl, hb15⟩
        replace hP := hP.below (show Below _ _ w15 by (repeat (first | exact bl_refl | assumption | (apply bl_then; assumption) | refine bl_alloc ?_ _ | refine bl_drew ?_ | refine bl_drewN ?_ _)))
        replace fhP := hP.facts
        replace hB14 := hB14.below (show Below _ _ w15 by (repeat (first | exact bl_refl | assumption | (apply bl_then; assumption) | refine bl_alloc ?_ _ | refine bl_drew ?_ | refine bl_drewN ?_ _)))
        replace fhB14 := hB14.facts
        go_wp2_with fail
        refine (cF _ _ _ (Rd.ints2 ?xa ?xb ?xc)).mono ?_
        case xa => go_simp
        case xb => go_simp
        case xc => go_simp
        rintro e w16 ⟨rfl, hb16⟩
        replace hB14 := hB14.below (show Below w15.heap.size w15 w16 by (repeat (first | exact bl_refl | assumption | (apply bl_then; assumption) | refine bl_alloc ?_ _ | refine bl_drew ?_ | refine bl_drewN ?_ _)))
        have fB14 := hB14.facts
        go_wp2
        go_ret
        exact ⟨rfl, by (repeat (first | exact bl_refl | assumption | (apply bl_then; assumption) | refine bl_alloc ?_ _ | refine bl_drew ?_ | refine bl_drewN ?_ _))⟩
  · obtain ⟨E, hE⟩ : ∃ z, panE P = z := ⟨_, rfl⟩
    rw [hE] at cRP hz
    have tz : (E != 0) = true := by simpa using hz
    rw [hP0, hP1] at cRP
    clear hE hz cG hPe hE1 hE2 hP2 hP3
    go_wp2_with fail
    refine (cRP _ (by (repeat (first | exact bl_refl | assumption | (apply bl_then; assumption) | refine bl_alloc ?_ _ | refine bl_drew ?_ | refine bl_drewN ?_ _)))).mono ?_
    rintro e w3 ⟨rfl, hb3⟩
    replace hP := hP.below (show Below _ _ w3 by (repeat (first | exact bl_refl | assumption | (apply bl_then; assumption) | refine bl_alloc ?_ _ | refine bl_drew ?_ | refine bl_drewN ?_ _)))
    replace fhP := hP.facts
    go_wp2_with fail
    refine (cAw _ (by (repeat (first | exact bl_refl | assumption | (apply bl_then; assumption) | refine bl_alloc ?_ _ | refine bl_drew ?_ | refine bl_drewN ?_ _)))).mono ?_
    rintro e w4 ⟨rfl, hb4⟩
    go_wp2
    go_ret
    exact ⟨rfl, by (repeat (first | exact bl_refl | assumption | (apply bl_then; assumption) | refine bl_alloc ?_ _ | refine bl_drew ?_ | refine bl_drewN ?_ _))⟩
end Go.Proofs.YthkjgcldolnjaaaGreatDoor

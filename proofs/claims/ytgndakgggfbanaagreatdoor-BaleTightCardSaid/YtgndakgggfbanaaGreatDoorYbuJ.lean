/- BaleTight, walked. Conditions: the variables are laid. -/
import Derived.Test.YtgndakgggfbanaaGreatDoorR42
import Derived.Test.YtgndakgggfbanaaGreatDoorR46
import Derived.Test.YtgndakgggfbanaaGreatDoorR45
import Derived.Test.YtgndakgggfbanaaGreatDoorR47
import Derived.Test.YtgndakgggfbanaaGreatDoorR23
namespace Go.Proofs.YtgndakgggfbanaaGreatDoor
open Go.RowKit Go.ChangeMaps
set_option maxHeartbeats 4000000
set_option maxRecDepth 100000
attribute [local go_sem] Oper.semAt_some
theorem pie_single {p : Pan} (h : PieOk p) : pieE [p] = 0 := by
 unfold pieE
 rw [if_neg (by simp)]
 simp [pieG, pieE1, firstI, whenI, agnB, h.er, h.te, h.nt]
theorem panE_ren {nm nm' : Str} {d : Int} {L R : List Edg} (h : nameR nm = nameR nm') : panE (nm, d, L, R) = panE (nm', d, L, R) := by
 have e0 : panE0 (nm, d, L, R) = panE0 (nm', d, L, R) := by
  unfold panE0
  simp only [h]
 unfold panE
 rw [e0]
 rfl
theorem pieOk_ren {nm nm' : Str} {d : Int} {L R : List Edg} (h : PieOk (nm, d, L, R)) (hn : nameR nm = nameR nm') (hl : nm'.length ≤ 1000000) : PieOk (nm', d, L, R) := by
 refine pieOk_of hl ?_ ?_ ?_
 ·rw [← panE_ren hn]; exact h.er
 ·have h1 := h.nt
  unfold netErr at h1 ⊢
  rw [← panE_ren hn]
  exact h1
 ·have h1 := h.te
  unfold trnP at h1 ⊢
  rw [← panE_ren hn]
  exact h1
theorem cpn_two {l : List Pan} (hp : pieE l = 0) (hl : l.length = 2) {g : Int} (he : g % 2 = 0) (hg : -1000 ≤ g ∧ g ≤ 1000) : cpnE ([98], 256, 2000) l [(0, false, 1000), (1, false, 1000 + g)] = fitE ([98], 256, 2000) l [(0, false, 1000), (1, false, 1000 + g)] := by
 have hb : balE ([98], 256, 2000) = 0 := by kernel_rfl
 have ha : atE_ (1000 + g) = 0 := by
  unfold atE_ withinI whenI
  have h1 : (decide (1000 + g < -100000) || decide (100000 < 1000 + g)) = false := by simp; omega
  have h2 : decide ((1000 + g) % 2 ≠ 0) = false := by simp; omega
  rw [h1, h2]
  rfl
 have h1 : atE_ 1000 = 0 := by kernel_rfl
 have hq : bothE l [(0, false, 1000), (1, false, 1000 + g)] = 0 := by
  unfold bothE
  rw [if_pos hp, hl]
  unfold plcE
  rw [if_neg (by simp)]
  simp [plcG, plcE1, firstI, whenI, ha, h1]
 have hc : cpaE ([98], 256, 2000) l [(0, false, 1000), (1, false, 1000 + g)] = 0 := by
  unfold cpaE
  rw [hb, hq]
  rfl
 unfold cpnE
 rw [if_pos hc]
theorem slP_one2 {W : World} {v : Value} {p : Pan} (h : SlP W v [p]) : ∃ (b off c : Nat) (vL vR : Value), v = .slice (some ⟨b, off, none⟩) 1 c ∧ b < W.heap.size ∧
  W.cell? ⟨b, off, none⟩ = some (sV p.1) ∧ W.cell? ⟨b, off + 1, none⟩ = some (.int .i64 p.2.1) ∧ W.cell? ⟨b, off + 2, none⟩ = some vL ∧ W.cell? ⟨b, off + 3, none⟩ = some vR ∧ SlE W vL p.2.2.1 ∧ SlE W vR p.2.2.2 := by
 obtain ⟨xs, ⟨A, c, rfl, _, _, hr⟩, hx⟩ := h
 obtain ⟨x, rfl⟩ : ∃ x, xs = [x] := by
  have := hx.len
  match xs, this with
  | [x], _ => exact ⟨x, rfl⟩
 obtain ⟨h1, _⟩ := hx
 obtain ⟨b, off, rfl, hlt, a0, a1, a2, a3⟩ := hr.pan (k := 0) rfl
 rw [h1.nm] at a0
 rw [h1.wd] at a1
 simp only [Nat.zero_mul, Nat.add_zero] at a0 a1 a2 a3
 exact ⟨b, off, c, _, _, rfl, hlt, a0, a1, a2, a3, h1.left, h1.right⟩
theorem tight_facts {da dc m : Int} {La Ra Lc Rc : List Edg} (h1 : vldP [([97], da, La, Ra), ([99], dc, Lc, Rc)] 2 = true) (h2 : vldP [([97], da, Ra, La), ([99, 50], dc, Rc, Lc)] 2 = true) (hm : 0 ≤ m ∧ m ≤ 255) :
  ∃ G : Int, (-200 ≤ G ∧ G ≤ 200 ∧ G % 2 = 0) ∧ gapE ([97], da, La, Ra) ([99], dc, Lc, Rc) = 0 ∧ gapB (strips ([97], da, La, Ra)) (strips ([99], dc, Lc, Rc)) = G ∧ gapE ([99], dc, Rc, Lc) ([97], da, Ra, La) = 0 ∧ gapB (strips ([99], dc, Rc, Lc)) (strips ([97], da, Ra, La)) = G + (2 * dc - 2 * da) ∧
   (1 ≤ da ∧ da ≤ 128) ∧ (1 ≤ dc ∧ dc ≤ 128) ∧ (La.length ≤ 100 ∧ Ra.length ≤ 100 ∧ Lc.length ≤ 100 ∧ Rc.length ≤ 100) ∧ pieE [([97], da, La, Ra), ([99], dc, Lc, Rc)] = 0 ∧
   cpnE ([98], 256, 2000) [([97], da, La, Ra), ([99], dc, Lc, Rc)] [(0, false, 1000), (1, false, 1000 + G)] = 0 ∧ cpnE ([98], 256, 2000) [([97], da, La, Ra), ([99], dc, Lc, Rc)] [(0, false, 1000), (1, false, 1000 + (G - 2))] = 16 ∧
   cpnE ([98], 256, 2000) [([97], da, La, Ra), ([99], dc, Lc, Rc)] [(0, false, 1000), (1, false, 1000 + (G + 2 * m))] = 0 := by
 unfold vldP at h1 h2
 simp only [Bool.and_eq_true, decide_eq_true_eq] at h1 h2
 obtain ⟨_, s1, p1⟩ := h1
 obtain ⟨_, s2, p2⟩ := h2
 have w1 := (shortPs_in s1).2.2
 have hP := pcs_of p1 w1
 have o1 := (pie_ok (fun p hp => by have := (shortP_words (w1 p hp)).1; omega) p1).1
 have w2 := (shortPs_in s2).2.2
 have o2 := (pie_ok (fun p hp => by have := (shortP_words (w2 p hp)).1; omega) p2).1
 have oA := o1 ([97], da, La, Ra) (by simp)
 have oC := o1 ([99], dc, Lc, Rc) (by simp)
 have oMA := o2 ([97], da, Ra, La) (by simp)
 have oC2 := o2 ([99, 50], dc, Rc, Lc) (by simp)
 have oMC : PieOk ([99], dc, Rc, Lc) := pieOk_ren oC2 (by decide) (by simp)
 have tt := two_tight (b := ([98], 256, 2000)) hP (by decide) (by decide)
 have gm := gap_mirP oA.er oC.er
 obtain ⟨G, hG⟩ : ∃ G, gapB (strips ([97], da, La, Ra)) (strips ([99], dc, Lc, Rc)) = G := ⟨_, rfl⟩
 rw [hG] at tt gm
 obtain ⟨⟨t1, t2, t3⟩, t4, t5, t6⟩ := tt
 have kA := panE_zero oA.er
 have kC := panE_zero oC.er
 have lA := shortP_words (w1 ([97], da, La, Ra) (by simp))
 have lC := shortP_words (w1 ([99], dc, Lc, Rc) (by simp))
 refine ⟨G, ⟨t1, t2, t3⟩, ?_, hG, ?_, gm, kA.wid, kC.wid, ⟨?_, ?_, ?_, ?_⟩, p1, ?_, ?_, ?_⟩
 ·unfold gapE; rw [pie_single oA, pie_single oC]; rfl
 ·unfold gapE; rw [pie_single oMC, pie_single oMA]; rfl
 ·have := lA.2.1.1; simp only at this; omega
 ·have := lA.2.2.1; simp only at this; omega
 ·have := lC.2.1.1; simp only at this; omega
 ·have := lC.2.2.1; simp only at this; omega
 ·rw [cpn_two p1 rfl t3 (by omega)]; exact t4
 ·rw [cpn_two p1 rfl (by omega) (by omega)]; exact t5
 ·rw [cpn_two p1 rfl (by omega) (by omega)]; exact t6 m hm.1 hm.2
theorem baleTight_any {vL vR uL uR : Value} (a c : Pan) (m : Int) (w : World) (z0 : a.1.length ≤ maxLen) (hL : SlE w vL a.2.2.1) (hR : SlE w vR a.2.2.2) (z1 : c.1.length ≤ maxLen) (kL : SlE w uL c.2.2.1) (kR : SlE w uR c.2.2.2) (hm : 0 ≤ m ∧ m ≤ 255) (hLay : LayB w) :
    Calls Tryz.prog 5 #[.agg #[sV a.1, .int .i64 a.2.1, vL, vR], .agg #[sV c.1, .int .i64 c.2.1, uL, uR], .int .u8 m] w (RV w (.bool true)) := by
  obtain ⟨na, da, La, Ra⟩ := a
  obtain ⟨nc, dc, Lc, Rc⟩ := c
  simp only at z0 z1 hL hR kL kR ⊢
  have cAw := fun W' (hb : Below w.heap.size w W') => awake5_any W' (hLay.below hb)
  have cV1 := fun (v : Value) W' (h : SlP W' v [([97], da, La, Ra), ([99], dc, Lc, Rc)]) => l5valid_any [([97], da, La, Ra), ([99], dc, Lc, Rc)] 2 W' h (by intro p hp; simp at hp; rcases hp with rfl | rfl <;> simp [maxLen])
  have cV2 := fun (v : Value) W' (h : SlP W' v [([97], da, Ra, La), ([99, 50], dc, Rc, Lc)]) => l5valid_any [([97], da, Ra, La), ([99, 50], dc, Rc, Lc)] 2 W' h (by intro p hp; simp at hp; rcases hp with rfl | rfl <;> simp [maxLen])
  have cMa := fun W' (hb : Below w.heap.size w W') => rMirror_any ([97], da, La, Ra) W' (hL.below hb) (hR.below hb)
  have cMc := fun W' (hb : Below w.heap.size w W') => rMirror_any ([99], dc, Lc, Rc) W' (kL.below hb) (kR.below hb)
  have HS1 := Lib.hid hL
  have HS2 := Lib.hid hR
  have HS3 := Lib.hid kL
  have HS4 := Lib.hid kR
  obtain ⟨AL, cL, rfl, _, _, _⟩ := hL
  obtain ⟨AR, cR, rfl, _, _, _⟩ := hR
  obtain ⟨BL, dL, rfl, _, _, _⟩ := kL
  obtain ⟨BR, dR, rfl, _, _, _⟩ := kR
  have HPA : Hid (PnAt w ([97], da, (AL, La.length, cL), (AR, Ra.length, cR)) ([97], da, La, Ra)) := ⟨rfl, rfl, HS1.out, HS2.out⟩
  have HPC : Hid (PnAt w ([99], dc, (BL, Lc.length, dL), (BR, Rc.length, dR)) ([99], dc, Lc, Rc)) := ⟨rfl, rfl, HS3.out, HS4.out⟩
  have HPMA : Hid (PnAt w ([97], da, (AR, Ra.length, cR), (AL, La.length, cL)) ([97], da, Ra, La)) := ⟨rfl, rfl, HS2.out, HS1.out⟩
  have HPMC : Hid (PnAt w ([99], dc, (BR, Rc.length, dR), (BL, Lc.length, dL)) ([99], dc, Rc, Lc)) := ⟨rfl, rfl, HS4.out, HS3.out⟩
  have HPC2 : Hid (PnAt w ([99, 50], dc, (BR, Rc.length, dR), (BL, Lc.length, dL)) ([99, 50], dc, Rc, Lc)) := ⟨rfl, rfl, HS4.out, HS3.out⟩
  simp only [sV] at cMa cMc ⊢
  obtain ⟨q1, hq1⟩ : ∃ q, vldP [([97], da, La, Ra), ([99], dc, Lc, Rc)] 2 = q := ⟨_, rfl⟩
  obtain ⟨q2, hq2⟩ : ∃ q, vldP [([97], da, Ra, La), ([99, 50], dc, Rc, Lc)] 2 = q := ⟨_, rfl⟩
  rw [hq1] at cV1
  rw [hq2] at cV2
  have hP := (Blk.new w 44 #[.string ⟨na.toArray⟩, .int .i64 da, .slice AL La.length cL, .slice AR Ra.length cR]).alloc (.cells #[.string ⟨nc.toArray⟩, .int .i64 dc, .slice BL Lc.length dL, .slice BR Rc.length dR] 44)
  have hQ := Blk.new1 w (.cells #[.string ⟨na.toArray⟩, .int .i64 da, .slice AL La.length cL, .slice AR Ra.length cR] 44) 44 #[.string ⟨nc.toArray⟩, .int .i64 dc, .slice BL Lc.length dL, .slice BR Rc.length dR]
  clear HS1 HS2 HS3 HS4 z0 z1
  cases q1
  · clear hq1 hq2
    go_enter Tryz.func5, Tryz.ntmps5
    go_upto_region 1 with fail
    obtain ⟨x1, hx1⟩ : ∃ X, (w.alloc (.cells #[.string ⟨na.toArray⟩, .int .i64 da, .slice AL La.length cL, .slice AR Ra.length cR] 44)).alloc (.cells #[.string ⟨nc.toArray⟩, .int .i64 dc, .slice BL Lc.length dL, .slice BR Rc.length dR] 44) = X := ⟨_, rfl⟩
    have hb1 : Below w.heap.size w x1 := by rw [← hx1]; exact bl_alloc (bl_alloc bl_refl _) _
    rw [hx1] at hP hQ ⊢
    clear hx1
    have fP := hP.facts
    have fQ := hQ.facts
    have hz1 : w.heap.size + 1 < x1.heap.size := hQ.lt
    have hP9 := (hP.set_ 0 (.string ⟨#[97]⟩)).setF (g' := w.heap.size + 1) (i := 0) (u := .string ⟨#[99]⟩) (by omega)
    have hQ9 := (hQ.setF (g' := w.heap.size) (i := 0) (u := .string ⟨#[97]⟩) (by omega)).set_ 0 (.string ⟨#[99]⟩)
    have hb9 : Below w.heap.size w ((x1.setCell ⟨w.heap.size, 0, none⟩ (.string ⟨#[97]⟩)).setCell ⟨w.heap.size + 1, 0, none⟩ (.string ⟨#[99]⟩)) := bl_set (bl_set hb1 (Nat.le_refl _) _) (Nat.le_add_right _ _) _
    go_upto_region 2 with fail
    obtain ⟨w9, hw9⟩ : ∃ X, (x1.setCell ⟨w.heap.size, 0, none⟩ (.string ⟨#[97]⟩)).setCell ⟨w.heap.size + 1, 0, none⟩ (.string ⟨#[99]⟩) = X := ⟨_, rfl⟩
    rw [hw9] at hP9 hQ9 hb9 ⊢
    replace hP9 : Blk w9 w.heap.size 44 #[.string ⟨#[97]⟩, .int .i64 da, .slice AL La.length cL, .slice AR Ra.length cR] := hP9
    replace hQ9 : Blk w9 (w.heap.size + 1) 44 #[.string ⟨#[99]⟩, .int .i64 dc, .slice BL Lc.length dL, .slice BR Rc.length dR] := hQ9
    clear hw9 fP fQ hP hQ hz1 hb1
    go_wp2_with fail
    refine (cAw _ (by (repeat first|exact J0|assumption|(apply J1;assumption)|apply J2|apply J3|apply J4))).mono ?_
    rintro e w10 ⟨rfl, hb10⟩
    have hP10 := hP9.below hb10
    have hQ10 := hQ9.below hb10
    have hbw10 := bl_then hb10 hb9
    have fP10 := hP10.facts
    have fQ10 := hQ10.facts
    clear hP9 hQ9 hb10 hb9
    have hs10 := rslP_two 44 (HPA.out.below hbw10) (HPC.out.below hbw10)
    simp only [sV, slV] at hs10
    go_wp2_with fail
    refine (cV1 _ _ hs10).mono ?_
    rintro e w11 ⟨rfl, hb11⟩
    have hb1011 : Below w10.heap.size w10 w11 := by (repeat first|exact J0|assumption|(apply J1;assumption)|apply J2|apply J3|apply J4)
    have hbw11 := bl_then hb1011 hbw10
    have hP11 := hP10.below hb1011
    have hQ11 := hQ10.below hb1011
    clear hb11 hs10 hP10 hQ10 fP10 fQ10 hb1011 hbw10
    go_wp2_with fail
    refine (cAw _ (by (repeat first|exact J0|assumption|(apply J1;assumption)|apply J2|apply J3|apply J4))).mono ?_
    rintro e w20 ⟨rfl, hb20⟩
    go_wp2
    go_ret
    exact ⟨rfl, by (repeat first|exact J0|assumption|(apply J1;assumption)|apply J2|apply J3|apply J4)⟩
  cases q2
  · clear hq1 hq2
    go_enter Tryz.func5, Tryz.ntmps5
    go_upto_region 1 with fail
    obtain ⟨x1, hx1⟩ : ∃ X, (w.alloc (.cells #[.string ⟨na.toArray⟩, .int .i64 da, .slice AL La.length cL, .slice AR Ra.length cR] 44)).alloc (.cells #[.string ⟨nc.toArray⟩, .int .i64 dc, .slice BL Lc.length dL, .slice BR Rc.length dR] 44) = X := ⟨_, rfl⟩
    have hb1 : Below w.heap.size w x1 := by rw [← hx1]; exact bl_alloc (bl_alloc bl_refl _) _
    rw [hx1] at hP hQ ⊢
    clear hx1
    have fP := hP.facts
    have fQ := hQ.facts
    have hz1 : w.heap.size + 1 < x1.heap.size := hQ.lt
    have hP9 := (hP.set_ 0 (.string ⟨#[97]⟩)).setF (g' := w.heap.size + 1) (i := 0) (u := .string ⟨#[99]⟩) (by omega)
    have hQ9 := (hQ.setF (g' := w.heap.size) (i := 0) (u := .string ⟨#[97]⟩) (by omega)).set_ 0 (.string ⟨#[99]⟩)
    have hb9 : Below w.heap.size w ((x1.setCell ⟨w.heap.size, 0, none⟩ (.string ⟨#[97]⟩)).setCell ⟨w.heap.size + 1, 0, none⟩ (.string ⟨#[99]⟩)) := bl_set (bl_set hb1 (Nat.le_refl _) _) (Nat.le_add_right _ _) _
    go_upto_region 2 with fail
    obtain ⟨w9, hw9⟩ : ∃ X, (x1.setCell ⟨w.heap.size, 0, none⟩ (.string ⟨#[97]⟩)).setCell ⟨w.heap.size + 1, 0, none⟩ (.string ⟨#[99]⟩) = X := ⟨_, rfl⟩
    rw [hw9] at hP9 hQ9 hb9 ⊢
    replace hP9 : Blk w9 w.heap.size 44 #[.string ⟨#[97]⟩, .int .i64 da, .slice AL La.length cL, .slice AR Ra.length cR] := hP9
    replace hQ9 : Blk w9 (w.heap.size + 1) 44 #[.string ⟨#[99]⟩, .int .i64 dc, .slice BL Lc.length dL, .slice BR Rc.length dR] := hQ9
    clear hw9 fP fQ hP hQ hz1 hb1
    go_wp2_with fail
    refine (cAw _ (by (repeat first|exact J0|assumption|(apply J1;assumption)|apply J2|apply J3|apply J4))).mono ?_
    rintro e w10 ⟨rfl, hb10⟩
    have hP10 := hP9.below hb10
    have hQ10 := hQ9.below hb10
    have hbw10 := bl_then hb10 hb9
    have fP10 := hP10.facts
    have fQ10 := hQ10.facts
    clear hP9 hQ9 hb10 hb9
    have hs10 := rslP_two 44 (HPA.out.below hbw10) (HPC.out.below hbw10)
    simp only [sV, slV] at hs10
    go_wp2_with fail
    refine (cV1 _ _ hs10).mono ?_
    rintro e w11 ⟨rfl, hb11⟩
    have hb1011 : Below w10.heap.size w10 w11 := by (repeat first|exact J0|assumption|(apply J1;assumption)|apply J2|apply J3|apply J4)
    have hbw11 := bl_then hb1011 hbw10
    have hP11 := hP10.below hb1011
    have hQ11 := hQ10.below hb1011
    clear hb11 hs10 hP10 hQ10 fP10 fQ10 hb1011 hbw10
    have fP11 := hP11.facts
    have fQ11 := hQ11.facts
    go_upto_region 4 with fail
    refine wp_region_ords [0, 2, 3, 4, 5, 6, 7, 8] [(1, false)] [9, 10, 11] (by kernel_rfl) (by kernel_rfl) (fun d _ _ _ _ h => by cases d <;> exact h) ?_
    simp only [List.map_cons, List.map_nil, List.getD_cons_zero, List.getD_cons_succ]
    repeat (go_big_quiet_step (fail))
    refine wpQuiet_nil ?_
    refine wpMid_run rfl (fun K hK => ?_)
    go_simp
    refine (cMa _ (by (repeat first|exact J0|assumption|(apply J1;assumption)|apply J2|apply J3|apply J4))).mono ?_
    rintro e w12 ⟨rfl, hb12⟩
    refine hK _ _ (by (repeat first|exact J0|assumption|(apply J1;assumption)|apply J2|apply J3|apply J4)) ?_
    clear hK K
    refine wpMid_nil ?_
    have hb1112 : Below w11.heap.size w11 w12 := by (repeat first|exact J0|assumption|(apply J1;assumption)|apply J2|apply J3|apply J4)
    have hbw12 := bl_then hb1112 hbw11
    have hP12 := hP11.below hb1112
    have hQ12 := hQ11.below hb1112
    have hs12 := rslP_two 44 (HPMA.out.below hbw12) (HPC2.out.below hbw12)
    simp only [sV, slV] at hs12
    clear hb12 hb1112 hP11 hQ11 fP11 fQ11 hbw11
    go_wp2_with fail
    refine (cV2 _ _ hs12).mono ?_
    rintro e w13 ⟨rfl, hb13⟩
    have hb1213 : Below w12.heap.size w12 w13 := by (repeat first|exact J0|assumption|(apply J1;assumption)|apply J2|apply J3|apply J4)
    have hbw13 := bl_then hb1213 hbw12
    have hP13 := hP12.below hb1213
    have hQ13 := hQ12.below hb1213
    clear hb13 hs12 hP12 hQ12 hb1213 hbw12
    go_wp2_with fail
    refine (cAw _ (by (repeat first|exact J0|assumption|(apply J1;assumption)|apply J2|apply J3|apply J4))).mono ?_
    rintro e w20 ⟨rfl, hb20⟩
    go_wp2
    go_ret
    exact ⟨rfl, by (repeat first|exact J0|assumption|(apply J1;assumption)|apply J2|apply J3|apply J4)⟩
  obtain ⟨G, ⟨g1, g2, g3⟩, hg1, hg2, hg3, hg4, ⟨da1, da2⟩, ⟨dc1, dc2⟩, ⟨ll1, ll2, ll3, ll4⟩, hpe, cp1, cp2, cp3⟩ := tight_facts hq1 hq2 hm
  have cGi := fun (v : Value) W' (h : SlP W' v [([97], da, La, Ra), ([99], dc, Lc, Rc)]) => l5given_any [([97], da, La, Ra), ([99], dc, Lc, Rc)] W' h (by simp) (by intro p hp; simp at hp; rcases hp with rfl | rfl <;> simp only <;> omega)
  have cG1 := fun (v : Value) W' (h : SlP W' v [([99], dc, Rc, Lc)]) => l5given_any [([99], dc, Rc, Lc)] W' h (by simp) (by intro p hp; simp at hp; subst hp; simp only; omega)
  have cG2 := fun (v : Value) W' (h : SlP W' v [([97], da, Ra, La)]) => l5given_any [([97], da, Ra, La)] W' h (by simp) (by intro p hp; simp at hp; subst hp; simp only; omega)
  have cGp := fun (v1 v2 u1 u2 : Value) W' (h1 : SlE W' v1 La) (h2 : SlE W' v2 Ra) (h3 : SlE W' u1 Lc) (h4 : SlE W' u2 Rc) => apiGap_any ([97], da, La, Ra) ([99], dc, Lc, Rc) W' (by simp) (by simp) h1 h2 h3 h4
  rw [hg1, hg2] at cGp
  have cGm := fun (v1 v2 u1 u2 : Value) W' (h1 : SlE W' v1 Rc) (h2 : SlE W' v2 Lc) (h3 : SlE W' u1 Ra) (h4 : SlE W' u2 La) => apiGap_any ([99], dc, Rc, Lc) ([97], da, Ra, La) W' (by simp) (by simp) h1 h2 h3 h4
  rw [hg3, hg4] at cGm
  have ho : ∀ z, onlyN 0 z = z := fun _ => rfl
  simp only [sV, ho] at cGp cGm
  have cCp := fun (v u : Value) (g : Int) W' (h : SlP W' v [([97], da, La, Ra), ([99], dc, Lc, Rc)]) (h' : SlL W' u [(0, false, 1000), (1, false, 1000 + g)]) => apiCheckPlan_any ([98], 256, 2000) [([97], da, La, Ra), ([99], dc, Lc, Rc)] [(0, false, 1000), (1, false, 1000 + g)] W' (by simp) h h' (by intro p hp; simp at hp; rcases hp with rfl | rfl <;> simp) (by simp) (by simp)
  have HC1 := Lib.hid cp1
  have HC2 := Lib.hid cp2
  have HC3 := Lib.hid cp3
  simp only [sV] at cCp
  clear ho hq1 hq2 hg1 hg2 hg3 hg4 hpe cp1 cp2 cp3 ll1 ll2 ll3 ll4
  go_enter Tryz.func5, Tryz.ntmps5
  go_upto_region 1 with fail
  obtain ⟨x1, hx1⟩ : ∃ X, (w.alloc (.cells #[.string ⟨na.toArray⟩, .int .i64 da, .slice AL La.length cL, .slice AR Ra.length cR] 44)).alloc (.cells #[.string ⟨nc.toArray⟩, .int .i64 dc, .slice BL Lc.length dL, .slice BR Rc.length dR] 44) = X := ⟨_, rfl⟩
  have hb1 : Below w.heap.size w x1 := by rw [← hx1]; exact bl_alloc (bl_alloc bl_refl _) _
  rw [hx1] at hP hQ ⊢
  clear hx1
  have fP := hP.facts
  have fQ := hQ.facts
  have hz1 : w.heap.size + 1 < x1.heap.size := hQ.lt
  have hP9 := (hP.set_ 0 (.string ⟨#[97]⟩)).setF (g' := w.heap.size + 1) (i := 0) (u := .string ⟨#[99]⟩) (by omega)
  have hQ9 := (hQ.setF (g' := w.heap.size) (i := 0) (u := .string ⟨#[97]⟩) (by omega)).set_ 0 (.string ⟨#[99]⟩)
  have hb9 : Below w.heap.size w ((x1.setCell ⟨w.heap.size, 0, none⟩ (.string ⟨#[97]⟩)).setCell ⟨w.heap.size + 1, 0, none⟩ (.string ⟨#[99]⟩)) := bl_set (bl_set hb1 (Nat.le_refl _) _) (Nat.le_add_right _ _) _
  go_upto_region 2 with fail
  obtain ⟨w9, hw9⟩ : ∃ X, (x1.setCell ⟨w.heap.size, 0, none⟩ (.string ⟨#[97]⟩)).setCell ⟨w.heap.size + 1, 0, none⟩ (.string ⟨#[99]⟩) = X := ⟨_, rfl⟩
  rw [hw9] at hP9 hQ9 hb9 ⊢
  replace hP9 : Blk w9 w.heap.size 44 #[.string ⟨#[97]⟩, .int .i64 da, .slice AL La.length cL, .slice AR Ra.length cR] := hP9
  replace hQ9 : Blk w9 (w.heap.size + 1) 44 #[.string ⟨#[99]⟩, .int .i64 dc, .slice BL Lc.length dL, .slice BR Rc.length dR] := hQ9
  clear hw9 fP fQ hP hQ hz1 hb1
  go_wp2_with fail
  refine (cAw _ (by (repeat first|exact J0|assumption|(apply J1;assumption)|apply J2|apply J3|apply J4))).mono ?_
  rintro e w10 ⟨rfl, hb10⟩
  have hP10 := hP9.below hb10
  have hQ10 := hQ9.below hb10
  have hbw10 := bl_then hb10 hb9
  have fP10 := hP10.facts
  have fQ10 := hQ10.facts
  clear hP9 hQ9 hb10 hb9
  have hs10 := rslP_two 44 (HPA.out.below hbw10) (HPC.out.below hbw10)
  simp only [sV, slV] at hs10
  go_wp2_with fail
  refine (cV1 _ _ hs10).mono ?_
  rintro e w11 ⟨rfl, hb11⟩
  have hb1011 : Below w10.heap.size w10 w11 := by (repeat first|exact J0|assumption|(apply J1;assumption)|apply J2|apply J3|apply J4)
  have hbw11 := bl_then hb1011 hbw10
  have hP11 := hP10.below hb1011
  have hQ11 := hQ10.below hb1011
  clear hb11 hs10 hP10 hQ10 fP10 fQ10 hb1011 hbw10
  have fP11 := hP11.facts
  have fQ11 := hQ11.facts
  go_upto_region 4 with fail
  refine wp_region_ords [0, 2, 3, 4, 5, 6, 7, 8] [(1, false)] [9, 10, 11] (by kernel_rfl) (by kernel_rfl) (fun d _ _ _ _ h => by cases d <;> exact h) ?_
  simp only [List.map_cons, List.map_nil, List.getD_cons_zero, List.getD_cons_succ]
  repeat (go_big_quiet_step (fail))
  refine wpQuiet_nil ?_
  refine wpMid_run rfl (fun K hK => ?_)
  go_simp
  refine (cMa _ (by (repeat first|exact J0|assumption|(apply J1;assumption)|apply J2|apply J3|apply J4))).mono ?_
  rintro e w12 ⟨rfl, hb12⟩
  refine hK _ _ (by (repeat first|exact J0|assumption|(apply J1;assumption)|apply J2|apply J3|apply J4)) ?_
  clear hK K
  refine wpMid_nil ?_
  have hb1112 : Below w11.heap.size w11 w12 := by (repeat first|exact J0|assumption|(apply J1;assumption)|apply J2|apply J3|apply J4)
  have hbw12 := bl_then hb1112 hbw11
  have hP12 := hP11.below hb1112
  have hQ12 := hQ11.below hb1112
  have hs12 := rslP_two 44 (HPMA.out.below hbw12) (HPC2.out.below hbw12)
  simp only [sV, slV] at hs12
  clear hb12 hb1112 hP11 hQ11 fP11 fQ11 hbw11
  go_wp2_with fail
  refine (cV2 _ _ hs12).mono ?_
  rintro e w13 ⟨rfl, hb13⟩
  have hb1213 : Below w12.heap.size w12 w13 := by (repeat first|exact J0|assumption|(apply J1;assumption)|apply J2|apply J3|apply J4)
  have hbw13 := bl_then hb1213 hbw12
  have hP13 := hP12.below hb1213
  have hQ13 := hQ12.below hb1213
  clear hb13 hs12 hP12 hQ12 hb1213 hbw12
  have fP13 := hP13.facts
  have fQ13 := hQ13.facts
  have hs13 := rslP_two 44 (HPA.out.below hbw13) (HPC.out.below hbw13)
  simp only [sV, slV] at hs13
  go_wp2_with fail
  refine (cGi _ _ hs13).mono ?_
  rintro e w14 ⟨v14, rfl, hS14, hb14⟩
  obtain ⟨b14, o14, c14, xL, xR, yL, yR, rfl, hlt14, y0, y1, y2, y3, y4, y5, y6, y7, hxL, hxR, hyL, hyR⟩ := slP_two hS14
  simp only [sV] at y0 y4
  have hb1314 : Below w13.heap.size w13 w14 := by (repeat first|exact J0|assumption|(apply J1;assumption)|apply J2|apply J3|apply J4)
  have hP14 := hP13.below hb1314
  have hQ14 := hQ13.below hb1314
  have hbw14 := bl_then hb1314 hbw13
  clear hb14 hb1314 hP13 hQ13 fP13 fQ13 hs13 hbw13
  go_upto_region 7 with fail
  refine wp_region_ords [0, 1, 2, 3, 4, 5] [(6, false), (7, false), (8, true), (9, true), (10, false)] [11] (by kernel_rfl) (by kernel_rfl) (fun d _ _ _ _ h => by cases d <;> exact h) ?_
  simp only [List.map_cons, List.map_nil, List.getD_cons_zero, List.getD_cons_succ]
  repeat (go_big_quiet_step (fail))
  refine wpQuiet_nil ?_
  refine wpMid_run rfl (fun K hK => ?_)
  go_simp
  refine (cGp _ _ _ _ _ (hxL.below (by (repeat first|exact J0|assumption|(apply J1;assumption)|apply J2|apply J3|apply J4))) (hxR.below (by (repeat first|exact J0|assumption|(apply J1;assumption)|apply J2|apply J3|apply J4))) (hyL.below (by (repeat first|exact J0|assumption|(apply J1;assumption)|apply J2|apply J3|apply J4))) (hyR.below (by (repeat first|exact J0|assumption|(apply J1;assumption)|apply J2|apply J3|apply J4)))).mono ?_
  rintro e w15 ⟨rfl, hb15⟩
  refine hK _ _ (by (repeat first|exact J0|assumption|(apply J1;assumption)|apply J2|apply J3|apply J4)) ?_
  clear hK K
  refine wpMid_run rfl (fun K hK => ?_)
  go_simp
  refine hK _ _ (by (repeat first|exact J0|assumption|(apply J1;assumption)|apply J2|apply J3|apply J4)) ?_
  clear hK K
  refine wpMid_take rfl ?_
  intro K hK
  go_big_quiet_op
  go_big_quiet_on
  refine wpMid_take rfl ?_
  intro K hK
  go_big_quiet_op
  go_big_quiet_on
  refine wpMid_run rfl (fun K hK => ?_)
  go_simp
  refine hK _ _ (by (repeat first|exact J0|assumption|(apply J1;assumption)|apply J2|apply J3|apply J4)) ?_
  clear hK K
  refine wpMid_nil ?_
  have hb1415 : Below w14.heap.size w14 w15 := by (repeat first|exact J0|assumption|(apply J1;assumption)|apply J2|apply J3|apply J4)
  have hP15 := hP14.below hb1415
  have hQ15 := hQ14.below hb1415
  have hS15 := hS14.below hb1415
  have hbw15 := bl_then hb1415 hbw14
  have fP15 := hP15.facts
  have fQ15 := hQ15.facts
  clear hb15 hb1415 hP14 hQ14 hS14 hbw14 hxL hxR hyL hyR y0 y1 y2 y3 y4 y5 y6 y7 hlt14
  go_upto_region 8 with fail
  refine wp_region_ordt [0, 6] [(1, false), (2, false), (3, false), (4, true), (5, true), (7, false), (8, false), (9, false), (10, false), (11, false), (12, false), (13, false), (14, true), (15, true), (16, false)] [17] (by kernel_rfl) (by kernel_rfl) (fun d _ _ _ _ h => by cases d <;> exact h) ?_
  simp only [List.map_cons, List.map_nil, List.getD_cons_zero, List.getD_cons_succ]
  repeat (go_big_quiet_step (fail))
  refine wpQuiet_nil ?_
  refine wpMidT_run rfl (fun K hK => ?_)
  go_simp
  refine (cMc _ (by (repeat first|exact J0|assumption|(apply J1;assumption)|apply J2|apply J3|apply J4))).mono ?_
  rintro e w16 ⟨rfl, hb16⟩
  refine hK _ _ (by (repeat first|exact J0|assumption|(apply J1;assumption)|apply J2|apply J3|apply J4)) ?_
  clear hK K
  have hs16 := rslP_one 44 (HPMC.out.below (show Below w.heap.size w w16 by (repeat first|exact J0|assumption|(apply J1;assumption)|apply J2|apply J3|apply J4)))
  simp only [sV, slV] at hs16
  refine wpMidT_run rfl (fun K hK => ?_)
  go_simp
  refine hK _ _ (by (repeat first|exact J0|assumption|(apply J1;assumption)|apply J2|apply J3|apply J4)) ?_
  clear hK K
  refine wpMidT_run rfl (fun K hK => ?_)
  go_simp
  refine (cG1 _ _ hs16).mono ?_
  rintro e w17 ⟨v17, rfl, hS17, hb17⟩
  refine hK _ _ (by (repeat first|exact J0|assumption|(apply J1;assumption)|apply J2|apply J3|apply J4)) ?_
  clear hK K
  obtain ⟨b17, o17, c17, pL, pR, rfl, hlt17, p0, p1, p2, p3, hpL, hpR⟩ := slP_one2 hS17
  simp only [sV] at p0
  refine wpMidT_take rfl ?_
  intro K hK
  go_big_quiet_op
  go_big_quiet_on
  refine wpMidT_take rfl ?_
  intro K hK
  go_big_quiet_op
  go_big_quiet_on
  refine wpMidT_run rfl (fun K hK => ?_)
  go_simp
  refine (cMa _ (by (repeat first|exact J0|assumption|(apply J1;assumption)|apply J2|apply J3|apply J4))).mono ?_
  rintro e w18 ⟨rfl, hb18⟩
  refine hK _ _ (by (repeat first|exact J0|assumption|(apply J1;assumption)|apply J2|apply J3|apply J4)) ?_
  clear hK K
  have hs18 := rslP_one 44 (HPMA.out.below (show Below w.heap.size w w18 by (repeat first|exact J0|assumption|(apply J1;assumption)|apply J2|apply J3|apply J4)))
  simp only [sV, slV] at hs18
  refine wpMidT_run rfl (fun K hK => ?_)
  go_simp
  refine hK _ _ (by (repeat first|exact J0|assumption|(apply J1;assumption)|apply J2|apply J3|apply J4)) ?_
  clear hK K
  refine wpMidT_run rfl (fun K hK => ?_)
  go_simp
  refine (cG2 _ _ hs18).mono ?_
  rintro e w19 ⟨v19, rfl, hS19, hb19⟩
  refine hK _ _ (by (repeat first|exact J0|assumption|(apply J1;assumption)|apply J2|apply J3|apply J4)) ?_
  clear hK K
  obtain ⟨b19, o19, c19, rL, rR, rfl, hlt19, r0, r1, r2, r3, hrL, hrR⟩ := slP_one2 hS19
  simp only [sV] at r0
  refine wpMidT_run rfl (fun K hK => ?_)
  go_simp
  refine hK _ _ (by (repeat first|exact J0|assumption|(apply J1;assumption)|apply J2|apply J3|apply J4)) ?_
  clear hK K
  refine wpMidT_run rfl (fun K hK => ?_)
  go_simp
  refine hK _ _ (by (repeat first|exact J0|assumption|(apply J1;assumption)|apply J2|apply J3|apply J4)) ?_
  clear hK K
  refine wpMidT_run rfl (fun K hK => ?_)
  go_simp
  refine (cGm _ _ _ _ _ (hpL.below (by (repeat first|exact J0|assumption|(apply J1;assumption)|apply J2|apply J3|apply J4))) (hpR.below (by (repeat first|exact J0|assumption|(apply J1;assumption)|apply J2|apply J3|apply J4))) (hrL.below (by (repeat first|exact J0|assumption|(apply J1;assumption)|apply J2|apply J3|apply J4))) (hrR.below (by (repeat first|exact J0|assumption|(apply J1;assumption)|apply J2|apply J3|apply J4)))).mono ?_
  rintro e w20 ⟨rfl, hb20⟩
  refine hK _ _ (by (repeat first|exact J0|assumption|(apply J1;assumption)|apply J2|apply J3|apply J4)) ?_
  clear hK K
  refine wpMidT_run rfl (fun K hK => ?_)
  go_simp
  refine hK _ _ (by (repeat first|exact J0|assumption|(apply J1;assumption)|apply J2|apply J3|apply J4)) ?_
  clear hK K
  refine wpMidT_take rfl ?_
  intro K hK
  go_big_quiet_op
  go_big_quiet_on
  refine wpMidT_take rfl ?_
  intro K hK
  go_big_quiet_op
  go_big_quiet_on
  refine wpMidT_run rfl (fun K hK => ?_)
  go_simp
  refine hK _ _ (by (repeat first|exact J0|assumption|(apply J1;assumption)|apply J2|apply J3|apply J4)) ?_
  clear hK K
  refine wpMidT_nil ?_
  have hb1520 : Below w15.heap.size w15 w20 := by (repeat first|exact J0|assumption|(apply J1;assumption)|apply J2|apply J3|apply J4)
  have hP20 := hP15.below hb1520
  have hQ20 := hQ15.below hb1520
  have hS20 := hS15.below hb1520
  have hbw20 := bl_then hb1520 hbw15
  have fP20 := hP20.facts
  have fQ20 := hQ20.facts
  clear hb16 hb17 hb18 hb19 hb20 hs16 hs18 hS17 hS19 hpL hpR hrL hrR p0 p1 p2 p3 r0 r1 r2 r3 hlt17 hlt19 hb1520 hP15 hQ15 hS15 fP15 fQ15 hbw15
  have t1 : (G < -200) = False := eq_false (by omega)
  have t2 : (200 < G) = False := eq_false (by omega)
  have t3 : (G.tmod 2 != 0) = false := by rw [tmod2_even g3]; rfl
  obtain ⟨H, hH⟩ : ∃ H, G + (2 * dc - 2 * da) = H := ⟨_, rfl⟩
  have t4 : (H != G + 2 * dc - 2 * da) = false := by rw [← hH]; simp; omega
  rw [hH]
  have hcw : Hid (1 ≤ dc ∧ dc ≤ 128) := ⟨dc1, dc2⟩
  have hBb := (Blk.new w20 31 #[.string ⟨#[98]⟩, .int .i64 256, .int .i64 2000]).alloc (.cells #[.int .i64 G, .int .i64 0, .int .i64 (G - 2), .int .i64 1, .int .i64 (G + 2 * m), .int .i64 0] 55)
  have hrow := (own_newG (enc := kc) (sz := 2) (w20.alloc (.cells #[.string ⟨#[98]⟩, .int .i64 256, .int .i64 2000] 31)) (Nat.le_refl _) 55 [(G, 0), (G - 2, 1), (G + 2 * m, 0)] kc_len (by simp) #[.int .i64 G, .int .i64 0, .int .i64 (G - 2), .int .i64 1, .int .i64 (G + 2 * m), .int .i64 0] rfl 3 rfl).rd kc_len
  rw [World.size_alloc] at hrow
  obtain ⟨A9, c9, he9, _, _, hr⟩ := hrow
  simp only [List.length_cons, List.length_nil, Value.slice.injEq] at he9
  obtain ⟨rfl, -, rfl⟩ := he9
  obtain ⟨hm1, hm2⟩ := hm
  go_wp2
  obtain ⟨w22, hw22⟩ : ∃ X, (w20.alloc (.cells #[.string ⟨#[98]⟩, .int .i64 256, .int .i64 2000] 31)).alloc (.cells #[.int .i64 G, .int .i64 0, .int .i64 (G - 2), .int .i64 1, .int .i64 (G + 2 * m), .int .i64 0] 55) = X := ⟨_, rfl⟩
  have hb22 : Below w20.heap.size w20 w22 := by rw [← hw22]; exact bl_alloc (bl_alloc bl_refl _) _
  rw [hw22] at hBb hr ⊢
  have hS22 := hS20.below hb22
  have hbw22 := bl_then hb22 hbw20
  clear hw22 hb22 hS20 hP20 hQ20 fP20 fQ20 hbw20 t1 t2 t3 t4 hH
  go_loopw [114] (fun i wr => ∃ k : Nat, k ≤ 3 ∧ i = .int .i64 k ∧ Below w22.heap.size w22 wr) (fun i _ => 3 - (intOf i).toNat)
  case atStart => exact ⟨0, Nat.zero_le _, rfl, bl_refl⟩
  case round =>
    obtain ⟨k, hk, rfl, hbk⟩ := hrel
    obtain ⟨wo, rfl⟩ : ∃ x, x = wr := ⟨_, rfl⟩
    by_cases hlt : k < 3
    · have HL : Hid (∃ x y : Int, [(G, (0 : Int)), (G - 2, 1), (G + 2 * m, 0)][k]? = some (x, y) ∧ (-1000 ≤ x ∧ x ≤ 1000) ∧ ((y = 0 ∧ cpnE ([98], 256, 2000) [([97], da, La, Ra), ([99], dc, Lc, Rc)] [(0, false, 1000), (1, false, 1000 + x)] = 0) ∨ (y = 1 ∧ cpnE ([98], 256, 2000) [([97], da, La, Ra), ([99], dc, Lc, Rc)] [(0, false, 1000), (1, false, 1000 + x)] = 16))) := by
        unfold Hid
        match k, hlt with
        | 0, _ => exact ⟨_, _, rfl, ⟨by omega, by omega⟩, .inl ⟨rfl, HC1.out⟩⟩
        | 1, _ => exact ⟨_, _, rfl, ⟨by omega, by omega⟩, .inr ⟨rfl, HC2.out⟩⟩
        | 2, _ => exact ⟨_, _, rfl, ⟨by omega, by omega⟩, .inl ⟨rfl, HC3.out⟩⟩
      obtain ⟨x, y, hxy, ⟨xa, xb⟩, hE⟩ := HL.out
      obtain ⟨b, off, he, hb, hcell⟩ := (hr.below hbk) k (x, y) hxy
      simp only [Option.some.injEq, Addr.mk.injEq, and_true] at he
      obtain ⟨rfl, rfl⟩ := he
      have e0 : wo.cell? ⟨w20.heap.size + 1, k * 2, none⟩ = some (.int .i64 x) := by simpa using hcell 0 _ rfl
      have e1 : wo.cell? ⟨w20.heap.size + 1, k * 2 + 1, none⟩ = some (.int .i64 y) := by simpa using hcell 1 _ rfl
      have cC := fun (v u : Value) W' h h' => cCp v u x W' h h'
      have fBo := (hBb.below hbk).facts
      have hN := (Blk.new wo 55 #[.int .i64 x, .int .i64 y]).alloc (.cells #[.int .i64 0, .bool false, .int .i64 1000, .int .i64 1, .bool false, .int .i64 (1000 + x)] 59)
      have hro := (own_newG (enc := plc) (sz := 3) (wo.alloc (.cells #[.int .i64 x, .int .i64 y] 55)) (Nat.le_refl _) 59 [(0, false, 1000), (1, false, 1000 + x)] plc_len (by simp) #[.int .i64 0, .bool false, .int .i64 1000, .int .i64 1, .bool false, .int .i64 (1000 + x)] rfl 2 rfl).rd plc_len
      rw [World.size_alloc] at hro
      clear hxy hcell HL hb
      rcases hE with ⟨rfl, hE⟩ | ⟨rfl, hE⟩
      · rw [hE] at cC
        clear hE
        go_wp2_with fail
        refine (cC _ _ _ (hS22.below (by (repeat first|exact J0|assumption|(apply J1;assumption)|apply J2|apply J3|apply J4))) hro).mono ?_
        rintro e w30 ⟨rfl, hb30⟩
        have fN30 := (hN.below hb30).facts
        go_wp2
        go_roundw
        case rel => exact ⟨k + 1, by omega, by go_num, by (repeat first|exact J0|assumption|(apply J1;assumption)|apply J2|apply J3|apply J4)⟩
        case measure => simp [intOf]; omega
      · rw [hE] at cC
        clear hE
        go_wp2_with fail
        refine (cC _ _ _ (hS22.below (by (repeat first|exact J0|assumption|(apply J1;assumption)|apply J2|apply J3|apply J4))) hro).mono ?_
        rintro e w30 ⟨rfl, hb30⟩
        have fN30 := (hN.below hb30).facts
        go_wp2
        go_roundw
        case rel => exact ⟨k + 1, by omega, by go_num, by (repeat first|exact J0|assumption|(apply J1;assumption)|apply J2|apply J3|apply J4)⟩
        case measure => simp [intOf]; omega
    · obtain rfl : k = 3 := by omega
      go_wp2
      go_ret
      exact ⟨rfl, bl_then hbk hbw22⟩
end Go.Proofs.YtgndakgggfbanaaGreatDoor

/- The bars of a strip, walked. Conditions: bounds. -/
import Derived.Test.YtkkefahobjlagaaGreatDoorQ17
import Derived.Test.YtkkefahobjlagaaGreatDoorQ20
namespace Go.Proofs.YtkkefahobjlagaaGreatDoor
open Go.RowKit Go.ChangeMaps
set_option maxHeartbeats 4000000
set_option maxRecDepth 100000
attribute [local go_sem] Oper.semAt_some
theorem wpList_appBL {ops : Array Oper} {rest : List Oper} {o : Oper} {a : Act} {Q : Exit → Act → World → Prop} {base : Nat} {v : Value} {w : World} {u : Value} {l r : List Bar} (hown : OwB base w v l) (hu : SlB w u r) (hgd : o.guard = none) (s x : Operand) (ho : o.op = .call { callee := .builtin .append, args := #[s, x], argTypes := #[36, 36] })
    (hs : a.eval s = v) (hx : a.eval x = u) (hlen : l.length + r.length ≤ 1000000000) (hbase : base ≤ w.heap.size)
    (h : ∀ v' w', OwB base w' v' (l ++ r) → w.grownBy w' v.ownBlock → wpList Tryz.prog ops Q rest (a.put o.dst v') w') : wpList Tryz.prog ops Q (o :: rest) a w :=
  wpList_app hgd bar_elem bc_len bc_one s x ho base v u l r hs hx hown hu (by unfold maxLen; omega) (by omega) hbase h
@[go_sem] theorem idxM_0 (w : World) : (Instr.index 73 (.agg #[.int .i64 (-1), .int .i64 1]) (.int .i64 0)).run Tryz.prog w = .ok (.int .i64 (-1)) w := by kernel_rfl
@[go_sem] theorem idxM_1 (w : World) : (Instr.index 73 (.agg #[.int .i64 (-1), .int .i64 1]) (.int .i64 1)).run Tryz.prog w = .ok (.int .i64 1) w := by kernel_rfl
theorem tmod2 {n : Int} : n.tmod 2 = 0 ↔ n % 2 = 0 := by
 rw [← Int.dvd_iff_tmod_eq_zero, ← Int.dvd_iff_emod_eq_zero]
theorem bars_any (s : Strp) (y : Int) (w : World) (hs : nearS s) (hy : 0 ≤ y ∧ y ≤ 1000) :
  Calls Tryz.prog 130 #[.agg #[.int .i64 s.1, .int .i64 s.2.1, .int .i64 s.2.2.1, .int .i64 s.2.2.2], .int .i64 y] w (RB w (barsS s y)) := by
 obtain ⟨l0, l1, u0, u1⟩ := s
 unfold nearS at hs
 simp only at hs ⊢
 obtain ⟨N, hN⟩ : ∃ N, (l1 - l0 + 1).toNat = N := ⟨_, rfl⟩
 have hN2 : (N : Int) ≤ 200001 := by omega
 have HB : Hid (barsS (l0, l1, u0, u1) y = barsN (l0, l1, u0, u1) y N) := by unfold Hid barsS; rw [hN]
 have HNN := Lib.hid hN
 obtain ⟨S, hSS⟩ : ∃ S : Strp, (l0, l1, u0, u1) = S := ⟨_, rfl⟩
 have HSS := Lib.hid hSS
 rw [hSS] at HB
 have hS0 := Blk.new w 75 #[.int .i64 l0, .int .i64 l1, .int .i64 u0, .int .i64 u1]
 have fhS := hS0.facts
 have HL := Lib.hid (fun n => barsN_len S y n)
 have HT : Hid (∀ n, barsN S y (n + 1) = barsN S y n ++ barsX S y (l0 + (n : Int))) := by intro n; rw [← hSS]; rfl
 rw [hSS]
 clear hSS hN
 go_enter Tryz.func130, Tryz.ntmps130
 go_wp2
 go_loopw [5, 6] (fun s5 s6 wr => ∃ n : Nat, n ≤ N ∧ s6 = .int .i64 (l0 + (n : Int)) ∧ OwB w.heap.size wr s5 (barsN S y n) ∧ Blk wr w.heap.size 75 #[.int .i64 l0, .int .i64 l1, .int .i64 u0, .int .i64 u1] ∧ Below w.heap.size w wr) (fun _ s6 _ => (l1 + 1 - intOf s6).toNat)
 case atStart => exact ⟨0, Nat.zero_le _, by simp, Own.nil_, hS0, bl_alloc bl_refl _⟩
 case round =>
  clear hS0 fhS
  obtain ⟨n, hn, rfl, hO, hS, hbw⟩ := hrel
  obtain ⟨wo, rfl⟩ : ∃ x, x = wr := ⟨_, rfl⟩
  have hl := HL.out n
  have HX := Lib.hid (HT.out n)
  obtain ⟨L, hL⟩ : ∃ L, barsN S y n = L := ⟨_, rfl⟩
  rw [hL] at hO hl HX
  have HM0 := Lib.hid hL
  clear hL
  obtain ⟨AO, cO, rfl⟩ := hO.shape
  obtain ⟨x, hx⟩ : ∃ x, l0 + (n : Int) = x := ⟨_, rfl⟩
  have Hx := Lib.hid hx
  rw [hx] at HX
  have fS := hS.facts
  by_cases hlt : x ≤ l1
  ·have t0 : (x ≤ l1) = True := eq_true hlt
   have hxn : -100000 ≤ x := by omega
   have hnn : n + 1 ≤ N := by have := HNN.out; omega
   have hnx : l0 + ((n + 1 : Nat) : Int) = x + 1 := by push_cast; omega
   have HNX := Lib.hid hnx
   rw [hx]
   clear hnx hx
   by_cases he : (x + y) % 2 = 0
   ·have t1 : ((x + y).tmod 2 != 0) = false := by rw [bne_eq_false_iff_eq]; exact tmod2.2 he
    have HE : Hid (barsN S y (n + 1) = L ++ barAts S y x 2) := by unfold Hid; rw [HX.out, barsX_even he]
    clear he
    go_wp2
    go_loopw [5, 25] (fun s5 s25 wr => ∃ j : Nat, j ≤ 2 ∧ s25 = .int .i64 j ∧ OwB w.heap.size wr s5 (L ++ barAts S y x j) ∧ Blk wr w.heap.size 75 #[.int .i64 l0, .int .i64 l1, .int .i64 u0, .int .i64 u1] ∧ Below w.heap.size w wr) (fun _ s25 _ => 2 - (intOf s25).toNat)
    case atStart => exact ⟨0, by omega, rfl, by simpa [barAts] using hO, hS, hbw⟩
    case round =>
     clear hO hS hbw fS
     obtain ⟨j, hj, rfl, hO, hS, hbw⟩ := hrel
     obtain ⟨wi, rfl⟩ : ∃ x, x = wr := ⟨_, rfl⟩
     have fS := hS.facts
     have hjl := barAts_len S y x j
     obtain ⟨M, hM⟩ : ∃ M, L ++ barAts S y x j = M := ⟨_, rfl⟩
     have hMl : M.length ≤ 1000000 := by rw [← hM, List.length_append]; omega
     rw [hM] at hO
     obtain ⟨AO, cO, rfl⟩ := hO.shape
     obtain rfl | rfl | rfl : j = 0 ∨ j = 1 ∨ j = 2 := by omega
     ·have HM : Hid (L ++ barAts S y x 1 = M ++ barAt S y x (-1)) := by unfold Hid; rw [← hM]; simp [barAts]
      clear hM hjl
      by_cases h1 : u0 ≤ x + -1
      ·have q1 : (u0 ≤ x + -1) = True := eq_true h1
       by_cases h2 : x + -1 ≤ u1
       ·have q2 : (x + -1 ≤ u1) = True := eq_true h2
        have HA : Hid (barAt S y x (-1) = [(x, y, -1)]) := by unfold Hid barAt; rw [← HSS.out, if_pos ⟨h1, h2⟩]
        clear h1 h2
        go_wp2_with ((at_builtin; refine wpList_appB hO rfl _ _ rfl rfl rfl (by omega) (Below.size (by (repeat first|exact J0|assumption|(apply J1;assumption)|apply J2|apply J3|apply J4))) ?_; intro v2 w2 hown2 hgr2))
        go_roundw
        case rel => exact ⟨1, by omega, rfl, by rw [HM.out, HA.out]; exact hown2, (hS.alloc _).grown hgr2 (hO.ne_blk hS (by decide)), bl_grown hgr2 (bl_alloc hbw _) (fun k e => (hO.lt k e).1)⟩
        case measure => simp [intOf]
       ·have q2 : (x + -1 ≤ u1) = False := eq_false h2
        have HA : Hid (barAt S y x (-1) = []) := by unfold Hid barAt; rw [← HSS.out, if_neg (fun h => h2 h.2)]
        clear h1 h2
        go_wp2
        go_roundw
        case rel => exact ⟨1, by omega, rfl, by rw [HM.out, HA.out, List.append_nil]; exact hO, hS, hbw⟩
        case measure => simp [intOf]
      ·have q1 : (u0 ≤ x + -1) = False := eq_false h1
       have HA : Hid (barAt S y x (-1) = []) := by unfold Hid barAt; rw [← HSS.out, if_neg (fun h => h1 h.1)]
       clear h1
       go_wp2
       go_roundw
       case rel => exact ⟨1, by omega, rfl, by rw [HM.out, HA.out, List.append_nil]; exact hO, hS, hbw⟩
       case measure => simp [intOf]
     ·have HM : Hid (L ++ barAts S y x 2 = M ++ barAt S y x 1) := by unfold Hid; rw [← hM]; simp [barAts]
      clear hM hjl
      by_cases h1 : u0 ≤ x + 1
      ·have q1 : (u0 ≤ x + 1) = True := eq_true h1
       by_cases h2 : x + 1 ≤ u1
       ·have q2 : (x + 1 ≤ u1) = True := eq_true h2
        have HA : Hid (barAt S y x 1 = [(x, y, 1)]) := by unfold Hid barAt; rw [← HSS.out, if_pos ⟨h1, h2⟩]
        clear h1 h2
        go_wp2_with ((at_builtin; refine wpList_appB hO rfl _ _ rfl rfl rfl (by omega) (Below.size (by (repeat first|exact J0|assumption|(apply J1;assumption)|apply J2|apply J3|apply J4))) ?_; intro v2 w2 hown2 hgr2))
        go_roundw
        case rel => exact ⟨2, by omega, rfl, by rw [HM.out, HA.out]; exact hown2, (hS.alloc _).grown hgr2 (hO.ne_blk hS (by decide)), bl_grown hgr2 (bl_alloc hbw _) (fun k e => (hO.lt k e).1)⟩
        case measure => simp [intOf]
       ·have q2 : (x + 1 ≤ u1) = False := eq_false h2
        have HA : Hid (barAt S y x 1 = []) := by unfold Hid barAt; rw [← HSS.out, if_neg (fun h => h2 h.2)]
        clear h1 h2
        go_wp2
        go_roundw
        case rel => exact ⟨2, by omega, rfl, by rw [HM.out, HA.out, List.append_nil]; exact hO, hS, hbw⟩
        case measure => simp [intOf]
      ·have q1 : (u0 ≤ x + 1) = False := eq_false h1
       have HA : Hid (barAt S y x 1 = []) := by unfold Hid barAt; rw [← HSS.out, if_neg (fun h => h1 h.1)]
       clear h1
       go_wp2
       go_roundw
       case rel => exact ⟨2, by omega, rfl, by rw [HM.out, HA.out, List.append_nil]; exact hO, hS, hbw⟩
       case measure => simp [intOf]
     ·have HM : Hid (barsN S y (n + 1) = M) := by unfold Hid; rw [HE.out, hM]
      clear hM hjl
      go_wp2
      go_roundw
      case rel => exact ⟨n + 1, hnn, by rw [HNX.out], by rw [HM.out]; exact hO, hS, hbw⟩
      case measure => simp [intOf]; omega
   ·have t1 : ((x + y).tmod 2 != 0) = true := by rw [bne_iff_ne]; exact fun h => he (tmod2.1 h)
    have HE : Hid (barsN S y (n + 1) = L) := by unfold Hid; rw [HX.out, barsX_odd he, List.append_nil]
    clear he
    go_wp2
    go_roundw
    case rel => exact ⟨n + 1, hnn, by rw [HNX.out], by rw [HE.out]; exact hO, hS, hbw⟩
    case measure => simp [intOf]; omega
  ·have t0 : (x ≤ l1) = False := eq_false hlt
   have HE : Hid (barsS S y = L) := by
    have h1 := HNN.out
    obtain rfl : n = N := by omega
    unfold Hid
    rw [HB.out]
    exact HM0.out
   rw [hx]
   clear hx
   go_wp2
   go_ret
   exact ⟨_, rfl, by rw [HE.out]; exact hO, hbw⟩
def onlyN (e n : Int) : Int := if e = 0 then n else 0
theorem apiHeight_any {vL vR : Value} (p : Pan) (w : World) (hnm : p.1.length ≤ 1000000) (hL : SlE w vL p.2.2.1) (hR : SlE w vR p.2.2.2) :
  Calls Tryz.prog 23 #[.agg #[sV p.1, .int .i64 p.2.1, vL, vR]] w (RV w (.tuple #[.int .i64 (onlyN (panE p) (heightP p)), .int .i64 (panE p)])) := by
 have hc := fun W (hb : Below w.heap.size w W) => checkPanel_any p W hnm (hL.below hb) (hR.below hb)
 by_cases hE : panE p = 0
 ·have hbd := fun W (hb : Below w.heap.size w W) => height_any p W (hL.below hb) (hR.below hb) (panE_zero hE).wid' ((panE_zero hE).side false)
  have HS : Hid (onlyN (panE p) (heightP p) = heightP p) := by unfold Hid onlyN; rw [if_pos hE]
  rw [hE] at hc
  have HE := Lib.hid hE
  obtain ⟨AL, cL, rfl, _, _, _⟩ := hL
  obtain ⟨AR, cR, rfl, _, _, _⟩ := hR
  unfold sV at hc hbd ⊢
  have hP := Blk.new w 30 #[.string ⟨p.1.toArray⟩, .int .i64 p.2.1, .slice AL p.2.2.1.length cL, .slice AR p.2.2.2.length cR]
  have fhP := hP.facts
  clear hE hnm
  go_enter Tryz.func23, Tryz.ntmps23
  go_wp2_with fail
  refine (hc _ (by (repeat first|exact J0|assumption|(apply J1;assumption)|apply J2|apply J3|apply J4))).mono ?_
  rintro e w2 ⟨rfl, hb2⟩
  replace hP := hP.below (show Below _ _ w2 by (repeat first|exact J0|assumption|(apply J1;assumption)|apply J2|apply J3|apply J4))
  replace fhP := hP.facts
  go_wp2_with fail
  refine (hbd _ (by (repeat first|exact J0|assumption|(apply J1;assumption)|apply J2|apply J3|apply J4))).mono ?_
  rintro e w3 ⟨rfl, hb3⟩
  go_wp2
  refine bodyPost_ret (v := .tuple #[.int .i64 (heightP p), .int .i64 0]) (by simp [results, Tryz.results23, go_sem]) rfl ?_
  exact ⟨by rw [HS.out, HE.out], by (repeat first|exact J0|assumption|(apply J1;assumption)|apply J2|apply J3|apply J4)⟩
 ·have HS : Hid (onlyN (panE p) (heightP p) = 0) := by unfold Hid onlyN; rw [if_neg hE]
  have t0 : (panE p != 0) = true := by simp [hE]
  obtain ⟨E, hEE⟩ : ∃ E, panE p = E := ⟨_, rfl⟩
  rw [hEE] at hc t0
  have HE := Lib.hid hEE
  obtain ⟨AL, cL, rfl, _, _, _⟩ := hL
  obtain ⟨AR, cR, rfl, _, _, _⟩ := hR
  unfold sV at hc ⊢
  have hP := Blk.new w 30 #[.string ⟨p.1.toArray⟩, .int .i64 p.2.1, .slice AL p.2.2.1.length cL, .slice AR p.2.2.2.length cR]
  have fhP := hP.facts
  clear hE hEE hnm
  go_enter Tryz.func23, Tryz.ntmps23
  go_wp2_with fail
  refine (hc _ (by (repeat first|exact J0|assumption|(apply J1;assumption)|apply J2|apply J3|apply J4))).mono ?_
  rintro e w2 ⟨rfl, hb2⟩
  replace hP := hP.below (show Below _ _ w2 by (repeat first|exact J0|assumption|(apply J1;assumption)|apply J2|apply J3|apply J4))
  replace fhP := hP.facts
  go_wp2
  refine bodyPost_ret (v := .tuple #[.int .i64 0, .int .i64 E]) (by simp [results, Tryz.results23, go_sem]) rfl ?_
  exact ⟨by rw [HS.out, HE.out], by (repeat first|exact J0|assumption|(apply J1;assumption)|apply J2|apply J3|apply J4)⟩
theorem apiStrips_any {vL vR : Value} (p : Pan) (w : World) (hnm : p.1.length ≤ 1000000) (hL : SlE w vL p.2.2.1) (hR : SlE w vR p.2.2.2) :
  Calls Tryz.prog 31 #[.agg #[sV p.1, .int .i64 p.2.1, vL, vR]] w (RGE trc 4 75 w (onlyOk (panE p) (strips p)) (panE p)) := by
 have hc := fun W (hb : Below w.heap.size w W) => checkPanel_any p W hnm (hL.below hb) (hR.below hb)
 by_cases hE : panE p = 0
 ·have hbd := fun W (hb : Below w.heap.size w W) => strips_any p W (hL.below hb) (hR.below hb) (panE_zero hE)
  have HS : Hid (onlyOk (panE p) (strips p) = strips p) := by unfold Hid onlyOk; rw [if_pos hE]
  rw [hE] at hc
  have HE := Lib.hid hE
  obtain ⟨AL, cL, rfl, _, _, _⟩ := hL
  obtain ⟨AR, cR, rfl, _, _, _⟩ := hR
  unfold sV at hc hbd ⊢
  have hP := Blk.new w 30 #[.string ⟨p.1.toArray⟩, .int .i64 p.2.1, .slice AL p.2.2.1.length cL, .slice AR p.2.2.2.length cR]
  have fhP := hP.facts
  clear hE hnm
  go_enter Tryz.func31, Tryz.ntmps31
  go_wp2_with fail
  refine (hc _ (by (repeat first|exact J0|assumption|(apply J1;assumption)|apply J2|apply J3|apply J4))).mono ?_
  rintro e w2 ⟨rfl, hb2⟩
  replace hP := hP.below (show Below _ _ w2 by (repeat first|exact J0|assumption|(apply J1;assumption)|apply J2|apply J3|apply J4))
  replace fhP := hP.facts
  go_wp2_with fail
  refine (hbd _ (by (repeat first|exact J0|assumption|(apply J1;assumption)|apply J2|apply J3|apply J4))).mono ?_
  rintro e w3 ⟨v3, rfl, hO3, hb3⟩
  go_wp2
  refine bodyPost_ret (v := .tuple #[v3, .int .i64 0]) (by simp [results, Tryz.results31, go_sem]) rfl ?_
  exact ⟨v3, by rw [HE.out], by rw [HS.out]; exact hO3.base_mono (Below.size (by (repeat first|exact J0|assumption|(apply J1;assumption)|apply J2|apply J3|apply J4))), by (repeat first|exact J0|assumption|(apply J1;assumption)|apply J2|apply J3|apply J4)⟩
 ·have HS : Hid (onlyOk (panE p) (strips p) = []) := by unfold Hid onlyOk; rw [if_neg hE]
  have t0 : (panE p != 0) = true := by simp [hE]
  obtain ⟨E, hEE⟩ : ∃ E, panE p = E := ⟨_, rfl⟩
  rw [hEE] at hc t0
  have HE := Lib.hid hEE
  obtain ⟨AL, cL, rfl, _, _, _⟩ := hL
  obtain ⟨AR, cR, rfl, _, _, _⟩ := hR
  unfold sV at hc ⊢
  have hP := Blk.new w 30 #[.string ⟨p.1.toArray⟩, .int .i64 p.2.1, .slice AL p.2.2.1.length cL, .slice AR p.2.2.2.length cR]
  have fhP := hP.facts
  clear hE hEE hnm
  go_enter Tryz.func31, Tryz.ntmps31
  go_wp2_with fail
  refine (hc _ (by (repeat first|exact J0|assumption|(apply J1;assumption)|apply J2|apply J3|apply J4))).mono ?_
  rintro e w2 ⟨rfl, hb2⟩
  replace hP := hP.below (show Below _ _ w2 by (repeat first|exact J0|assumption|(apply J1;assumption)|apply J2|apply J3|apply J4))
  replace fhP := hP.facts
  go_wp2
  refine bodyPost_ret (v := .tuple #[.slice none 0 0, .int .i64 E]) (by simp [results, Tryz.results31, go_sem]) rfl ?_
  exact ⟨_, by rw [HE.out], by rw [HS.out]; exact Own.nil_, by (repeat first|exact J0|assumption|(apply J1;assumption)|apply J2|apply J3|apply J4)⟩
theorem apiOutline_any {vL vR : Value} (p : Pan) (right : Bool) (w : World) (hnm : p.1.length ≤ 1000000) (hL : SlE w vL p.2.2.1) (hR : SlE w vR p.2.2.2) :
  Calls Tryz.prog 43 #[.agg #[sV p.1, .int .i64 p.2.1, vL, vR], .bool right] w (RGE kc 2 40 w (onlyOk (panE p) (outP p right)) (panE p)) := by
 have hc := fun W (hb : Below w.heap.size w W) => checkPanel_any p W hnm (hL.below hb) (hR.below hb)
 by_cases hE : panE p = 0
 ·have hbd := fun W (hb : Below w.heap.size w W) => outline_any p right W (hL.below hb) (hR.below hb) (panE_zero hE).wid' ((panE_zero hE).side right)
  have HS : Hid (onlyOk (panE p) (outP p right) = outP p right) := by unfold Hid onlyOk; rw [if_pos hE]
  rw [hE] at hc
  have HE := Lib.hid hE
  obtain ⟨AL, cL, rfl, _, _, _⟩ := hL
  obtain ⟨AR, cR, rfl, _, _, _⟩ := hR
  unfold sV at hc hbd ⊢
  have hP := Blk.new w 30 #[.string ⟨p.1.toArray⟩, .int .i64 p.2.1, .slice AL p.2.2.1.length cL, .slice AR p.2.2.2.length cR]
  have fhP := hP.facts
  clear hE hnm
  go_enter Tryz.func43, Tryz.ntmps43
  go_wp2_with fail
  refine (hc _ (by (repeat first|exact J0|assumption|(apply J1;assumption)|apply J2|apply J3|apply J4))).mono ?_
  rintro e w2 ⟨rfl, hb2⟩
  replace hP := hP.below (show Below _ _ w2 by (repeat first|exact J0|assumption|(apply J1;assumption)|apply J2|apply J3|apply J4))
  replace fhP := hP.facts
  go_wp2_with fail
  refine (hbd _ (by (repeat first|exact J0|assumption|(apply J1;assumption)|apply J2|apply J3|apply J4))).mono ?_
  rintro e w3 ⟨v3, rfl, hO3, hb3⟩
  go_wp2
  refine bodyPost_ret (v := .tuple #[v3, .int .i64 0]) (by simp [results, Tryz.results43, go_sem]) rfl ?_
  exact ⟨v3, by rw [HE.out], by rw [HS.out]; exact hO3.base_mono (Below.size (by (repeat first|exact J0|assumption|(apply J1;assumption)|apply J2|apply J3|apply J4))), by (repeat first|exact J0|assumption|(apply J1;assumption)|apply J2|apply J3|apply J4)⟩
 ·have HS : Hid (onlyOk (panE p) (outP p right) = []) := by unfold Hid onlyOk; rw [if_neg hE]
  have t0 : (panE p != 0) = true := by simp [hE]
  obtain ⟨E, hEE⟩ : ∃ E, panE p = E := ⟨_, rfl⟩
  rw [hEE] at hc t0
  have HE := Lib.hid hEE
  obtain ⟨AL, cL, rfl, _, _, _⟩ := hL
  obtain ⟨AR, cR, rfl, _, _, _⟩ := hR
  unfold sV at hc ⊢
  have hP := Blk.new w 30 #[.string ⟨p.1.toArray⟩, .int .i64 p.2.1, .slice AL p.2.2.1.length cL, .slice AR p.2.2.2.length cR]
  have fhP := hP.facts
  clear hE hEE hnm
  go_enter Tryz.func43, Tryz.ntmps43
  go_wp2_with fail
  refine (hc _ (by (repeat first|exact J0|assumption|(apply J1;assumption)|apply J2|apply J3|apply J4))).mono ?_
  rintro e w2 ⟨rfl, hb2⟩
  replace hP := hP.below (show Below _ _ w2 by (repeat first|exact J0|assumption|(apply J1;assumption)|apply J2|apply J3|apply J4))
  replace fhP := hP.facts
  go_wp2
  refine bodyPost_ret (v := .tuple #[.slice none 0 0, .int .i64 E]) (by simp [results, Tryz.results43, go_sem]) rfl ?_
  exact ⟨_, by rw [HE.out], by rw [HS.out]; exact Own.nil_, by (repeat first|exact J0|assumption|(apply J1;assumption)|apply J2|apply J3|apply J4)⟩
end Go.Proofs.YtkkefahobjlagaaGreatDoor

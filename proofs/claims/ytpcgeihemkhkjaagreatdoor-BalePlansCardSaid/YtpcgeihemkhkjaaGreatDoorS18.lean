/- The bars of a strip, walked. Conditions: bounds. -/
import Derived.Test.YtpcgeihemkhkjaaGreatDoorS11
import Derived.Test.YtpcgeihemkhkjaaGreatDoorS17
import Derived.Test.YtpcgeihemkhkjaaGreatDoorS05
import Derived.Test.YtpcgeihemkhkjaaGreatDoorS04
import Derived.Laws.CopyRow
import Derived.Shelf.SlicesQ.Reverse
import Derived.Shelf.SlicesE.Reverse
namespace Go.Proofs.YtpcgeihemkhkjaaGreatDoor
open Go.RowKit Go.ChangeMaps
set_option maxHeartbeats 4000000
set_option maxRecDepth 100000
attribute [local go_sem] Oper.semAt_some
theorem Zf9 {ops : Array Oper} {rest : List Oper} {o : Oper} {a : Act} {Q : Exit → Act → World → Prop} {base : Nat} {v : Value} {w : World} {u : Value} {l r : List Bar} (hown : OwB base w v l) (hu : SlB w u r) (hgd : o.guard = none) (s x : Operand) (ho : o.op = .call { callee := .builtin .append, args := #[s, x], argTypes := #[65, 65] })
    (hs : a.eval s = v) (hx : a.eval x = u) (hlen : l.length + r.length ≤ 1000000000) (hbase : base ≤ w.heap.size)
    (h : ∀ v' w', OwB base w' v' (l ++ r) → w.grownBy w' v.ownBlock → wpList Tryz.prog ops Q rest (a.put o.dst v') w') : wpList Tryz.prog ops Q (o :: rest) a w :=
  Z3y hgd Z3v Z20 Z3z s x ho base v u l r hs hx hown hu (by unfold maxLen; omega) (by omega) hbase h
@[go_sem] theorem idxM_0 (w : World) : (Instr.index 119 (.agg #[.int .i64 (-1), .int .i64 1]) (.int .i64 0)).run Tryz.prog w = .ok (.int .i64 (-1)) w := by kernel_rfl
@[go_sem] theorem idxM_1 (w : World) : (Instr.index 119 (.agg #[.int .i64 (-1), .int .i64 1]) (.int .i64 1)).run Tryz.prog w = .ok (.int .i64 1) w := by kernel_rfl
theorem Zfa {n : Int} : n.tmod 2 = 0 ↔ n % 2 = 0 := by
 rw [← Int.dvd_iff_tmod_eq_zero, ← Int.dvd_iff_emod_eq_zero]
theorem Zfb (s : Strp) (y : Int) (w : World) (hs : Zaz s) (hy : 0 ≤ y ∧ y ≤ 1000) :
  Calls Tryz.prog 217 #[.agg #[.int .i64 s.1, .int .i64 s.2.1, .int .i64 s.2.2.1, .int .i64 s.2.2.2], .int .i64 y] w (RB w (Z71 s y)) := by
 obtain ⟨l0, l1, u0, u1⟩ := s
 unfold Zaz at hs
 simp only at hs ⊢
 obtain ⟨N, hN⟩ : ∃ N, (l1 - l0 + 1).toNat = N := ⟨_, rfl⟩
 have hN2 : (N : Int) ≤ 200001 := by omega
 have HB : Hid (Z71 (l0, l1, u0, u1) y = Z70 (l0, l1, u0, u1) y N) := by unfold Hid Z71; rw [hN]
 have HNN := Lib.hid hN
 obtain ⟨S, hSS⟩ : ∃ S : Strp, (l0, l1, u0, u1) = S := ⟨_, rfl⟩
 have HSS := Lib.hid hSS
 rw [hSS] at HB
 have hS0 := Blk.new w 234 #[.int .i64 l0, .int .i64 l1, .int .i64 u0, .int .i64 u1]
 have fhS := hS0.facts
 have HL := Lib.hid (fun n => Zbe S y n)
 have HT : Hid (∀ n, Z70 S y (n + 1) = Z70 S y n ++ Z6z S y (l0 + (n : Int))) := by intro n; rw [← hSS]; rfl
 rw [hSS]
 clear hSS hN
 go_enter Tryz.func217, Tryz.ntmps217
 go_wp2
 go_loopw [5, 6] (fun s5 s6 wr => ∃ n : Nat, n ≤ N ∧ s6 = .int .i64 (l0 + (n : Int)) ∧ OwB w.heap.size wr s5 (Z70 S y n) ∧ Blk wr w.heap.size 234 #[.int .i64 l0, .int .i64 l1, .int .i64 u0, .int .i64 u1] ∧ Below w.heap.size w wr) (fun _ s6 _ => (l1 + 1 - intOf s6).toNat)
 case atStart => exact ⟨0, Nat.zero_le _, by simp, Own.nil_, hS0, Z04 Z03 _⟩
 case round =>
  clear hS0 fhS; obtain ⟨n, hn, rfl, hO, hS, hbw⟩ := hrel; obtain ⟨wo, rfl⟩ : ∃ x, x = wr := ⟨_, rfl⟩
  have hl := HL.out n
  have HX := Lib.hid (HT.out n)
  obtain ⟨L, hL⟩ : ∃ L, Z70 S y n = L := ⟨_, rfl⟩
  rw [hL] at hO hl HX; have HM0 := Lib.hid hL
  clear hL; obtain ⟨AO, cO, rfl⟩ := hO.shape; obtain ⟨x, hx⟩ : ∃ x, l0 + (n : Int) = x := ⟨_, rfl⟩
  have Hx := Lib.hid hx
  rw [hx] at HX; have fS := hS.facts
  by_cases hlt : x ≤ l1
  ·have t0 : (x ≤ l1) = True := eq_true hlt
   have hxn : -100000 ≤ x := by omega
   have hnn : n + 1 ≤ N := by have := HNN.out; omega
   have hnx : l0 + ((n + 1 : Nat) : Int) = x + 1 := by push_cast; omega
   have HNX := Lib.hid hnx
   rw [hx]; clear hnx hx; by_cases he : (x + y) % 2 = 0
   ·have t1 : ((x + y).tmod 2 != 0) = false := by rw [bne_eq_false_iff_eq]; exact Zfa.2 he
    have HE : Hid (Z70 S y (n + 1) = L ++ Zb8 S y x 2) := by unfold Hid; rw [HX.out, Zb9 he]
    clear he; go_wp2; go_loopw [5, 25] (fun s5 s25 wr => ∃ j : Nat, j ≤ 2 ∧ s25 = .int .i64 j ∧ OwB w.heap.size wr s5 (L ++ Zb8 S y x j) ∧ Blk wr w.heap.size 234 #[.int .i64 l0, .int .i64 l1, .int .i64 u0, .int .i64 u1] ∧ Below w.heap.size w wr) (fun _ s25 _ => 2 - (intOf s25).toNat)
    case atStart => exact ⟨0, by omega, rfl, by simpa [Zb8] using hO, hS, hbw⟩
    case round =>
     clear hO hS hbw fS; obtain ⟨j, hj, rfl, hO, hS, hbw⟩ := hrel; obtain ⟨wi, rfl⟩ : ∃ x, x = wr := ⟨_, rfl⟩
     have fS := hS.facts
     have hjl := Zbc S y x j
     obtain ⟨M, hM⟩ : ∃ M, L ++ Zb8 S y x j = M := ⟨_, rfl⟩
     have hMl : M.length ≤ 1000000 := by rw [← hM, List.length_append]; omega
     rw [hM] at hO; obtain ⟨AO, cO, rfl⟩ := hO.shape; obtain rfl | rfl | rfl : j = 0 ∨ j = 1 ∨ j = 2 := by omega
     ·have HM : Hid (L ++ Zb8 S y x 1 = M ++ Zb7 S y x (-1)) := by unfold Hid; rw [← hM]; simp [Zb8]
      clear hM hjl; by_cases h1 : u0 ≤ x + -1
      ·have q1 : (u0 ≤ x + -1) = True := eq_true h1
       by_cases h2 : x + -1 ≤ u1
       ·have q2 : (x + -1 ≤ u1) = True := eq_true h2
        have HA : Hid (Zb7 S y x (-1) = [(x, y, -1)]) := by unfold Hid Zb7; rw [← HSS.out, if_pos ⟨h1, h2⟩]
        clear h1 h2; go_wp2_with ((at_builtin; refine Z42 hO rfl _ _ rfl rfl rfl (by omega) (Below.size (by (repeat first|exact J0|assumption|(apply J1;assumption)|apply J2|apply J3|apply J4))) ?_; intro v2 w2 hown2 hgr2))
        go_roundw; case rel => exact ⟨1, by omega, rfl, by rw [HM.out, HA.out]; exact hown2, (hS.alloc _).grown hgr2 (hO.ne_blk hS (by decide)), Z09 hgr2 (Z04 hbw _) (fun k e => (hO.lt k e).1)⟩
        case measure => simp [intOf]
       ·have q2 : (x + -1 ≤ u1) = False := eq_false h2
        have HA : Hid (Zb7 S y x (-1) = []) := by unfold Hid Zb7; rw [← HSS.out, if_neg (fun h => h2 h.2)]
        clear h1 h2; go_wp2; go_roundw; case rel => exact ⟨1, by omega, rfl, by rw [HM.out, HA.out, List.append_nil]; exact hO, hS, hbw⟩
        case measure => simp [intOf]
      ·have q1 : (u0 ≤ x + -1) = False := eq_false h1
       have HA : Hid (Zb7 S y x (-1) = []) := by unfold Hid Zb7; rw [← HSS.out, if_neg (fun h => h1 h.1)]
       clear h1; go_wp2; go_roundw; case rel => exact ⟨1, by omega, rfl, by rw [HM.out, HA.out, List.append_nil]; exact hO, hS, hbw⟩
       case measure => simp [intOf]
     ·have HM : Hid (L ++ Zb8 S y x 2 = M ++ Zb7 S y x 1) := by unfold Hid; rw [← hM]; simp [Zb8]
      clear hM hjl; by_cases h1 : u0 ≤ x + 1
      ·have q1 : (u0 ≤ x + 1) = True := eq_true h1
       by_cases h2 : x + 1 ≤ u1
       ·have q2 : (x + 1 ≤ u1) = True := eq_true h2
        have HA : Hid (Zb7 S y x 1 = [(x, y, 1)]) := by unfold Hid Zb7; rw [← HSS.out, if_pos ⟨h1, h2⟩]
        clear h1 h2; go_wp2_with ((at_builtin; refine Z42 hO rfl _ _ rfl rfl rfl (by omega) (Below.size (by (repeat first|exact J0|assumption|(apply J1;assumption)|apply J2|apply J3|apply J4))) ?_; intro v2 w2 hown2 hgr2))
        go_roundw; case rel => exact ⟨2, by omega, rfl, by rw [HM.out, HA.out]; exact hown2, (hS.alloc _).grown hgr2 (hO.ne_blk hS (by decide)), Z09 hgr2 (Z04 hbw _) (fun k e => (hO.lt k e).1)⟩
        case measure => simp [intOf]
       ·have q2 : (x + 1 ≤ u1) = False := eq_false h2
        have HA : Hid (Zb7 S y x 1 = []) := by unfold Hid Zb7; rw [← HSS.out, if_neg (fun h => h2 h.2)]
        clear h1 h2; go_wp2; go_roundw; case rel => exact ⟨2, by omega, rfl, by rw [HM.out, HA.out, List.append_nil]; exact hO, hS, hbw⟩
        case measure => simp [intOf]
      ·have q1 : (u0 ≤ x + 1) = False := eq_false h1
       have HA : Hid (Zb7 S y x 1 = []) := by unfold Hid Zb7; rw [← HSS.out, if_neg (fun h => h1 h.1)]
       clear h1; go_wp2; go_roundw; case rel => exact ⟨2, by omega, rfl, by rw [HM.out, HA.out, List.append_nil]; exact hO, hS, hbw⟩
       case measure => simp [intOf]
     ·have HM : Hid (Z70 S y (n + 1) = M) := by unfold Hid; rw [HE.out, hM]
      clear hM hjl; go_wp2; go_roundw; case rel => exact ⟨n + 1, hnn, by rw [HNX.out], by rw [HM.out]; exact hO, hS, hbw⟩
      case measure => simp [intOf]; omega
   ·have t1 : ((x + y).tmod 2 != 0) = true := by rw [bne_iff_ne]; exact fun h => he (Zfa.1 h)
    have HE : Hid (Z70 S y (n + 1) = L) := by unfold Hid; rw [HX.out, Zba he, List.append_nil]
    clear he; go_wp2; go_roundw; case rel => exact ⟨n + 1, hnn, by rw [HNX.out], by rw [HE.out]; exact hO, hS, hbw⟩
    case measure => simp [intOf]; omega
  ·have t0 : (x ≤ l1) = False := eq_false hlt
   have HE : Hid (Z71 S y = L) := by
    have h1 := HNN.out
    obtain rfl : n = N := by omega
    unfold Hid; rw [HB.out]; exact HM0.out
   rw [hx]; clear hx; go_wp2; go_ret; exact ⟨_, rfl, by rw [HE.out]; exact hO, hbw⟩
def Zfc (e n : Int) : Int := if e = 0 then n else 0
theorem Zfd {vL vR : Value} (p : Pan) (w : World) (hnm : p.1.length ≤ 1000000) (hL : SlE w vL p.2.2.1) (hR : SlE w vR p.2.2.2) :
  Calls Tryz.prog 162 #[.agg #[sV p.1, .int .i64 p.2.1, vL, vR]] w (RGE trc 4 234 w (Z5w (panE p) (Z6y p)) (panE p)) := by
 have hc := fun W (hb : Below w.heap.size w W) => Zf5 p W hnm (hL.below hb) (hR.below hb)
 by_cases hE : panE p = 0
 ·have hbd := fun W (hb : Below w.heap.size w W) => Zf7 p W (hL.below hb) (hR.below hb) (Zaw hE)
  have HS : Hid (Z5w (panE p) (Z6y p) = Z6y p) := by unfold Hid Z5w; rw [if_pos hE]
  rw [hE] at hc; have HE := Lib.hid hE
  obtain ⟨AL, cL, rfl, _, _, _⟩ := hL; obtain ⟨AR, cR, rfl, _, _, _⟩ := hR; unfold sV at hc hbd ⊢; have hP := Blk.new w 97 #[.string ⟨p.1.toArray⟩, .int .i64 p.2.1, .slice AL p.2.2.1.length cL, .slice AR p.2.2.2.length cR]
  have fhP := hP.facts
  clear hE hnm; go_enter Tryz.func162, Tryz.ntmps162
  go_wp2_with fail; refine (hc _ (by (repeat first|exact J0|assumption|(apply J1;assumption)|apply J2|apply J3|apply J4))).mono ?_
  rintro e w2 ⟨rfl, hb2⟩; replace hP := hP.below (show Below _ _ w2 by (repeat first|exact J0|assumption|(apply J1;assumption)|apply J2|apply J3|apply J4))
  replace fhP := hP.facts
  go_wp2_with fail; refine (hbd _ (by (repeat first|exact J0|assumption|(apply J1;assumption)|apply J2|apply J3|apply J4))).mono ?_
  rintro e w3 ⟨v3, rfl, hO3, hb3⟩; go_wp2; refine bodyPost_ret (v := .tuple #[v3, .int .i64 0]) (by simp [results, Tryz.results162, go_sem]) rfl ?_
  exact ⟨v3, by rw [HE.out], by rw [HS.out]; exact hO3.base_mono (Below.size (by (repeat first|exact J0|assumption|(apply J1;assumption)|apply J2|apply J3|apply J4))), by (repeat first|exact J0|assumption|(apply J1;assumption)|apply J2|apply J3|apply J4)⟩
 ·have HS : Hid (Z5w (panE p) (Z6y p) = []) := by unfold Hid Z5w; rw [if_neg hE]
  have t0 : (panE p != 0) = true := by simp [hE]
  obtain ⟨E, hEE⟩ : ∃ E, panE p = E := ⟨_, rfl⟩
  rw [hEE] at hc t0; have HE := Lib.hid hEE
  obtain ⟨AL, cL, rfl, _, _, _⟩ := hL; obtain ⟨AR, cR, rfl, _, _, _⟩ := hR; unfold sV at hc ⊢; have hP := Blk.new w 97 #[.string ⟨p.1.toArray⟩, .int .i64 p.2.1, .slice AL p.2.2.1.length cL, .slice AR p.2.2.2.length cR]
  have fhP := hP.facts
  clear hE hEE hnm; go_enter Tryz.func162, Tryz.ntmps162
  go_wp2_with fail; refine (hc _ (by (repeat first|exact J0|assumption|(apply J1;assumption)|apply J2|apply J3|apply J4))).mono ?_
  rintro e w2 ⟨rfl, hb2⟩; replace hP := hP.below (show Below _ _ w2 by (repeat first|exact J0|assumption|(apply J1;assumption)|apply J2|apply J3|apply J4))
  replace fhP := hP.facts
  go_wp2; refine bodyPost_ret (v := .tuple #[.slice none 0 0, .int .i64 E]) (by simp [results, Tryz.results162, go_sem]) rfl ?_
  exact ⟨_, by rw [HE.out], by rw [HS.out]; exact Own.nil_, by (repeat first|exact J0|assumption|(apply J1;assumption)|apply J2|apply J3|apply J4)⟩
theorem Zfe {vL vR : Value} (p : Pan) (right : Bool) (w : World) (hnm : p.1.length ≤ 1000000) (hL : SlE w vL p.2.2.1) (hR : SlE w vR p.2.2.2) :
  Calls Tryz.prog 163 #[.agg #[sV p.1, .int .i64 p.2.1, vL, vR], .bool right] w (RGE kc 2 90 w (Z5w (panE p) (outP p right)) (panE p)) := by
 have hc := fun W (hb : Below w.heap.size w W) => Zf5 p W hnm (hL.below hb) (hR.below hb)
 by_cases hE : panE p = 0
 ·have hbd := fun W (hb : Below w.heap.size w W) => Zal p right W (hL.below hb) (hR.below hb) (Zaw hE).wid' ((Zaw hE).side right)
  have HS : Hid (Z5w (panE p) (outP p right) = outP p right) := by unfold Hid Z5w; rw [if_pos hE]
  rw [hE] at hc; have HE := Lib.hid hE
  obtain ⟨AL, cL, rfl, _, _, _⟩ := hL; obtain ⟨AR, cR, rfl, _, _, _⟩ := hR; unfold sV at hc hbd ⊢; have hP := Blk.new w 97 #[.string ⟨p.1.toArray⟩, .int .i64 p.2.1, .slice AL p.2.2.1.length cL, .slice AR p.2.2.2.length cR]
  have fhP := hP.facts
  clear hE hnm; go_enter Tryz.func163, Tryz.ntmps163
  go_wp2_with fail; refine (hc _ (by (repeat first|exact J0|assumption|(apply J1;assumption)|apply J2|apply J3|apply J4))).mono ?_
  rintro e w2 ⟨rfl, hb2⟩; replace hP := hP.below (show Below _ _ w2 by (repeat first|exact J0|assumption|(apply J1;assumption)|apply J2|apply J3|apply J4))
  replace fhP := hP.facts
  go_wp2_with fail; refine (hbd _ (by (repeat first|exact J0|assumption|(apply J1;assumption)|apply J2|apply J3|apply J4))).mono ?_
  rintro e w3 ⟨v3, rfl, hO3, hb3⟩; go_wp2; refine bodyPost_ret (v := .tuple #[v3, .int .i64 0]) (by simp [results, Tryz.results163, go_sem]) rfl ?_
  exact ⟨v3, by rw [HE.out], by rw [HS.out]; exact hO3.base_mono (Below.size (by (repeat first|exact J0|assumption|(apply J1;assumption)|apply J2|apply J3|apply J4))), by (repeat first|exact J0|assumption|(apply J1;assumption)|apply J2|apply J3|apply J4)⟩
 ·have HS : Hid (Z5w (panE p) (outP p right) = []) := by unfold Hid Z5w; rw [if_neg hE]
  have t0 : (panE p != 0) = true := by simp [hE]
  obtain ⟨E, hEE⟩ : ∃ E, panE p = E := ⟨_, rfl⟩
  rw [hEE] at hc t0; have HE := Lib.hid hEE
  obtain ⟨AL, cL, rfl, _, _, _⟩ := hL; obtain ⟨AR, cR, rfl, _, _, _⟩ := hR; unfold sV at hc ⊢; have hP := Blk.new w 97 #[.string ⟨p.1.toArray⟩, .int .i64 p.2.1, .slice AL p.2.2.1.length cL, .slice AR p.2.2.2.length cR]
  have fhP := hP.facts
  clear hE hEE hnm; go_enter Tryz.func163, Tryz.ntmps163
  go_wp2_with fail; refine (hc _ (by (repeat first|exact J0|assumption|(apply J1;assumption)|apply J2|apply J3|apply J4))).mono ?_
  rintro e w2 ⟨rfl, hb2⟩; replace hP := hP.below (show Below _ _ w2 by (repeat first|exact J0|assumption|(apply J1;assumption)|apply J2|apply J3|apply J4))
  replace fhP := hP.facts
  go_wp2; refine bodyPost_ret (v := .tuple #[.slice none 0 0, .int .i64 E]) (by simp [results, Tryz.results163, go_sem]) rfl ?_
  exact ⟨_, by rw [HE.out], by rw [HS.out]; exact Own.nil_, by (repeat first|exact J0|assumption|(apply J1;assumption)|apply J2|apply J3|apply J4)⟩
theorem Zff {p : Pan} (h : panE p ≠ 0) : Zbm p = panE p := by unfold Zbm; rw [if_neg h]
theorem Zfg {vL vR : Value} (p : Pan) (w : World) (hnm : p.1.length ≤ 1000000) (hL : SlE w vL p.2.2.1) (hR : SlE w vR p.2.2.2) :
  Calls Tryz.prog 189 #[.agg #[sV p.1, .int .i64 p.2.1, vL, vR]] w (RGE bc 3 111 w (Z5w (Zbm p) (netL p)) (Zbm p)) := by
 have hc := fun W (hb : Below w.heap.size w W) => Zf5 p W hnm (hL.below hb) (hR.below hb)
 by_cases hE : panE p = 0
 ·have hok := Zaw hE
  have hbd := fun W (hb : Below w.heap.size w W) => Zf7 p W (hL.below hb) (hR.below hb) hok
  have hS := Zb2 hok
  have hSl := Zb4 hok
  have HN : Hid (Zbm p = Z15 (decide (4096 < (netL p).length)) 5 ∧ netL p = netN (Z6y p) (Z6y p).length) := by unfold Hid Zbm; rw [if_pos hE]; exact ⟨rfl, rfl⟩
  rw [hE] at hc; obtain ⟨AL, cL, rfl, _, _, _⟩ := hL; obtain ⟨AR, cR, rfl, _, _, _⟩ := hR; unfold sV at hc hbd ⊢; obtain ⟨S, hSS⟩ : ∃ S, Z6y p = S := ⟨_, rfl⟩
  rw [hSS] at hbd hS hSl HN; obtain ⟨T, hT⟩ : ∃ T, netL p = T := ⟨_, rfl⟩
  obtain ⟨E, hEE⟩ : ∃ E, Zbm p = E := ⟨_, rfl⟩
  rw [hT, hEE] at HN ⊢; have hP := Blk.new w 97 #[.string ⟨p.1.toArray⟩, .int .i64 p.2.1, .slice AL p.2.2.1.length cL, .slice AR p.2.2.2.length cR]
  have fhP := hP.facts
  have HSN := Lib.hid hS
  have HLN := Lib.hid (Zbg hS)
  clear hE hnm hSS hT hEE hS; go_enter Tryz.func189, Tryz.ntmps189
  go_wp2_with fail; refine (hc _ (by (repeat first|exact J0|assumption|(apply J1;assumption)|apply J2|apply J3|apply J4))).mono ?_
  rintro e w2 ⟨rfl, hb2⟩; replace hP := hP.below (show Below _ _ w2 by (repeat first|exact J0|assumption|(apply J1;assumption)|apply J2|apply J3|apply J4))
  replace fhP := hP.facts
  go_wp2_with fail; refine (hbd _ (by (repeat first|exact J0|assumption|(apply J1;assumption)|apply J2|apply J3|apply J4))).mono ?_
  rintro e w3 ⟨v3, rfl, hO3, hb3⟩; replace hP := hP.below (show Below _ _ w3 by (repeat first|exact J0|assumption|(apply J1;assumption)|apply J2|apply J3|apply J4))
  replace fhP := hP.facts
  obtain ⟨A3, c3, rfl⟩ := hO3.shape; obtain ⟨_, _, he3, hlc3, hcm3, hr3⟩ := hO3.rd Z8k
  obtain ⟨rfl, rfl⟩ : A3 = _ ∧ c3 = _ := by simpa using he3
  have hbw3 : Below w.heap.size w w3 := by (repeat first|exact J0|assumption|(apply J1;assumption)|apply J2|apply J3|apply J4)
  clear hP fhP hb2 hb3 he3 hc hbd hO3 hlc3 hcm3; go_wp2; go_loopw [5, 16] (fun s5 s16 wr => ∃ k : Nat, k ≤ S.length ∧ s16 = .int .i64 k ∧ OwB w3.heap.size wr s5 (netN S k) ∧ Below w3.heap.size w3 wr) (fun _ s _ => S.length - (intOf s).toNat)
  case atStart => exact ⟨0, Nat.zero_le _, rfl, Own.nil_, Z03⟩
  case round =>
   obtain ⟨k, hk, rfl, hO, hbk⟩ := hrel; obtain ⟨wo, rfl⟩ : ∃ x, x = wr := ⟨_, rfl⟩
   have hl := HLN.out k hk
   by_cases hlt : k < S.length
   ·obtain ⟨b, off, rfl, hb, e0, e1, e2, e3⟩ := (hr3.below hbk).strp hlt
    have hs := HSN.out _ (List.getElem_mem hlt)
    have HT : Hid (netN S (k + 1) = netN S k ++ Z71 S[k] (k : Int)) := by
     unfold Hid; rw [netN, List.getD_eq_getElem?_getD, List.getElem?_eq_getElem hlt, Option.getD_some]
    have hbl := Zbf hs (k : Int)
    have hba := fun W => Zfb S[k] (k : Int) W hs (by omega)
    obtain ⟨⟨x0, x1, x2, x3⟩, hx⟩ : ∃ z, S[k] = z := ⟨_, rfl⟩
    rw [hx] at e0 e1 e2 e3 HT hba hbl; simp only at e0 e1 e2 e3 hba
    clear hs hx; obtain ⟨L, hL⟩ : ∃ L, netN S k = L := ⟨_, rfl⟩
    rw [hL] at hO hl HT; clear hL; obtain ⟨AO, cO, rfl⟩ := hO.shape; have hS7 := Blk.new wo 234 #[.int .i64 x0, .int .i64 x1, .int .i64 x2, .int .i64 x3]
    have fhS7 := hS7.facts
    have hO7 := hO.alloc (.cells #[.int .i64 x0, .int .i64 x1, .int .i64 x2, .int .i64 x3] 234)
    have hb7 := Z04 hbk (.cells #[.int .i64 x0, .int .i64 x1, .int .i64 x2, .int .i64 x3] 234)
    obtain ⟨R, hR⟩ : ∃ R, Z71 (x0, x1, x2, x3) (k : Int) = R := ⟨_, rfl⟩
    rw [hR] at HT hba hbl; clear hR; go_wp2_with fail; refine (hba _).mono ?_
    rintro e w8 ⟨v8, rfl, hO8, hb8⟩; have hb38 : Below w3.heap.size w3 w8 := Z08 hb8 hb7
    go_wp2_with (at_builtin; refine Zf9 (hO7.below hb8) (hO8.rd Z20) rfl _ _ rfl rfl rfl (by omega) hb38.size ?_; intro v9 w9 hown9 hgr9)
    go_roundw; case rel => exact ⟨k + 1, by omega, by go_num, by rw [HT.out]; exact hown9, Z09 hgr9 hb38 (fun j e => (hO.lt j e).1)⟩
    case measure => simp [intOf]; omega
   ·obtain rfl : k = S.length := by omega
    rw [← HN.out.2] at hO hl; obtain ⟨AO, cO, rfl⟩ := hO.shape; by_cases h9 : 4096 < T.length
    ·have t1 : (4096 < T.length) = True := eq_true h9
     have t2 : (4096 < (T.length : Int)) = True := eq_true (by omega)
     have HEE : Hid (E = 5) := by unfold Hid; rw [HN.out.1, decide_eq_true h9]; rfl
     clear h9 hl; go_wp2; refine bodyPost_ret (v := .tuple #[.slice none 0 0, .int .i64 5]) (by simp [results, Tryz.results189, go_sem]) rfl ?_
     exact ⟨_, by rw [HEE.out], by unfold Z5w; rw [if_neg (by rw [HEE.out]; decide)]; exact Own.nil_, Z08 hbk hbw3⟩
    ·have t1 : (4096 < T.length) = False := eq_false h9
     have t2 : (4096 < (T.length : Int)) = False := eq_false (by omega)
     have HEE : Hid (E = 0) := by unfold Hid; rw [HN.out.1, decide_eq_false h9]; rfl
     clear h9 hl; go_wp2; refine bodyPost_ret (v := .tuple #[.slice AO T.length cO, .int .i64 0]) (by simp [results, Tryz.results189, go_sem]) rfl ?_
     exact ⟨_, by rw [HEE.out], by unfold Z5w; rw [if_pos HEE.out]; exact hO.base_mono hbw3.size, Z08 hbk hbw3⟩
 ·have HS : Hid (Z5w (panE p) (netL p) = []) := by unfold Hid Z5w; rw [if_neg hE]
  have t0 : (panE p != 0) = true := by simp [hE]
  rw [Zff hE]; obtain ⟨E, hEE⟩ : ∃ E, panE p = E := ⟨_, rfl⟩
  rw [hEE] at hc t0 HS ⊢; obtain ⟨AL, cL, rfl, _, _, _⟩ := hL; obtain ⟨AR, cR, rfl, _, _, _⟩ := hR; unfold sV at hc ⊢; have hP := Blk.new w 97 #[.string ⟨p.1.toArray⟩, .int .i64 p.2.1, .slice AL p.2.2.1.length cL, .slice AR p.2.2.2.length cR]
  have fhP := hP.facts
  rw [HS.out]; clear hE hEE hnm; go_enter Tryz.func189, Tryz.ntmps189
  go_wp2_with fail; refine (hc _ (by (repeat first|exact J0|assumption|(apply J1;assumption)|apply J2|apply J3|apply J4))).mono ?_
  rintro e w2 ⟨rfl, hb2⟩; replace hP := hP.below (show Below _ _ w2 by (repeat first|exact J0|assumption|(apply J1;assumption)|apply J2|apply J3|apply J4))
  replace fhP := hP.facts
  go_wp2; refine bodyPost_ret (v := .tuple #[.slice none 0 0, .int .i64 E]) (by simp [results, Tryz.results189, go_sem]) rfl ?_
  exact ⟨_, rfl, Own.nil_, by (repeat first|exact J0|assumption|(apply J1;assumption)|apply J2|apply J3|apply J4)⟩
theorem Zfh {vL vR : Value} (p : Pan) (w : World) (hnm : p.1.length ≤ 1000000) (hL : SlE w vL p.2.2.1) (hR : SlE w vR p.2.2.2) :
  Calls Tryz.prog 130 #[.agg #[sV p.1, .int .i64 p.2.1, vL, vR]] w (RGE bc 3 111 w (Z5w (Zbm p) (netL p)) (Zbm p)) := by
 have hn := fun W (hb : Below w.heap.size w W) => Zfg p W hnm (hL.below hb) (hR.below hb)
 obtain ⟨E, hEE⟩ : ∃ E, Zbm p = E := ⟨_, rfl⟩
 rw [hEE] at hn ⊢
 obtain ⟨AL, cL, rfl, _, _, _⟩ := hL
 obtain ⟨AR, cR, rfl, _, _, _⟩ := hR
 unfold sV at hn ⊢
 have hP := Blk.new w 97 #[.string ⟨p.1.toArray⟩, .int .i64 p.2.1, .slice AL p.2.2.1.length cL, .slice AR p.2.2.2.length cR]
 have fhP := hP.facts
 clear hEE hnm
 go_enter Tryz.func130, Tryz.ntmps130
 go_wp2_with fail
 refine (hn _ (by (repeat first|exact J0|assumption|(apply J1;assumption)|apply J2|apply J3|apply J4))).mono ?_
 rintro e w2 ⟨v2, rfl, hO2, hb2⟩
 go_wp2
 refine bodyPost_ret (v := .tuple #[v2, .int .i64 E]) (by simp [results, Tryz.results130, go_sem]) rfl ?_
 exact ⟨_, rfl, hO2.base_mono (Below.size (by (repeat first|exact J0|assumption|(apply J1;assumption)|apply J2|apply J3|apply J4))), by (repeat first|exact J0|assumption|(apply J1;assumption)|apply J2|apply J3|apply J4)⟩
open Go.Sort Go.Shelf
section
variable {α : Type} {enc : α → List Value} {sz bytes : Nat} {P : Program} {t e : TypeId} {w : World}
theorem Zfi (E : Elem P t e sz bytes) (henc : ∀ x, (enc x).length = sz) (hone : ∀ x, ∀ u ∈ enc x, u.oneCell' = true) (ty : TypeId) {g : Nat} {cs : Array Value} (hB : Blk w g e cs) (k m mc : Nat) (u : Value) (r : List α) (ad : Addr) (hu : Sl enc sz w u r) (had : r ≠ [] → ad = ⟨g, k, none⟩) (hfit : k + r.length * sz ≤ cs.size) (hm : r.length ≤ m) :
  ∃ w', (Builtin.copy_ #[t, t] ty #[.slice (some ad) m mc, u]).run P w = .ok (goInt r.length) w' ∧ Blk w' g e (cs.toList.take k ++ r.flatMap enc ++ cs.toList.drop (k + r.length * sz)).toArray ∧ Chg [g] w w' := by
 obtain ⟨hund, hrow, hpos⟩ := E
 obtain ⟨i, hi, hrow⟩ : ∃ i, P.info? e = some i ∧ (i.zero.map (fun z => z.cells.size), i.size, i.bytes) = (some sz, sz, bytes) := by
  cases h : P.info? e with
  | none => rw [h] at hrow; cases hrow
  | some i => rw [h] at hrow; exact ⟨i, rfl, Option.some.inj hrow⟩
 have h2 := congrArg (fun x => x.2.1) hrow
 simp only at h2
 obtain ⟨A, c, rfl, hlc, hcm, hr⟩ := hu
 have hfl : (r.flatMap enc).length = r.length * sz := Zeh henc r
 have hmin : r.length.min m = r.length := Nat.min_eq_left hm
 by_cases hr0 : r = []
 ·subst hr0
  refine ⟨w, ?_, by simpa using hB, Chg.refl⟩
  cases A with
  | none => simp [Builtin.copy_, run_underlying hund, sizeOf, typeInfo, hi, Builtin.lenOf, Builtin.firstCells, storeCells]
  | some a =>
   have hl0 : (loadCells a 0).run P w = .ok #[] w := by simpa using run_loadCells_list (P := P) w a [] (fun j u h => by simp at h)
   simp [Builtin.copy_, run_underlying hund, sizeOf, typeInfo, hi, Builtin.lenOf, Builtin.firstCells, hl0, storeCells]
 ·obtain rfl := had hr0
  have h0 : 0 < r.length := by cases r with | nil => exact absurd rfl hr0 | cons => simp
  obtain ⟨b, off, rfl, _, _⟩ := hr 0 _ (List.getElem?_eq_getElem h0)
  have hsrc : ∀ j u, (r.flatMap enc)[j]? = some u → w.cell? ((⟨b, off, none⟩ : Addr).add j) = some u := by
   intro j u hj; have hjl : j < r.length * sz := by rw [← hfl]; exact (List.getElem?_eq_some_iff.1 hj).1
   have hk : j / sz < r.length := Nat.div_lt_of_lt_mul (by rw [Nat.mul_comm]; exact hjl)
   obtain ⟨b', off', he, hbl, hc⟩ := hr (j / sz) r[j / sz] (List.getElem?_eq_getElem hk)
   obtain ⟨rfl, rfl⟩ : b = b' ∧ off = off' := by simpa using he
   have hm' : j % sz < sz := Nat.mod_lt _ hpos
   have hj' := Zei henc r (j / sz) (j % sz) hm'
   have hdm : j / sz * sz + j % sz = j := by rw [Nat.mul_comm]; exact Nat.div_add_mod j sz
   rw [hdm, hj, List.getElem?_eq_getElem hk] at hj'
   have hcj := hc (j % sz) u (by simpa using hj'.symm)
   rw [Nat.add_assoc, hdm] at hcj; unfold Addr.add; split
   ·rename_i h0
    subst h0; exact hcj
   ·exact hcj
  have hl := run_loadCells_list (P := P) w ⟨b, off, none⟩ (r.flatMap enc) hsrc
  rw [hfl] at hl
  have h1 : ∀ u ∈ r.flatMap enc, u.oneCell' = true := by
   intro u hu; obtain ⟨x, hx, hux⟩ := List.mem_flatMap.1 hu
   exact hone x u hux
  have hst := run_storeCells_at P g k e (r.flatMap enc) 0 cs w hB (by rw [hfl]; omega) h1
  rw [Nat.add_zero, hfl] at hst; refine ⟨w.setRow g (cs.toList.take k ++ r.flatMap enc ++ cs.toList.drop (k + r.length * sz)).toArray, ?_, setRow_heap w g cs _ e _ hB, ?_⟩
  ·simp [Builtin.copy_, run_underlying hund, sizeOf, typeInfo, hi, h2, Builtin.lenOf, Builtin.firstCells, hmin, hl, hst]
  ·exact ⟨rfl, rfl, rfl, by simp [World.setRow], fun k' hk hne => setRow_other w g k' _ (fun e => hne (by simp [e]))⟩
end
theorem Zfj {v : Value} (l : List Edg) (w : World) (h : SlE w v l) (hlen : l.length ≤ 100000) : Calls Tryz.prog 240 #[v] w (RG ec 3 133 w l) := by
 obtain ⟨A, c, rfl, hlc, hcm, hr⟩ := h
 cases A with
 | none =>
  have hl : l = [] := by
   cases l with
   | nil => rfl
   | cons x r =>
    obtain ⟨b, off, he, _⟩ := hr 0 x rfl
    cases he
  subst hl; have heq : ∀ W, (binOp .eql 95 (.slice none 0 c) (.slice none 0 0)).run Tryz.prog W = .ok (.bool true) W := fun W => Lib.run_eql_slice_nil (P := Tryz.prog) W 95 133 none 0 c 0 0 Tryz.underlying95
  go_enter Tryz.func240, Tryz.ntmps240
  go_wp2; go_ret; exact ⟨_, rfl, Own.nil_, by (repeat first|exact J0|assumption|(apply J1;assumption)|apply J2|apply J3|apply J4)⟩
 | some a =>
  have h : SlE w (.slice (some a) l.length c) l := ⟨some a, c, rfl, hlc, hcm, hr⟩
  clear hr; have heq : ∀ W, (binOp .eql 95 (.slice (some a) l.length c) (.slice none 0 0)).run Tryz.prog W = .ok (.bool false) W := fun W => Lib.run_eql_slice_nil (P := Tryz.prog) W 95 133 (some a) l.length c 0 0 Tryz.underlying95
  go_enter Tryz.func240, Tryz.ntmps240
  go_wp2_with (at_builtin; refine Z3y rfl Z8o Z8i Z8l _ _ rfl w.heap.size _ _ [] l rfl rfl (Own.empty ec 3 w _) (h.alloc _) (by simp [maxLen]; omega) (by simp; omega) (by simp) ?_; intro v2 w2 hown2 hgr2)
  have hb2 : Below w.heap.size w w2 := Z09 hgr2 (Z04 Z03 _) fun k hk => ((Own.empty ec 3 w 133).lt k hk).1
  go_ret; exact ⟨_, rfl, by simpa using hown2, hb2⟩
def yc (c : UInt8) : List Value := [.int .u8 c.toNat]
theorem Zfk (c : UInt8) : (yc c).length = 1 := rfl
theorem Zfl (b : UInt8) : ∀ u ∈ yc b, u.oneCell' = true := by intro u hu; simp [yc] at hu; rcases hu with rfl; rfl
theorem Zfm {v : Value} {base : Nat} (l : List Edg) (w : World) (h : Own ec 3 base 133 w v l) (hlen : l.length ≤ 100000) :
  Calls Tryz.prog 241 #[v] w fun e w' => e = .returned (.tuple #[]) ∧ Own ec 3 base 133 w' v l.reverse ∧ w.grownBy w' v.ownBlock := by
 obtain ⟨A, c, rfl⟩ := h.shape
 cases A with
 | none =>
  have hl : l = [] := by
   obtain ⟨_, _, he, _, _, hr⟩ := h.rd Z8i
   cases l with
   | nil => rfl
   | cons x r =>
    obtain ⟨b, off, e, _⟩ := hr 0 x rfl
    rw [e] at he; simp at he
  subst hl; refine (AnyQ.slices_Reverse_empty (P := Tryz.prog) Z50 none c w).mono ?_
  rintro e w' ⟨rfl, rfl⟩
  exact ⟨rfl, h, World.grownBy.refl _ _⟩
 | some a =>
  have hg : ∃ g, a = ⟨g, 0, none⟩ := by
   rcases h.2 with ⟨hv, _⟩ | ⟨g, cap, cur, hv, _⟩
   ·cases hv
   ·exact ⟨g, by simpa using (Value.slice.inj hv).1⟩
  obtain ⟨g, rfl⟩ := hg; have hH := (Z55 Z8i h).1
  have hs := Z56 Z8i h (l' := l.reverse) (by simp)
  refine (AnyQ.slices_Reverse (P := Tryz.prog) Z50 3 (fun w => by kernel_rfl) (fun w => by kernel_rfl) ec Z8i Z8l g 0 c l.toArray w hH (by simp; omega)).mono ?_
  rintro e w' ⟨rfl, n, rfl⟩
  have hs2 := hs n #[]
  have e : sortWorldK ec 3 w g 0 n l.reverse.toArray #[] = putRowK ec 3 (Sort.ahead w n) g 0 l.toArray.reverse := by
   unfold sortWorldK grow; simp
  rw [e] at hs2; exact ⟨rfl, hs2.1, hs2.2⟩
theorem Zfn {α : Type} [Inhabited α] {f : α → Value} {enc : α → List Value} (hf : ∀ x, enc x = [f x]) (w : World) (g o : Nat) (d : Array α) : HoldsK enc 1 w g o d ↔ Holds f w g o d := by
 have hfl : flatK enc 1 d = d.map f := by
  apply Array.ext
  ·simp [flatK]
  ·intro i h1 h2
   have hi : i < d.size := by simpa using h2
   have := get_flatK enc 1 d i (by simpa using hi)
   rw [getElem!_pos _ i (by simpa [flatK] using hi)] at this
   rw [this]; simp [hf, Nat.mod_one, hi]
 unfold HoldsK
 rw [hfl]
 constructor
 ·intro h j hj
  have := h j (by simpa using hj)
  simp only [id_eq] at this; rw [getElem!_pos _ j (by simpa using hj)] at this
  rw [getElem!_pos d j hj]
  simpa using this
 ·intro h j hj
  have hj' : j < d.size := by simpa using hj
  have := h j hj'
  rw [getElem!_pos d j hj'] at this
  simp only [id_eq]; rw [getElem!_pos _ j hj]
  simpa using this
end Go.Proofs.YtpcgeihemkhkjaaGreatDoor

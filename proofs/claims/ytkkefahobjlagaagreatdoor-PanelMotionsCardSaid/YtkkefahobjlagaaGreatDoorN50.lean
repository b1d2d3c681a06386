/- Panels with the same letters; sizes of moved and cut panels, plain. Conditions: the panels are valid. -/
import Derived.Test.YtkkefahobjlagaaGreatDoorN49
import Derived.Test.YtkkefahobjlagaaGreatDoorN45
import Derived.Test.YtkkefahobjlagaaGreatDoorN47
import Derived.Test.YtkkefahobjlagaaGreatDoorN26
import Derived.Test.YtkkefahobjlagaaGreatDoorN42
import Derived.Test.YtkkefahobjlagaaGreatDoorN07
import Derived.Test.YtkkefahobjlagaaGreatDoorN25
import Derived.Test.YtkkefahobjlagaaGreatDoorN36
namespace Go.Proofs.YtkkefahobjlagaaGreatDoor
open Go.RowKit Go.ChangeMaps
set_option maxHeartbeats 4000000
set_option maxRecDepth 100000
theorem like_out {p q : Pan} (hw : q.2.1 = p.2.1) (hs : ∀ r, SameL (stpL (sideP q r)) (stpL (sideP p r))) (r : Bool) : outP q r = outP p r := by
 have e : fromP q r = fromP p r := by
  cases r
  ·rfl
  ·show ((2 * q.2.1, 0) : Knot) = (2 * p.2.1, 0)
   rw [hw]
 unfold outP
 rw [e]
 exact SameL.out (hs r)
theorem like_high {p q : Pan} (hs : ∀ r, SameL (stpL (sideP q r)) (stpL (sideP p r))) : heightP q = heightP p := SameL.rise (hs false)
theorem like_strips {p q : Pan} (hw : q.2.1 = p.2.1) (hs : ∀ r, SameL (stpL (sideP q r)) (stpL (sideP p r))) : strips q = strips p := by
 unfold strips
 rw [like_high hs, like_out hw hs, like_out hw hs]
theorem like_net {p q : Pan} (hw : q.2.1 = p.2.1) (hs : ∀ r, SameL (stpL (sideP q r)) (stpL (sideP p r))) : netL q = netL p := by
 unfold netL
 rw [like_strips hw hs]
theorem pln_net (p : Pan) : netL (p.1, p.2.1, plnL (stpL p.2.2.1), plnL (stpL p.2.2.2)) = netL p := like_net rfl fun r => by
 cases r
 ·exact pln_same _
 ·exact pln_same _
theorem Small.top {p : Pan} {n : Nat} (h : Small p n) (r : Bool) : -(16 + 2 * (n : Int)) ≤ topX p r ∧ topX p r ≤ 16 + 2 * (n : Int) := by
 refine h.near r (posK r (fromP p r) (stpL (sideP p r))) ?_
 unfold outP
 exact List.mem_of_getElem? (outK_last r _ _)
theorem Small.turn {p : Pan} (h : Small p 16) : (trnP p).2.1 ≤ 128 := by
 have h1 := h.top false
 have h2 := h.top true
 have := trn_wid h.ok
 omega
theorem map_len_le {f : Bar → Bar} {a b : List Bar} (ha : a.Nodup) (hf : ∀ x y, f x = f y → x = y) (h : ∀ x ∈ a, f x ∈ b) : a.length ≤ b.length := by
 have := length_le_of_sub (l := a.map f) (D := b) (nodup_map ha fun x _ y _ e => hf x y e) (fun x hx => by
  obtain ⟨c, hc, rfl⟩ := List.mem_map.1 hx
  exact h c hc)
 simpa using this
theorem mir_len {p : Pan} (h : panE p = 0) : (netL (mirP p)).length = (netL p).length := by
 refine Nat.le_antisymm ?_ ?_
 ·refine map_len_le (f := fun b => (2 * p.2.1 - b.1, b.2.1, -b.2.2)) (sortedB_nodup (netN_asc _ _)) (fun x y e => ?_) fun b hb => mir_bar (mir_err h) hb
  obtain ⟨a, b, c⟩ := x
  obtain ⟨a', b', c'⟩ := y
  simp only [Prod.mk.injEq] at e ⊢
  exact ⟨by omega, e.2.1, by omega⟩
 ·refine map_len_le (f := fun b => (2 * p.2.1 - b.1, b.2.1, -b.2.2)) (sortedB_nodup (netN_asc _ _)) (fun x y e => ?_) fun b hb => mir_bar h hb
  obtain ⟨a, b, c⟩ := x
  obtain ⟨a', b', c'⟩ := y
  simp only [Prod.mk.injEq] at e ⊢
  exact ⟨by omega, e.2.1, by omega⟩
theorem trn_len_le {p : Pan} (h : panE p = 0) (hw : (trnP p).2.1 ≤ 128) : (netL p).length ≤ (netL (trnP p)).length := by
 refine map_len_le (f := fun b => (topX p true - (b.1 + b.2.2), heightP p - (b.2.1 + 1), b.2.2)) (sortedB_nodup (netN_asc _ _)) (fun x y e => ?_) fun b hb => trn_bar h hw hb
 obtain ⟨a, b, c⟩ := x
 obtain ⟨a', b', c'⟩ := y
 simp only [Prod.mk.injEq] at e ⊢
 exact ⟨by omega, by omega, e.2.2⟩
theorem trn_len {p : Pan} (h : panE p = 0) (hw : (trnP p).2.1 ≤ 128) : (netL (trnP p)).length = (netL p).length := by
 have ok := panE_zero h
 refine Nat.le_antisymm ?_ (trn_len_le h hw)
 have := trn_len_le (trn_err h hw) (by rw [trn_trn ok]; exact ok.wid.2)
 rwa [trn_trn ok] at this
theorem Small.motions {p : Pan} (hs : Small p 16) (h : panE p = 0) : netE (netL p) = 0 ∧ netE (netL (mirP p)) = 0 ∧ netE (netL (trnP p)) = 0 ∧ (mirN (netL p)).map (shB (2 * p.2.1, 0)) = netL (mirP p) ∧ (turnN 2 (netL p)).map (shB (topX p true, heightP p)) = netL (trnP p) := by
 have hl := hs.few
 have e1 := netL_netE hs.ok hl
 have e2 := netL_netE (panE_zero (mir_err h)) (by rw [mir_len h]; exact hl)
 have e3 := netL_netE (panE_zero (trn_err h hs.turn)) (by rw [trn_len h hs.turn]; exact hl)
 exact ⟨e1, e2, e3, mir_net h e1 e2, trn_net h hs.turn e1 e3⟩
end Go.Proofs.YtkkefahobjlagaaGreatDoor
namespace Go.Proofs.YtkkefahobjlagaaGreatDoor
open Go.RowKit Go.ChangeMaps
set_option maxHeartbeats 4000000
set_option maxRecDepth 100000
attribute [local go_sem] Oper.semAt_some
theorem eqneK_any {v u : Value} (l r : List Knot) (w : World) (h : SlK w v l) (h' : SlK w u r) : Calls Tryz.prog 82 #[v, u] w (RV w (.bool (decide (l = r)))) := by
 obtain ⟨A, c, rfl, hlc, hcm, h⟩ := h
 obtain ⟨A', c', rfl, hlc', hcm', h'⟩ := h'
 have hl : l.length ≤ maxLen := Nat.le_trans hlc hcm
 have hl' : r.length ≤ maxLen := Nat.le_trans hlc' hcm'
 unfold maxLen at hl hl'
 by_cases hlen : l.length = r.length
 ·have he2 : ((l.length : Int) != (r.length : Int)) = false := by simp [hlen]
  go_enter Tryz.func82, Tryz.ntmps82
  go_wp2
  go_loopw [13, 5] (fun i j wr => ∃ k : Nat, k ≤ l.length ∧ i = .int .i64 k ∧ Hid (decide (l = r) = decide (l.drop k = r.drop k)) ∧ Below w.heap.size w wr) (fun i _ _ => l.length - (intOf i).toNat)
  case atStart => exact ⟨0, Nat.zero_le _, rfl, by simp [Hid], by (repeat first|exact J0|assumption|(apply J1;assumption)|apply J2|apply J3|apply J4)⟩
  case round =>
   obtain ⟨k, hk, rfl, H, hbw⟩ := hrel
   by_cases hlt : k < l.length
   ·have hr := h.below hbw
    have hr' := h'.below hbw
    obtain ⟨b, off, rfl, hb, e0, e1⟩ := hr.knot hlt
    obtain ⟨b', off', rfl, hb', e0', e1'⟩ := hr'.knot (hlen ▸ hlt)
    have HD := Lib.hid (same_drop hlen hlt)
    have hlt' : k < r.length := hlen ▸ hlt
    obtain ⟨g, hg⟩ : ∃ g, beqK l[k].1 l[k].2 r[k].1 r[k].2 = g := ⟨_, rfl⟩
    have hg' : decide (l[k] = r[k]) = g := hg
    cases g
    ·go_wp2
     refine wp_region_ords [0, 1, 2, 3, 4, 5, 6, 7, 8] [] [] (by kernel_rfl) (by kernel_rfl) (fun d _ _ _ _ h => by cases d <;> exact h) ?_
     simp only [List.map_cons, List.map_nil, List.getD_cons_zero, List.getD_cons_succ]
     repeat (go_big_quiet_step (fail))
     refine wpQuiet_nil ?_
     refine wpMid_nil ?_
     go_wp2
     go_ret
     exact ⟨ret_bool (by rw [H.out, HD.out, hg']; rfl), by (repeat first|exact J0|assumption|(apply J1;assumption)|apply J2|apply J3|apply J4)⟩
    ·go_wp2
     refine wp_region_ords [0, 1, 2, 3, 4, 5, 6, 7, 8] [] [] (by kernel_rfl) (by kernel_rfl) (fun d _ _ _ _ h => by cases d <;> exact h) ?_
     simp only [List.map_cons, List.map_nil, List.getD_cons_zero, List.getD_cons_succ]
     repeat (go_big_quiet_step (fail))
     refine wpQuiet_nil ?_
     refine wpMid_nil ?_
     go_wp2
     go_roundw
     case rel => exact ⟨k + 1, by omega, by go_num, by rw [H.out, HD.out, hg']; rfl, by (repeat first|exact J0|assumption|(apply J1;assumption)|apply J2|apply J3|apply J4)⟩
     case measure => simp [intOf]; omega
   ·have hkl : k = l.length := by omega
    go_wp2
    go_ret
    refine ⟨ret_bool ?_, by (repeat first|exact J0|assumption|(apply J1;assumption)|apply J2|apply J3|apply J4)⟩
    rw [H.out, hkl, List.drop_length, hlen, List.drop_length]; rfl
 ·have he2 : ((l.length : Int) != (r.length : Int)) = true := by simp; omega
  have hd : Hid (decide (l = r) = false) := by simp [Hid]; rintro rfl; exact hlen rfl
  go_enter Tryz.func82, Tryz.ntmps82
  go_wp2
  go_ret
  exact ⟨ret_bool hd.out.symm, by (repeat first|exact J0|assumption|(apply J1;assumption)|apply J2|apply J3|apply J4)⟩
def samQ (p o : Pan) : Bool := decide (outP p false = outP o false) && decide (outP p true = outP o true)
theorem apiSame_any {vL vR uL uR : Value} (p o : Pan) (w : World) (hna : p.1.length ≤ 1000000) (hnb : o.1.length ≤ 1000000) (hL : SlE w vL p.2.2.1) (hR : SlE w vR p.2.2.2) (kL : SlE w uL o.2.2.1) (kR : SlE w uR o.2.2.2) :
  Calls Tryz.prog 20 #[.agg #[sV p.1, .int .i64 p.2.1, vL, vR], .agg #[sV o.1, .int .i64 o.2.1, uL, uR]] w (RV w (.tuple #[.bool (decide (twoP p o = 0) && samQ p o), .int .i64 (twoP p o)])) := by
 have hc := fun W (hb : Below w.heap.size w W) => checkPanel_any p W hna (hL.below hb) (hR.below hb)
 have hd := fun W (hb : Below w.heap.size w W) => checkPanel_any o W hnb (kL.below hb) (kR.below hb)
 have hf2 : ∀ A c' W, Rd ic 1 W A [panE p, panE o] → Calls Tryz.prog 72 #[.slice A 2 c'] W (RV W (.int .i64 (twoP p o))) := fun A c' W hr => pfirst_any [panE p, panE o] A c' W (by simp [maxLen]) hr
 by_cases hE : twoP p o = 0
 ·obtain ⟨hz1, hz2⟩ := twoP_zero hE
  have hok := panE_zero hz1
  have hoq := panE_zero hz2
  have oa := fun W (hb : Below w.heap.size w W) => outline_any p false W (hL.below hb) (hR.below hb) ⟨by have := hok.wid.1; omega, by have := hok.wid.2; omega⟩ (hok.side false)
  have ob := fun W (hb : Below w.heap.size w W) => outline_any o false W (kL.below hb) (kR.below hb) ⟨by have := hoq.wid.1; omega, by have := hoq.wid.2; omega⟩ (hoq.side false)
  have oc := fun W (hb : Below w.heap.size w W) => outline_any p true W (hL.below hb) (hR.below hb) ⟨by have := hok.wid.1; omega, by have := hok.wid.2; omega⟩ (hok.side true)
  have od := fun W (hb : Below w.heap.size w W) => outline_any o true W (kL.below hb) (kR.below hb) ⟨by have := hoq.wid.1; omega, by have := hoq.wid.2; omega⟩ (hoq.side true)
  have HS : Hid (samQ p o = (decide (outP p false = outP o false) && decide (outP p true = outP o true))) := rfl
  have eq1 := fun a b W h1 h2 => eqneK_any (v := a) (u := b) (outP p false) (outP o false) W h1 h2
  have eq2 := fun a b W h1 h2 => eqneK_any (v := a) (u := b) (outP p true) (outP o true) W h1 h2
  obtain ⟨n1, hn1⟩ : ∃ b, decide (outP p false = outP o false) = b := ⟨_, rfl⟩
  obtain ⟨n2, hn2⟩ : ∃ b, decide (outP p true = outP o true) = b := ⟨_, rfl⟩
  rw [hn1] at eq1 HS
  rw [hn2] at eq2 HS
  have HB : Hid ((decide (twoP p o = 0) && samQ p o) = samQ p o) := by unfold Hid; rw [hE]; simp
  rw [HB.out]
  rw [hE] at hf2 ⊢
  obtain ⟨E1, hE1⟩ : ∃ E, panE p = E := ⟨_, rfl⟩
  rw [hE1] at hc hf2
  obtain ⟨E2, hE2⟩ : ∃ E, panE o = E := ⟨_, rfl⟩
  rw [hE2] at hd hf2
  obtain ⟨AL, cL, rfl, _, _, _⟩ := hL
  obtain ⟨AR, cR, rfl, _, _, _⟩ := hR
  obtain ⟨BL, dL, rfl, _, _, _⟩ := kL
  obtain ⟨BR, dR, rfl, _, _, _⟩ := kR
  simp only [sV] at oa ob oc od hc hd ⊢
  have hP := (Blk.new w 30 #[.string ⟨p.1.toArray⟩, .int .i64 p.2.1, .slice AL p.2.2.1.length cL, .slice AR p.2.2.2.length cR]).alloc (.cells #[.string ⟨o.1.toArray⟩, .int .i64 o.2.1, .slice BL o.2.2.1.length dL, .slice BR o.2.2.2.length dR] 30)
  have hQ := Blk.new1 w (.cells #[.string ⟨p.1.toArray⟩, .int .i64 p.2.1, .slice AL p.2.2.1.length cL, .slice AR p.2.2.2.length cR] 30) 30 #[.string ⟨o.1.toArray⟩, .int .i64 o.2.1, .slice BL o.2.2.1.length dL, .slice BR o.2.2.2.length dR]
  clear hn1 hn2 hok hoq hE hE1 hE2 hz1 hz2 HB hna hnb
  go_enter Tryz.func20, Tryz.ntmps20
  go_upto_region 1 with fail
  obtain ⟨w0, hw0⟩ : ∃ X, (w.alloc (.cells #[.string ⟨p.1.toArray⟩, .int .i64 p.2.1, .slice AL p.2.2.1.length cL, .slice AR p.2.2.2.length cR] 30)).alloc (.cells #[.string ⟨o.1.toArray⟩, .int .i64 o.2.1, .slice BL o.2.2.1.length dL, .slice BR o.2.2.2.length dR] 30) = X := ⟨_, rfl⟩
  have hbw0 : Below w.heap.size w w0 := by rw [← hw0]; exact bl_alloc (bl_alloc bl_refl _) _
  rw [hw0] at hP hQ ⊢
  clear hw0
  have fhP := hP.facts
  have fhQ := hQ.facts
  refine wp_region_ords [0, 2] [(1, false)] [3, 4, 5, 6] (by kernel_rfl) (by kernel_rfl) (fun d _ _ _ _ h => by cases d <;> exact h) ?_
  simp only [List.map_cons, List.map_nil, List.getD_cons_zero, List.getD_cons_succ]
  repeat (go_big_quiet_step (fail))
  refine wpQuiet_nil ?_
  refine wpMid_run rfl (fun K hK => ?_)
  go_simp
  refine (hc _ (by (repeat first|exact J0|assumption|(apply J1;assumption)|apply J2|apply J3|apply J4))).mono ?_
  rintro e w2 ⟨rfl, hb2⟩
  refine hK _ _ (by (repeat first|exact J0|assumption|(apply J1;assumption)|apply J2|apply J3|apply J4)) ?_
  clear hK K
  have hP_w2 := hP.below (show Below _ _ w2 by (repeat first|exact J0|assumption|(apply J1;assumption)|apply J2|apply J3|apply J4))
  have fhP_w2 := hP_w2.facts
  have hQ_w2 := hQ.below (show Below _ _ w2 by (repeat first|exact J0|assumption|(apply J1;assumption)|apply J2|apply J3|apply J4))
  have fhQ_w2 := hQ_w2.facts
  refine wpMid_nil ?_
  go_wp2_with (go_at_call 61; refine (hd _ (by (repeat first|exact J0|assumption|(apply J1;assumption)|apply J2|apply J3|apply J4))).mono ?_; rintro e w3 ⟨rfl, hb3⟩)
  go_must (refine (hf2 _ _ _ (Rd.ints2 (by simp) (by go_simp) (by go_simp))).mono ?_)
  rintro e w1 ⟨rfl, hb4⟩
  have hb14 : Below w0.heap.size w0 w1 := by (repeat first|exact J0|assumption|(apply J1;assumption)|apply J2|apply J3|apply J4)
  replace hP := hP.below hb14
  replace hQ := hQ.below hb14
  have hbw1 : Below w.heap.size w w1 := bl_then hb14 hbw0
  replace fhP := hP.facts
  replace fhQ := hQ.facts
  clear hc hd hf2 hb14 hb2 hb3 hb4 hbw0 hP_w2 hQ_w2 fhP_w2 fhQ_w2
  go_upto_region 4 with fail
  cases n1
  ·have HF : Hid (samQ p o = false) := by unfold Hid; rw [HS.out]; rfl
   clear HS
   refine wp_region_ords [0, 2] [(1, false), (3, false), (4, false), (5, false), (6, true), (8, true), (7, false)] [9, 10, 11, 12, 13] (by kernel_rfl) (by kernel_rfl) (fun d _ _ _ _ h => by cases d <;> exact h) ?_
   simp only [List.map_cons, List.map_nil, List.getD_cons_zero, List.getD_cons_succ]
   repeat (go_big_quiet_step (fail))
   refine wpQuiet_nil ?_
   refine wpMid_run rfl (fun K hK => ?_)
   go_simp
   refine (oa _ (by (repeat first|exact J0|assumption|(apply J1;assumption)|apply J2|apply J3|apply J4))).mono ?_
   rintro e w2 ⟨v2, rfl, hO2, hb2⟩
   refine hK _ _ (by (repeat first|exact J0|assumption|(apply J1;assumption)|apply J2|apply J3|apply J4)) ?_
   clear hK K
   have hP_w2 := hP.below (show Below _ _ w2 by (repeat first|exact J0|assumption|(apply J1;assumption)|apply J2|apply J3|apply J4))
   have fhP_w2 := hP_w2.facts
   have hQ_w2 := hQ.below (show Below _ _ w2 by (repeat first|exact J0|assumption|(apply J1;assumption)|apply J2|apply J3|apply J4))
   have fhQ_w2 := hQ_w2.facts
   refine wpMid_run rfl (fun K hK => ?_)
   go_simp
   refine (ob _ (by (repeat first|exact J0|assumption|(apply J1;assumption)|apply J2|apply J3|apply J4))).mono ?_
   rintro e w3 ⟨v3, rfl, hO3, hb3⟩
   refine hK _ _ (by (repeat first|exact J0|assumption|(apply J1;assumption)|apply J2|apply J3|apply J4)) ?_
   clear hK K
   have hP_w3 := hP.below (show Below _ _ w3 by (repeat first|exact J0|assumption|(apply J1;assumption)|apply J2|apply J3|apply J4))
   have fhP_w3 := hP_w3.facts
   have hQ_w3 := hQ.below (show Below _ _ w3 by (repeat first|exact J0|assumption|(apply J1;assumption)|apply J2|apply J3|apply J4))
   have fhQ_w3 := hQ_w3.facts
   refine wpMid_run rfl (fun K hK => ?_)
   go_simp
   refine (eq1 _ _ _ ((hO2.rd kc_len).below (by (repeat first|exact J0|assumption|(apply J1;assumption)|apply J2|apply J3|apply J4))) (hO3.rd kc_len)).mono ?_
   rintro e w4 ⟨rfl, hb4⟩
   refine hK _ _ (by (repeat first|exact J0|assumption|(apply J1;assumption)|apply J2|apply J3|apply J4)) ?_
   clear hK K
   have hP_w4 := hP.below (show Below _ _ w4 by (repeat first|exact J0|assumption|(apply J1;assumption)|apply J2|apply J3|apply J4))
   have fhP_w4 := hP_w4.facts
   have hQ_w4 := hQ.below (show Below _ _ w4 by (repeat first|exact J0|assumption|(apply J1;assumption)|apply J2|apply J3|apply J4))
   have fhQ_w4 := hQ_w4.facts
   refine wpMid_run rfl (fun K hK => ?_)
   go_simp
   refine hK _ _ (by (repeat first|exact J0|assumption|(apply J1;assumption)|apply J2|apply J3|apply J4)) ?_
   clear hK K
   refine wpMid_skipT (by kernel_rfl) ?_
   intro K hK
   simp only [Act.put, List.setIfInBounds_toArray, List.set_cons_zero, List.set_cons_succ]
   refine hK _ ?_
   clear hK K
   refine wpMid_skipT (by kernel_rfl) ?_
   intro K hK
   simp only [Act.put, List.setIfInBounds_toArray, List.set_cons_zero, List.set_cons_succ]
   refine hK _ ?_
   clear hK K
   refine wpMid_skipF (by kernel_rfl) ?_
   intro K hK
   simp only [Act.put, List.setIfInBounds_toArray, List.set_cons_zero, List.set_cons_succ]
   refine hK _ ?_
   clear hK K
   refine wpMid_nil ?_
   go_wp2
   go_ret2
   exact ⟨by rw [HF.out]; rfl, bl_then (show Below w1.heap.size w1 w4 by (repeat first|exact J0|assumption|(apply J1;assumption)|apply J2|apply J3|apply J4)) hbw1⟩
  ·have HF : Hid (samQ p o = n2) := by unfold Hid; rw [HS.out]; simp
   clear HS
   refine wp_region_ords [0, 2] [(1, false), (3, false), (4, false), (5, false), (6, true), (8, true), (7, false)] [9, 10, 11, 12, 13] (by kernel_rfl) (by kernel_rfl) (fun d _ _ _ _ h => by cases d <;> exact h) ?_
   simp only [List.map_cons, List.map_nil, List.getD_cons_zero, List.getD_cons_succ]
   repeat (go_big_quiet_step (fail))
   refine wpQuiet_nil ?_
   refine wpMid_run rfl (fun K hK => ?_)
   go_simp
   refine (oa _ (by (repeat first|exact J0|assumption|(apply J1;assumption)|apply J2|apply J3|apply J4))).mono ?_
   rintro e w2 ⟨v2, rfl, hO2, hb2⟩
   refine hK _ _ (by (repeat first|exact J0|assumption|(apply J1;assumption)|apply J2|apply J3|apply J4)) ?_
   clear hK K
   have hP_w2 := hP.below (show Below _ _ w2 by (repeat first|exact J0|assumption|(apply J1;assumption)|apply J2|apply J3|apply J4))
   have fhP_w2 := hP_w2.facts
   have hQ_w2 := hQ.below (show Below _ _ w2 by (repeat first|exact J0|assumption|(apply J1;assumption)|apply J2|apply J3|apply J4))
   have fhQ_w2 := hQ_w2.facts
   refine wpMid_run rfl (fun K hK => ?_)
   go_simp
   refine (ob _ (by (repeat first|exact J0|assumption|(apply J1;assumption)|apply J2|apply J3|apply J4))).mono ?_
   rintro e w3 ⟨v3, rfl, hO3, hb3⟩
   refine hK _ _ (by (repeat first|exact J0|assumption|(apply J1;assumption)|apply J2|apply J3|apply J4)) ?_
   clear hK K
   have hP_w3 := hP.below (show Below _ _ w3 by (repeat first|exact J0|assumption|(apply J1;assumption)|apply J2|apply J3|apply J4))
   have fhP_w3 := hP_w3.facts
   have hQ_w3 := hQ.below (show Below _ _ w3 by (repeat first|exact J0|assumption|(apply J1;assumption)|apply J2|apply J3|apply J4))
   have fhQ_w3 := hQ_w3.facts
   refine wpMid_run rfl (fun K hK => ?_)
   go_simp
   refine (eq1 _ _ _ ((hO2.rd kc_len).below (by (repeat first|exact J0|assumption|(apply J1;assumption)|apply J2|apply J3|apply J4))) (hO3.rd kc_len)).mono ?_
   rintro e w4 ⟨rfl, hb4⟩
   refine hK _ _ (by (repeat first|exact J0|assumption|(apply J1;assumption)|apply J2|apply J3|apply J4)) ?_
   clear hK K
   have hP_w4 := hP.below (show Below _ _ w4 by (repeat first|exact J0|assumption|(apply J1;assumption)|apply J2|apply J3|apply J4))
   have fhP_w4 := hP_w4.facts
   have hQ_w4 := hQ.below (show Below _ _ w4 by (repeat first|exact J0|assumption|(apply J1;assumption)|apply J2|apply J3|apply J4))
   have fhQ_w4 := hQ_w4.facts
   refine wpMid_run rfl (fun K hK => ?_)
   go_simp
   refine hK _ _ (by (repeat first|exact J0|assumption|(apply J1;assumption)|apply J2|apply J3|apply J4)) ?_
   clear hK K
   refine wpMid_take rfl ?_
   intro K hK
   go_big_quiet_op
   go_big_quiet_on
   refine wpMid_take rfl ?_
   intro K hK
   go_big_quiet_op
   go_big_quiet_on
   refine wpMid_run rfl (fun K hK => ?_)
   go_simp
   refine (oc _ (by (repeat first|exact J0|assumption|(apply J1;assumption)|apply J2|apply J3|apply J4))).mono ?_
   rintro e w5 ⟨v5, rfl, hO5, hb5⟩
   refine hK _ _ (by (repeat first|exact J0|assumption|(apply J1;assumption)|apply J2|apply J3|apply J4)) ?_
   clear hK K
   have hP_w5 := hP.below (show Below _ _ w5 by (repeat first|exact J0|assumption|(apply J1;assumption)|apply J2|apply J3|apply J4))
   have fhP_w5 := hP_w5.facts
   have hQ_w5 := hQ.below (show Below _ _ w5 by (repeat first|exact J0|assumption|(apply J1;assumption)|apply J2|apply J3|apply J4))
   have fhQ_w5 := hQ_w5.facts
   refine wpMid_nil ?_
   go_wp2_with fail
   refine (od _ (bl_then (show Below w1.heap.size w1 w5 by (repeat first|exact J0|assumption|(apply J1;assumption)|apply J2|apply J3|apply J4)) hbw1)).mono ?_
   rintro e w6 ⟨v6, rfl, hO6, hb6⟩
   go_wp2_with fail
   refine (eq2 _ _ _ ((hO5.rd kc_len).below (by (repeat first|exact J0|assumption|(apply J1;assumption)|apply J2|apply J3|apply J4))) (hO6.rd kc_len)).mono ?_
   rintro e w7 ⟨rfl, hb7⟩
   go_wp2
   go_ret2
   exact ⟨by rw [HF.out]; rfl, bl_then (show Below w1.heap.size w1 w7 by (repeat first|exact J0|assumption|(apply J1;assumption)|apply J2|apply J3|apply J4)) hbw1⟩
 ·have HB : Hid ((decide (twoP p o = 0) && samQ p o) = false) := by unfold Hid; rw [decide_eq_false hE]; rfl
  rw [HB.out]
  have t0 : (twoP p o != 0) = true := by simp [hE]
  obtain ⟨E, hEE⟩ : ∃ E, twoP p o = E := ⟨_, rfl⟩
  rw [hEE] at hf2 t0 ⊢
  obtain ⟨E1, hE1⟩ : ∃ E, panE p = E := ⟨_, rfl⟩
  rw [hE1] at hc hf2
  obtain ⟨E2, hE2⟩ : ∃ E, panE o = E := ⟨_, rfl⟩
  rw [hE2] at hd hf2
  obtain ⟨AL, cL, rfl, _, _, _⟩ := hL
  obtain ⟨AR, cR, rfl, _, _, _⟩ := hR
  obtain ⟨BL, dL, rfl, _, _, _⟩ := kL
  obtain ⟨BR, dR, rfl, _, _, _⟩ := kR
  simp only [sV] at hc hd ⊢
  have hP := (Blk.new w 30 #[.string ⟨p.1.toArray⟩, .int .i64 p.2.1, .slice AL p.2.2.1.length cL, .slice AR p.2.2.2.length cR]).alloc (.cells #[.string ⟨o.1.toArray⟩, .int .i64 o.2.1, .slice BL o.2.2.1.length dL, .slice BR o.2.2.2.length dR] 30)
  have hQ := Blk.new1 w (.cells #[.string ⟨p.1.toArray⟩, .int .i64 p.2.1, .slice AL p.2.2.1.length cL, .slice AR p.2.2.2.length cR] 30) 30 #[.string ⟨o.1.toArray⟩, .int .i64 o.2.1, .slice BL o.2.2.1.length dL, .slice BR o.2.2.2.length dR]
  clear hE hEE hE1 hE2 HB hna hnb
  go_enter Tryz.func20, Tryz.ntmps20
  go_upto_region 1 with fail
  obtain ⟨w0, hw0⟩ : ∃ X, (w.alloc (.cells #[.string ⟨p.1.toArray⟩, .int .i64 p.2.1, .slice AL p.2.2.1.length cL, .slice AR p.2.2.2.length cR] 30)).alloc (.cells #[.string ⟨o.1.toArray⟩, .int .i64 o.2.1, .slice BL o.2.2.1.length dL, .slice BR o.2.2.2.length dR] 30) = X := ⟨_, rfl⟩
  have hbw0 : Below w.heap.size w w0 := by rw [← hw0]; exact bl_alloc (bl_alloc bl_refl _) _
  rw [hw0] at hP hQ ⊢
  clear hw0
  have fhP := hP.facts
  have fhQ := hQ.facts
  refine wp_region_ords [0, 2] [(1, false)] [3, 4, 5, 6] (by kernel_rfl) (by kernel_rfl) (fun d _ _ _ _ h => by cases d <;> exact h) ?_
  simp only [List.map_cons, List.map_nil, List.getD_cons_zero, List.getD_cons_succ]
  repeat (go_big_quiet_step (fail))
  refine wpQuiet_nil ?_
  refine wpMid_run rfl (fun K hK => ?_)
  go_simp
  refine (hc _ (by (repeat first|exact J0|assumption|(apply J1;assumption)|apply J2|apply J3|apply J4))).mono ?_
  rintro e w2 ⟨rfl, hb2⟩
  refine hK _ _ (by (repeat first|exact J0|assumption|(apply J1;assumption)|apply J2|apply J3|apply J4)) ?_
  clear hK K
  have hP_w2 := hP.below (show Below _ _ w2 by (repeat first|exact J0|assumption|(apply J1;assumption)|apply J2|apply J3|apply J4))
  have fhP_w2 := hP_w2.facts
  have hQ_w2 := hQ.below (show Below _ _ w2 by (repeat first|exact J0|assumption|(apply J1;assumption)|apply J2|apply J3|apply J4))
  have fhQ_w2 := hQ_w2.facts
  refine wpMid_nil ?_
  go_wp2_with (go_at_call 61; refine (hd _ (by (repeat first|exact J0|assumption|(apply J1;assumption)|apply J2|apply J3|apply J4))).mono ?_; rintro e w3 ⟨rfl, hb3⟩)
  go_must (refine (hf2 _ _ _ (Rd.ints2 (by simp) (by go_simp) (by go_simp))).mono ?_)
  rintro e w1 ⟨rfl, hb4⟩
  have hb14 : Below w0.heap.size w0 w1 := by (repeat first|exact J0|assumption|(apply J1;assumption)|apply J2|apply J3|apply J4)
  replace hP := hP.below hb14
  replace hQ := hQ.below hb14
  have hbw1 : Below w.heap.size w w1 := bl_then hb14 hbw0
  replace fhP := hP.facts
  replace fhQ := hQ.facts
  clear hc hd hf2 hb14 hb2 hb3 hb4 hbw0 hP_w2 hQ_w2 fhP_w2 fhQ_w2
  go_wp2
  go_ret2
  exact ⟨rfl, hbw1⟩
def mirQ (p : Pan) : Pan := (p.1, p.2.1, p.2.2.2, p.2.2.1)
theorem apiMirror_any {vL vR : Value} (p : Pan) (w : World) (hnm : p.1.length ≤ 1000000) (hL : SlE w vL p.2.2.1) (hR : SlE w vR p.2.2.2) :
    Calls Tryz.prog 25 #[.agg #[sV p.1, .int .i64 p.2.1, vL, vR]] w (RPN w (pcR (panE p) (mirQ p)) (pcE (panE p) (mirQ p))) := by
  have hc := fun W (hb : Below w.heap.size w W) => checkPanel_any p W hnm (hL.below hb) (hR.below hb)
  by_cases hE : panE p = 0
  · have hok := panE_zero hE
    have ll := hok.left.few
    have lr := hok.right.few
    have cl := fun W (hb : Below w.heap.size w W) => cloneE_any p.2.2.2 W (hR.below hb) (by omega)
    have cr := fun W (hb : Below w.heap.size w W) => cloneE_any p.2.2.1 W (hL.below hb) (by omega)
    have HQ : Hid (pcR (panE p) (mirQ p) = pcR 0 (mirQ p) ∧ pcE (panE p) (mirQ p) = panE (mirQ p)) := by unfold Hid; rw [hE]; exact ⟨rfl, by unfold pcE; rw [if_neg (by simp)]⟩
    rw [HQ.out.1, HQ.out.2]
    have hch := fun W vl vr hl hr => checked_any (vL := vl) (vR := vr) (mirQ p) W hnm hl hr
    rw [hE] at hc
    obtain ⟨AL, cL, rfl, _, _, _⟩ := hL
    obtain ⟨AR, cR, rfl, _, _, _⟩ := hR
    have HCH := Lib.hid hch
    obtain ⟨EQ, hEQ⟩ : ∃ E, panE (mirQ p) = E := ⟨_, rfl⟩
    rw [hEQ] at HCH ⊢
    have hs : sV p.1 = .string ⟨p.1.toArray⟩ := rfl
    rw [hs] at hc
    rw [hs]
    have hP := (Blk.new w 30 #[.string ⟨p.1.toArray⟩, .int .i64 p.2.1, .slice AL p.2.2.1.length cL, .slice AR p.2.2.2.length cR]).alloc (.cells zeroPV 30)
    have hZ := Blk.new1 w (.cells #[.string ⟨p.1.toArray⟩, .int .i64 p.2.1, .slice AL p.2.2.1.length cL, .slice AR p.2.2.2.length cR] 30) 30 zeroPV
    unfold zeroPV at hP hZ
    have fhP := hP.facts
    have fhZ := hZ.facts
    clear hE hEQ hnm hch hs HQ
    go_enter Tryz.func25, Tryz.ntmps25
    go_wp2_with fail
    refine (hc _ (by (repeat first|exact J0|assumption|(apply J1;assumption)|apply J2|apply J3|apply J4))).mono ?_
    rintro e w4 ⟨rfl, hb2⟩
    replace hP := hP.below (show Below _ _ w4 by (repeat first|exact J0|assumption|(apply J1;assumption)|apply J2|apply J3|apply J4))
    replace fhP := hP.facts
    replace hZ := hZ.below (show Below _ _ w4 by (repeat first|exact J0|assumption|(apply J1;assumption)|apply J2|apply J3|apply J4))
    replace fhZ := hZ.facts
    have hbw4 : Below w.heap.size w w4 := by (repeat first|exact J0|assumption|(apply J1;assumption)|apply J2|apply J3|apply J4)
    clear hc hb2
    go_upto_region 4 with fail
    refine wp_region_ords [0, 1, 2, 3, 4, 5, 7, 8] [(6, false), (9, false), (10, false), (11, false), (12, true), (13, false)] [14, 15] (by kernel_rfl) (by kernel_rfl) (fun d _ _ _ _ h => by cases d <;> exact h) ?_
    simp only [List.map_cons, List.map_nil, List.getD_cons_zero, List.getD_cons_succ]
    repeat (go_big_quiet_step (fail))
    refine wpQuiet_nil ?_
    refine wpMid_run rfl (fun K hK => ?_)
    go_simp
    refine (cl _ (by (repeat first|exact J0|assumption|(apply J1;assumption)|apply J2|apply J3|apply J4))).mono ?_
    rintro e w5 ⟨v5, rfl, hO5, hb5⟩
    refine hK _ _ (by (repeat first|exact J0|assumption|(apply J1;assumption)|apply J2|apply J3|apply J4)) ?_
    clear hK K
    have hP_w5 := hP.below (show Below _ _ w5 by (repeat first|exact J0|assumption|(apply J1;assumption)|apply J2|apply J3|apply J4))
    have fhP_w5 := hP_w5.facts
    have hZ_w5 := hZ.below (show Below _ _ w5 by (repeat first|exact J0|assumption|(apply J1;assumption)|apply J2|apply J3|apply J4))
    have fhZ_w5 := hZ_w5.facts
    obtain ⟨A5, c5, rfl⟩ := hO5.shape
    refine wpMid_run rfl (fun K hK => ?_)
    go_simp
    refine (cr _ (by (repeat first|exact J0|assumption|(apply J1;assumption)|apply J2|apply J3|apply J4))).mono ?_
    rintro e w6 ⟨v6, rfl, hO6, hb6⟩
    refine hK _ _ (by (repeat first|exact J0|assumption|(apply J1;assumption)|apply J2|apply J3|apply J4)) ?_
    clear hK K
    have hP_w6 := hP.below (show Below _ _ w6 by (repeat first|exact J0|assumption|(apply J1;assumption)|apply J2|apply J3|apply J4))
    have fhP_w6 := hP_w6.facts
    have hZ_w6 := hZ.below (show Below _ _ w6 by (repeat first|exact J0|assumption|(apply J1;assumption)|apply J2|apply J3|apply J4))
    have fhZ_w6 := hZ_w6.facts
    obtain ⟨A6, c6, rfl⟩ := hO6.shape
    refine wpMid_run rfl (fun K hK => ?_)
    go_simp
    refine hK _ _ (by (repeat first|exact J0|assumption|(apply J1;assumption)|apply J2|apply J3|apply J4)) ?_
    clear hK K
    refine wpMid_run rfl (fun K hK => ?_)
    go_simp
    refine (HCH.out _ _ _ ((hO5.rd ec_len).below (by (repeat first|exact J0|assumption|(apply J1;assumption)|apply J2|apply J3|apply J4))) (hO6.rd ec_len)).mono ?_
    rintro e w7 ⟨rfl, hb7⟩
    refine hK _ _ (by (repeat first|exact J0|assumption|(apply J1;assumption)|apply J2|apply J3|apply J4)) ?_
    clear hK K
    have hP_w7 := hP.below (show Below _ _ w7 by (repeat first|exact J0|assumption|(apply J1;assumption)|apply J2|apply J3|apply J4))
    have fhP_w7 := hP_w7.facts
    have hZ_w7 := hZ.below (show Below _ _ w7 by (repeat first|exact J0|assumption|(apply J1;assumption)|apply J2|apply J3|apply J4))
    have fhZ_w7 := hZ_w7.facts
    obtain ⟨A7, c7, A77, c77, hcv, hu1, hu2⟩ := checked_own (mirQ p) w6 w7 ((hO5.below (show Below w5.heap.size w5 w6 by (repeat first|exact J0|assumption|(apply J1;assumption)|apply J2|apply J3|apply J4))).base_mono (show w4.heap.size ≤ _ by exact Below.size (by (repeat first|exact J0|assumption|(apply J1;assumption)|apply J2|apply J3|apply J4)))) (hO6.base_mono (show w4.heap.size ≤ _ by exact Below.size (by (repeat first|exact J0|assumption|(apply J1;assumption)|apply J2|apply J3|apply J4)))) hb7
    rw [hcv]
    refine wpMid_take rfl ?_
    intro K hK
    go_big_quiet_op
    go_big_quiet_on
    refine wpMid_run rfl (fun K hK => ?_)
    go_simp
    refine hK _ _ (by (repeat first|exact J0|assumption|(apply J1;assumption)|apply J2|apply J3|apply J4)) ?_
    clear hK K
    refine wpMid_nil ?_
    obtain ⟨Q, hQ⟩ : ∃ Q, pcR 0 (mirQ p) = Q := ⟨_, rfl⟩
    rw [hQ] at hu1 hu2 ⊢
    have HQQ := Lib.hid hQ
    clear hQ
    have hbb : Below w4.heap.size w4 w7 := by (repeat first|exact J0|assumption|(apply J1;assumption)|apply J2|apply J3|apply J4)
    go_wp2_with (refine wpList_store_blk hZ_w7 rfl _ _ _ rfl rfl rfl (by rfl) (by kernel_rfl) (by kernel_rfl) ?_; intro w12 hZ12 hc12; have f12 := hZ12.facts)
    refine bodyPost_ret (v := .tuple #[.agg #[.string ⟨Q.1.toArray⟩, .int .i64 Q.2.1, .slice A7 Q.2.2.1.length c7, .slice A77 Q.2.2.2.length c77], .int .i64 EQ]) (by simp [results, Tryz.results25, go_sem, f12]) rfl ?_
    have hz1 : w.heap.size + 1 < w4.heap.size := hZ.lt
    obtain rfl := HQQ.out
    exact ⟨_, _, rfl, (hu1.chg hc12 (by simp; omega)).base_mono hbw4.size, (hu2.chg hc12 (by simp; omega)).base_mono hbw4.size, chg_bl (bl_then hbb hbw4) hc12 (by omega)⟩
  · have HQ : Hid (pcR (panE p) (mirQ p) = panZ ∧ pcE (panE p) (mirQ p) = panE p) := by
      have e : pcE (panE p) (mirQ p) = panE p := by unfold pcE; rw [if_pos hE]
      exact ⟨by unfold pcR; rw [e, if_neg hE], e⟩
    rw [HQ.out.1, HQ.out.2]
    have t0 : (panE p != 0) = true := by simp [hE]
    obtain ⟨E, hEE⟩ : ∃ E, panE p = E := ⟨_, rfl⟩
    rw [hEE] at hc t0 ⊢
    obtain ⟨AL, cL, rfl, _, _, _⟩ := hL
    obtain ⟨AR, cR, rfl, _, _, _⟩ := hR
    have hs : sV p.1 = .string ⟨p.1.toArray⟩ := rfl
    rw [hs] at hc
    rw [hs]
    have hP := (Blk.new w 30 #[.string ⟨p.1.toArray⟩, .int .i64 p.2.1, .slice AL p.2.2.1.length cL, .slice AR p.2.2.2.length cR]).alloc (.cells zeroPV 30)
    have hZ := Blk.new1 w (.cells #[.string ⟨p.1.toArray⟩, .int .i64 p.2.1, .slice AL p.2.2.1.length cL, .slice AR p.2.2.2.length cR] 30) 30 zeroPV
    unfold zeroPV at hP hZ
    have fhP := hP.facts
    have fhZ := hZ.facts
    clear hE hEE hnm hs HQ
    go_enter Tryz.func25, Tryz.ntmps25
    go_wp2_with fail
    refine (hc _ (by (repeat first|exact J0|assumption|(apply J1;assumption)|apply J2|apply J3|apply J4))).mono ?_
    rintro e w2 ⟨rfl, hb2⟩
    replace hP := hP.below (show Below _ _ w2 by (repeat first|exact J0|assumption|(apply J1;assumption)|apply J2|apply J3|apply J4))
    replace fhP := hP.facts
    replace hZ := hZ.below (show Below _ _ w2 by (repeat first|exact J0|assumption|(apply J1;assumption)|apply J2|apply J3|apply J4))
    replace fhZ := hZ.facts
    go_wp2_with (refine wpList_store_blk hZ rfl _ _ _ rfl rfl rfl (by rfl) (by kernel_rfl) (by kernel_rfl) ?_; intro w12 hZ12 hc12; have f12 := hZ12.facts)
    refine bodyPost_ret (v := .tuple #[.agg #[.string ⟨#[]⟩, .int .i64 0, .slice none 0 0, .slice none 0 0], .int .i64 E]) (by simp [results, Tryz.results25, go_sem, f12]) rfl ?_
    exact ⟨_, _, rfl, Own.nil_, Own.nil_, chg_bl (by (repeat first|exact J0|assumption|(apply J1;assumption)|apply J2|apply J3|apply J4)) hc12 (by omega)⟩
end Go.Proofs.YtkkefahobjlagaaGreatDoor
namespace Go.Proofs.YtkkefahobjlagaaGreatDoor
open Go.RowKit Go.ChangeMaps
set_option maxHeartbeats 4000000
set_option maxRecDepth 100000
theorem knotE_put {x y : Int} (h1 : -100000 ≤ x ∧ x ≤ 100000) (h2 : -100000 ≤ y ∧ y ≤ 100000) (hp : (x + y) % 2 = 0) : knotE x y = 0 := by
 have f1 : farB x = false := by unfold farB; simp; omega
 have f2 : farB y = false := by unfold farB; simp; omega
 unfold knotE
 rw [f1, f2, if_neg (by decide), if_pos hp]
structure Moves (p : Pan) : Prop where
 n0 : netErr p = 0
 n1 : netErr (mirP p) = 0
 n2 : netErr (trnP p) = 0
 e1 : panE (mirP p) = 0
 e2 : panE (trnP p) = 0
 c0 : netE (netL p) = 0
 s1 : shiftE (mirN (netL p)) (2 * p.2.1) 0 = 0
 l1 : shiftL (mirN (netL p)) (2 * p.2.1) 0 = netL (mirP p)
 s2 : shiftE (turnN 2 (netL p)) (topX p true) (heightP p) = 0
 l2 : shiftL (turnN 2 (netL p)) (topX p true) (heightP p) = netL (trnP p)
 x1 : -48 ≤ topX p true
 x2 : topX p true ≤ 48
 y1 : 0 ≤ heightP p
 y2 : heightP p ≤ 32
 w1 : 1 ≤ p.2.1
 w2 : p.2.1 ≤ 8
theorem Small.moves {p : Pan} (hs : Small p 16) (h : panE p = 0) : Moves p := by
 obtain ⟨m1, m2, m3, m4, m5⟩ := hs.motions h
 have hf := hs.few
 have ht := hs.top true
 have hh := hs.ok.high
 have hH := hs.high
 have hw := hs.ok.wid
 have hw2 := hs.wid
 have hev := top_even hs.ok true
 have k1 : knotE (2 * p.2.1) 0 = 0 := knotE_put ⟨by omega, by omega⟩ ⟨by omega, by omega⟩ (by omega)
 have k2 : knotE (topX p true) (heightP p) = 0 := knotE_put ⟨by omega, by omega⟩ ⟨by omega, by omega⟩ hev
 have a := shift_is (netE_mirN m1) k1 m2 m4
 have b := shift_is (netE_two m1) k2 m3 m5
 exact ⟨netErr_nil h hf, netErr_nil (mir_err h) (by rw [mir_len h]; exact hf), netErr_nil (trn_err h hs.turn) (by rw [trn_len h hs.turn]; exact hf), mir_err h, trn_err h hs.turn, m1, a.1, a.2, b.1, b.2, by omega, by omega, by omega, by omega, by omega, by omega⟩
theorem cornA_top {p : Pan} (ok : PanOk p) : ∃ a b c d e f : Int, cornA p = #[.int .i64 a, .int .i64 b, .int .i64 c, .int .i64 d, .int .i64 e, .int .i64 f, .int .i64 (topX p true), .int .i64 (heightP p)] := by
 have h : posK true (fromP p true) (stpL p.2.2.2) = (topX p true, heightP p) := top_pos ok true
 have h1 : (posK true (fromP p true) (stpL p.2.2.2)).1 = topX p true := by rw [h]
 have h2 : (posK true (fromP p true) (stpL p.2.2.2)).2 = heightP p := by rw [h]
 exact ⟨_, _, _, _, _, _, by unfold cornA; rw [h1, h2]⟩
theorem pln_words64 (l : List Stp) : ∀ e ∈ plnL l, e.1.length ≤ 64 := by
 have h : ∀ (l : List Stp) (s : PlS), PlOk s → (∀ e ∈ s.1, e.1.length ≤ 64) → PlOk (l.foldl plS s) ∧ ∀ e ∈ (l.foldl plS s).1, e.1.length ≤ 64 := by
  intro l
  induction l with
  | nil => intro s h1 h2; exact ⟨h1, h2⟩
  | cons x r ih =>
   intro s h1 h2
   refine ih (plS s x) (plS_ok h1 x).1 ?_
   by_cases hc : cutS s x = true
   ·rw [plR_cut h1 hc]
    intro e he
    simp only at he
    unfold refO at he
    split at he
    ·exact h2 e he
    ·rcases List.mem_append.1 he with he | he
     ·exact h2 e he
     ·simp only [List.mem_singleton] at he
      rw [he]
      exact h1.len
   ·rw [plR_on h1 (by simpa using hc)]
    exact h2
 obtain ⟨h1, h2⟩ := h l ([], [], 0) ⟨.inl rfl, by simp⟩ (fun e he => by cases he)
 rw [← refO_end]
 intro e he
 unfold refO at he
 split at he
 ·exact h2 e he
 ·rcases List.mem_append.1 he with he | he
  ·exact h2 e he
  ·simp only [List.mem_singleton] at he
   rw [he]
   exact h1.len
end Go.Proofs.YtkkefahobjlagaaGreatDoor

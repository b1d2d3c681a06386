/- Panels handed back: checked, Around, Widen, walked. Conditions: none. -/
import Derived.Test.YtpcgeihemkhkjaaGreatDoorS19
import Derived.Test.YtpcgeihemkhkjaaGreatDoorS14
import Derived.Test.YtpcgeihemkhkjaaGreatDoorS06
namespace Go.Proofs.YtpcgeihemkhkjaaGreatDoor
open Go.RowKit Go.ChangeMaps
set_option maxHeartbeats 4000000
set_option maxRecDepth 100000
attribute [local go_sem] Oper.semAt_some
def panZ : Pan := ([], 0, [], [])
def pcE (e : Int) (q : Pan) : Int := if e ≠ 0 then e else panE q
def pcR (e : Int) (q : Pan) : Pan := if pcE e q = 0 then q else panZ
def RPN (w : World) (q : Pan) (n : Int) (e : Ending) (w' : World) : Prop :=
 ∃ vL vR, e = .returned (.tuple #[.agg #[sV q.1, .int .i64 q.2.1, vL, vR], .int .i64 n]) ∧ Own ec 3 w.heap.size 133 w' vL q.2.2.1 ∧ Own ec 3 w.heap.size 133 w' vR q.2.2.2 ∧ Below w.heap.size w w'
def Zg9 : Array Value := #[.string ⟨#[]⟩, .int .i64 0, .slice none 0 0, .slice none 0 0]
def chkV (q : Pan) (vL vR : Value) : Array Value := if panE q = 0 then #[sV q.1, .int .i64 q.2.1, vL, vR] else Zg9
theorem Zga {vL vR : Value} (q : Pan) (w : World) (hnm : q.1.length ≤ 1000000) (hL : SlE w vL q.2.2.1) (hR : SlE w vR q.2.2.2) :
  Calls Tryz.prog 187 #[.agg #[sV q.1, .int .i64 q.2.1, vL, vR]] w (RV w (.tuple #[.agg (chkV q vL vR), .int .i64 (panE q)])) := by
 have hc := fun W (hb : Below w.heap.size w W) => Zf5 q W hnm (hL.below hb) (hR.below hb)
 obtain ⟨AL, cL, rfl, _, _, _⟩ := hL
 obtain ⟨AR, cR, rfl, _, _, _⟩ := hR
 by_cases hE : panE q = 0
 ·have HN : Hid (chkV q (.slice AL q.2.2.1.length cL) (.slice AR q.2.2.2.length cR) = #[sV q.1, .int .i64 q.2.1, .slice AL q.2.2.1.length cL, .slice AR q.2.2.2.length cR]) := by unfold Hid chkV; rw [if_pos hE]
  rw [HN.out]; rw [hE] at hc ⊢; unfold sV at hc ⊢; have hP := (Blk.new w 97 #[.string ⟨q.1.toArray⟩, .int .i64 q.2.1, .slice AL q.2.2.1.length cL, .slice AR q.2.2.2.length cR]).alloc (.cells Zg9 97)
  have hZ := Blk.new1 w (.cells #[.string ⟨q.1.toArray⟩, .int .i64 q.2.1, .slice AL q.2.2.1.length cL, .slice AR q.2.2.2.length cR] 97) 97 Zg9
  unfold Zg9 at hP hZ; have fhP := hP.facts
  have fhZ := hZ.facts
  clear hE hnm HN; go_enter Tryz.func187, Tryz.ntmps187
  go_wp2_with fail; refine (hc _ (by (repeat first|exact J0|assumption|(apply J1;assumption)|apply J2|apply J3|apply J4))).mono ?_
  rintro e w2 ⟨rfl, hb2⟩; replace hP := hP.below (show Below _ _ w2 by (repeat first|exact J0|assumption|(apply J1;assumption)|apply J2|apply J3|apply J4))
  replace fhP := hP.facts
  replace hZ := hZ.below (show Below _ _ w2 by (repeat first|exact J0|assumption|(apply J1;assumption)|apply J2|apply J3|apply J4))
  replace fhZ := hZ.facts
  go_wp2_with (refine Z4n hZ rfl _ _ _ rfl rfl rfl (by rfl) (by kernel_rfl) (by kernel_rfl) ?_; intro w12 hZ12 hc12; have f12 := hZ12.facts)
  refine bodyPost_ret (v := .tuple #[.agg #[.string ⟨q.1.toArray⟩, .int .i64 q.2.1, .slice AL q.2.2.1.length cL, .slice AR q.2.2.2.length cR], .int .i64 0]) (by simp [results, Tryz.results187, go_sem, f12]) rfl ?_
  exact ⟨rfl, Z9f (by (repeat first|exact J0|assumption|(apply J1;assumption)|apply J2|apply J3|apply J4)) hc12 (by omega)⟩
 ·have HN : Hid (chkV q (.slice AL q.2.2.1.length cL) (.slice AR q.2.2.2.length cR) = Zg9) := by unfold Hid chkV; rw [if_neg hE]
  rw [HN.out]; have t0 : (panE q != 0) = true := by simp [hE]
  obtain ⟨E, hEE⟩ : ∃ E, panE q = E := ⟨_, rfl⟩
  rw [hEE] at hc t0 ⊢; unfold sV at hc; unfold sV; have hP := (Blk.new w 97 #[.string ⟨q.1.toArray⟩, .int .i64 q.2.1, .slice AL q.2.2.1.length cL, .slice AR q.2.2.2.length cR]).alloc (.cells Zg9 97)
  have hZ := Blk.new1 w (.cells #[.string ⟨q.1.toArray⟩, .int .i64 q.2.1, .slice AL q.2.2.1.length cL, .slice AR q.2.2.2.length cR] 97) 97 Zg9
  unfold Zg9 at hP hZ ⊢; have fhP := hP.facts
  have fhZ := hZ.facts
  clear hE hEE hnm HN; go_enter Tryz.func187, Tryz.ntmps187
  go_wp2_with fail; refine (hc _ (by (repeat first|exact J0|assumption|(apply J1;assumption)|apply J2|apply J3|apply J4))).mono ?_
  rintro e w2 ⟨rfl, hb2⟩; replace hP := hP.below (show Below _ _ w2 by (repeat first|exact J0|assumption|(apply J1;assumption)|apply J2|apply J3|apply J4))
  replace fhP := hP.facts
  replace hZ := hZ.below (show Below _ _ w2 by (repeat first|exact J0|assumption|(apply J1;assumption)|apply J2|apply J3|apply J4))
  replace fhZ := hZ.facts
  go_wp2_with (refine Z4n hZ rfl _ _ _ rfl rfl rfl (by rfl) (by kernel_rfl) (by kernel_rfl) ?_; intro w12 hZ12 hc12; have f12 := hZ12.facts)
  refine bodyPost_ret (v := .tuple #[.agg #[.string ⟨#[]⟩, .int .i64 0, .slice none 0 0, .slice none 0 0], .int .i64 E]) (by simp [results, Tryz.results187, go_sem, f12]) rfl ?_
  exact ⟨rfl, Z9f (by (repeat first|exact J0|assumption|(apply J1;assumption)|apply J2|apply J3|apply J4)) hc12 (by omega)⟩
theorem Zgb {vL vR : Value} {base : Nat} (q : Pan) (W w' : World) (hL : Own ec 3 base 133 W vL q.2.2.1) (hR : Own ec 3 base 133 W vR q.2.2.2) (hb : Below W.heap.size W w') :
  ∃ A1 c1 A2 c2, chkV q vL vR = #[.string ⟨(pcR 0 q).1.toArray⟩, .int .i64 (pcR 0 q).2.1, .slice A1 (pcR 0 q).2.2.1.length c1, .slice A2 (pcR 0 q).2.2.2.length c2] ∧ Own ec 3 base 133 w' (.slice A1 (pcR 0 q).2.2.1.length c1) (pcR 0 q).2.2.1 ∧ Own ec 3 base 133 w' (.slice A2 (pcR 0 q).2.2.2.length c2) (pcR 0 q).2.2.2 := by
 have e : pcE 0 q = panE q := by unfold pcE; rw [if_neg (by simp)]
 obtain ⟨A1, c1, rfl⟩ := hL.shape
 obtain ⟨A2, c2, rfl⟩ := hR.shape
 unfold chkV pcR
 rw [e]
 by_cases h : panE q = 0
 ·rw [if_pos h, if_pos h]
  exact ⟨_, _, _, _, rfl, hL.below hb, hR.below hb⟩
 ·rw [if_neg h, if_neg h]
  exact ⟨none, 0, none, 0, rfl, Own.nil_, Own.nil_⟩
def topX (p : Pan) (right : Bool) : Int := (posK right (Z34 p right) (stpL (Z33 p right))).1
def turQ (p : Pan) : Pan := (p.1, (topX p true - topX p false).tdiv 2, oppL p.2.2.2, oppL p.2.2.1)
theorem Zgc {p : Pan} (h : Zas p) (right : Bool) : -100000 ≤ topX p right ∧ topX p right ≤ 100000 := by
 have hl := Zao p right
 have ha := h.asc right
 obtain ⟨hi, he⟩ := List.getElem?_eq_some_iff.1 hl
 have := ha.near _ hi
 rw [he] at this
 exact ⟨this.1, this.2.1⟩
theorem Zgd {l : List Edg} (h : Z3b l) : ∀ e ∈ l, e.1.length ≤ 1000 := fun e he => by
 have := (Z39 (h.ok e he)).2.1
 omega
theorem Zge {vL vR : Value} (p : Pan) (w : World) (hnm : p.1.length ≤ 1000000) (hL : SlE w vL p.2.2.1) (hR : SlE w vR p.2.2.2) :
    Calls Tryz.prog 129 #[.agg #[sV p.1, .int .i64 p.2.1, vL, vR]] w (RPN w (pcR (panE p) (turQ p)) (pcE (panE p) (turQ p))) := by
  have hc := fun W (hb : Below w.heap.size w W) => Zf5 p W hnm (hL.below hb) (hR.below hb)
  by_cases hE : panE p = 0
  · have hok := Zaw hE
    have ll := hok.left.few
    have lr := hok.right.few
    have hcn := fun W (hb : Below w.heap.size w W) => Zf8 p W (hL.below hb) (hR.below hb) hok
    have cl := fun W (hb : Below w.heap.size w W) => Zg5 p.2.2.2 W (hR.below hb) (by omega) (Zgd hok.right)
    have cr := fun W (hb : Below w.heap.size w W) => Zg5 p.2.2.1 W (hL.below hb) (by omega) (Zgd hok.left)
    have hx1 := Zgc hok false
    have hx2 := Zgc hok true
    have HQ : Hid (pcR (panE p) (turQ p) = pcR 0 (turQ p) ∧ pcE (panE p) (turQ p) = panE (turQ p)) := by unfold Hid; rw [hE]; exact ⟨rfl, by unfold pcE; rw [if_neg (by simp)]⟩
    rw [HQ.out.1, HQ.out.2]; obtain ⟨x0, x1, x2, x3, y2, y3, hC⟩ : ∃ x0 x1 x2 x3 y2 y3 : Int, Ze4 p = #[.int .i64 x0, .int .i64 x1, .int .i64 x2, .int .i64 x3, .int .i64 (topX p false), .int .i64 y2, .int .i64 (topX p true), .int .i64 y3] := ⟨_, _, _, _, _, _, rfl⟩
    rw [hC] at hcn; have hch := fun W vl vr hl hr => Zga (vL := vl) (vR := vr) (turQ p) W hnm hl hr
    rw [hE] at hc; have HT : Hid (turQ p = (p.1, (topX p true - topX p false).tdiv 2, oppL p.2.2.2, oppL p.2.2.1)) := rfl
    obtain ⟨X1, hX1⟩ : ∃ X, topX p false = X := ⟨_, rfl⟩
    obtain ⟨X2, hX2⟩ : ∃ X, topX p true = X := ⟨_, rfl⟩
    rw [hX1] at hcn HT hx1; rw [hX2] at hcn HT hx2; obtain ⟨TQ, hTQ⟩ : ∃ Q, turQ p = Q := ⟨_, rfl⟩
    rw [hTQ] at hch HT ⊢; obtain rfl := HT.out
    obtain ⟨AL, cL, rfl, _, _, _⟩ := hL; obtain ⟨AR, cR, rfl, _, _, _⟩ := hR; have HCH := Lib.hid hch
    obtain ⟨EQ, hEQ⟩ : ∃ E, panE (p.1, (X2 - X1).tdiv 2, oppL p.2.2.2, oppL p.2.2.1) = E := ⟨_, rfl⟩
    rw [hEQ] at HCH ⊢; have hs : sV p.1 = .string ⟨p.1.toArray⟩ := rfl
    rw [hs] at hc hcn; rw [hs]; have hP := (Blk.new w 97 #[.string ⟨p.1.toArray⟩, .int .i64 p.2.1, .slice AL p.2.2.1.length cL, .slice AR p.2.2.2.length cR]).alloc (.cells Zg9 97)
    have hZ := Blk.new1 w (.cells #[.string ⟨p.1.toArray⟩, .int .i64 p.2.1, .slice AL p.2.2.1.length cL, .slice AR p.2.2.2.length cR] 97) 97 Zg9
    unfold Zg9 at hP hZ; have fhP := hP.facts
    have fhZ := hZ.facts
    clear hE hEQ hnm hch hs HQ hX1 hX2 hTQ hC HT; go_enter Tryz.func129, Tryz.ntmps129
    go_wp2_with fail; refine (hc _ (by (repeat first|exact J0|assumption|(apply J1;assumption)|apply J2|apply J3|apply J4))).mono ?_
    rintro e w2 ⟨rfl, hb2⟩; replace hP := hP.below (show Below _ _ w2 by (repeat first|exact J0|assumption|(apply J1;assumption)|apply J2|apply J3|apply J4))
    replace fhP := hP.facts
    replace hZ := hZ.below (show Below _ _ w2 by (repeat first|exact J0|assumption|(apply J1;assumption)|apply J2|apply J3|apply J4))
    replace fhZ := hZ.facts
    go_wp2_with fail; refine (hcn _ (by (repeat first|exact J0|assumption|(apply J1;assumption)|apply J2|apply J3|apply J4))).mono ?_
    rintro e w3 ⟨rfl, hb3⟩; replace hP := hP.below (show Below _ _ w3 by (repeat first|exact J0|assumption|(apply J1;assumption)|apply J2|apply J3|apply J4))
    replace fhP := hP.facts
    replace hZ := hZ.below (show Below _ _ w3 by (repeat first|exact J0|assumption|(apply J1;assumption)|apply J2|apply J3|apply J4))
    replace fhZ := hZ.facts
    have hK := Blk.new w3 212 #[.int .i64 x0, .int .i64 x1, .int .i64 x2, .int .i64 x3, .int .i64 X1, .int .i64 y2, .int .i64 X2, .int .i64 y3]
    replace hP := hP.alloc (.cells #[.int .i64 x0, .int .i64 x1, .int .i64 x2, .int .i64 x3, .int .i64 X1, .int .i64 y2, .int .i64 X2, .int .i64 y3] 212)
    replace hZ := hZ.alloc (.cells #[.int .i64 x0, .int .i64 x1, .int .i64 x2, .int .i64 x3, .int .i64 X1, .int .i64 y2, .int .i64 X2, .int .i64 y3] 212)
    have hbw4 : Below w.heap.size w (w3.alloc (.cells #[.int .i64 x0, .int .i64 x1, .int .i64 x2, .int .i64 x3, .int .i64 X1, .int .i64 y2, .int .i64 X2, .int .i64 y3] 212)) := by (repeat first|exact J0|assumption|(apply J1;assumption)|apply J2|apply J3|apply J4)
    go_upto_region 5 with fail; obtain ⟨w4, hw4⟩ : ∃ X, w3.alloc (.cells #[.int .i64 x0, .int .i64 x1, .int .i64 x2, .int .i64 x3, .int .i64 X1, .int .i64 y2, .int .i64 X2, .int .i64 y3] 212) = X := ⟨_, rfl⟩
    obtain ⟨gk, hgk⟩ : ∃ X, w3.heap.size = X := ⟨_, rfl⟩
    rw [hw4] at hP hZ hbw4; rw [hw4, hgk] at hK; rw [hw4, hgk]; clear hw4 hgk hc hcn hb2 hb3; replace fhP := hP.facts
    replace fhZ := hZ.facts
    have fK := hK.facts
    refine Z0z [0, 1, 2, 3, 4, 5, 6, 7, 8, 9, 10, 11, 13, 14] [(12, false), (15, false), (16, false), (17, false), (18, true), (19, false)] [20, 21] (by kernel_rfl) (by kernel_rfl) (fun d _ _ _ _ h => by cases d <;> exact h) ?_
    simp only [List.map_cons, List.map_nil, List.getD_cons_zero, List.getD_cons_succ]; repeat (go_big_quiet_step (fail))
    refine wpQuiet_nil ?_; refine Z11 rfl (fun K hK => ?_); go_simp; refine (cl _ (by (repeat first|exact J0|assumption|(apply J1;assumption)|apply J2|apply J3|apply J4))).mono ?_
    rintro e w5 ⟨v5, rfl, hO5, hb5⟩; refine hK _ _ (by (repeat first|exact J0|assumption|(apply J1;assumption)|apply J2|apply J3|apply J4)) ?_
    clear hK K; have hP_w5 := hP.below (show Below _ _ w5 by (repeat first|exact J0|assumption|(apply J1;assumption)|apply J2|apply J3|apply J4))
    have fhP_w5 := hP_w5.facts
    have hZ_w5 := hZ.below (show Below _ _ w5 by (repeat first|exact J0|assumption|(apply J1;assumption)|apply J2|apply J3|apply J4))
    have fhZ_w5 := hZ_w5.facts
    obtain ⟨A5, c5, rfl⟩ := hO5.shape; refine Z11 rfl (fun K hK => ?_); go_simp; refine (cr _ (by (repeat first|exact J0|assumption|(apply J1;assumption)|apply J2|apply J3|apply J4))).mono ?_
    rintro e w6 ⟨v6, rfl, hO6, hb6⟩; refine hK _ _ (by (repeat first|exact J0|assumption|(apply J1;assumption)|apply J2|apply J3|apply J4)) ?_
    clear hK K; have hP_w6 := hP.below (show Below _ _ w6 by (repeat first|exact J0|assumption|(apply J1;assumption)|apply J2|apply J3|apply J4))
    have fhP_w6 := hP_w6.facts
    have hZ_w6 := hZ.below (show Below _ _ w6 by (repeat first|exact J0|assumption|(apply J1;assumption)|apply J2|apply J3|apply J4))
    have fhZ_w6 := hZ_w6.facts
    obtain ⟨A6, c6, rfl⟩ := hO6.shape; refine Z11 rfl (fun K hK => ?_); go_simp; refine hK _ _ (by (repeat first|exact J0|assumption|(apply J1;assumption)|apply J2|apply J3|apply J4)) ?_
    clear hK K; refine Z11 rfl (fun K hK => ?_); go_simp; refine (HCH.out _ _ _ ((hO5.rd Z8i).below (by (repeat first|exact J0|assumption|(apply J1;assumption)|apply J2|apply J3|apply J4))) (hO6.rd Z8i)).mono ?_
    rintro e w7 ⟨rfl, hb7⟩; refine hK _ _ (by (repeat first|exact J0|assumption|(apply J1;assumption)|apply J2|apply J3|apply J4)) ?_
    clear hK K; have hP_w7 := hP.below (show Below _ _ w7 by (repeat first|exact J0|assumption|(apply J1;assumption)|apply J2|apply J3|apply J4))
    have fhP_w7 := hP_w7.facts
    have hZ_w7 := hZ.below (show Below _ _ w7 by (repeat first|exact J0|assumption|(apply J1;assumption)|apply J2|apply J3|apply J4))
    have fhZ_w7 := hZ_w7.facts
    obtain ⟨A7, c7, A77, c77, hcv, hu1, hu2⟩ := Zgb (p.1, (X2 - X1).tdiv 2, oppL p.2.2.2, oppL p.2.2.1) w6 w7 ((hO5.below (show Below w5.heap.size w5 w6 by (repeat first|exact J0|assumption|(apply J1;assumption)|apply J2|apply J3|apply J4))).base_mono (show w4.heap.size ≤ _ by exact Below.size (by (repeat first|exact J0|assumption|(apply J1;assumption)|apply J2|apply J3|apply J4)))) (hO6.base_mono (show w4.heap.size ≤ _ by exact Below.size (by (repeat first|exact J0|assumption|(apply J1;assumption)|apply J2|apply J3|apply J4)))) hb7
    rw [hcv]; refine Z14 rfl ?_; intro K hK; go_big_quiet_op; go_big_quiet_on; refine Z11 rfl (fun K hK => ?_); go_simp; refine hK _ _ (by (repeat first|exact J0|assumption|(apply J1;assumption)|apply J2|apply J3|apply J4)) ?_
    clear hK K; refine Z10 ?_; obtain ⟨Q, hQ⟩ : ∃ Q, pcR 0 (p.1, (X2 - X1).tdiv 2, oppL p.2.2.2, oppL p.2.2.1) = Q := ⟨_, rfl⟩
    rw [hQ] at hu1 hu2 ⊢; have HQQ := Lib.hid hQ
    clear hQ; have hbb : Below w4.heap.size w4 w7 := by (repeat first|exact J0|assumption|(apply J1;assumption)|apply J2|apply J3|apply J4)
    go_wp2_with (refine Z4n hZ_w7 rfl _ _ _ rfl rfl rfl (by rfl) (by kernel_rfl) (by kernel_rfl) ?_; intro w12 hZ12 hc12; have f12 := hZ12.facts)
    refine bodyPost_ret (v := .tuple #[.agg #[.string ⟨Q.1.toArray⟩, .int .i64 Q.2.1, .slice A7 Q.2.2.1.length c7, .slice A77 Q.2.2.2.length c77], .int .i64 EQ]) (by simp [results, Tryz.results129, go_sem, f12]) rfl ?_
    have hz1 : w.heap.size + 1 < w4.heap.size := hZ.lt
    obtain rfl := HQQ.out
    exact ⟨_, _, rfl, (hu1.chg hc12 (by simp; omega)).base_mono hbw4.size, (hu2.chg hc12 (by simp; omega)).base_mono hbw4.size, Z9f (Z08 hbb hbw4) hc12 (by omega)⟩
  · have HQ : Hid (pcR (panE p) (turQ p) = panZ ∧ pcE (panE p) (turQ p) = panE p) := by
      have e : pcE (panE p) (turQ p) = panE p := by unfold pcE; rw [if_pos hE]
      exact ⟨by unfold pcR; rw [e, if_neg hE], e⟩
    rw [HQ.out.1, HQ.out.2]; have t0 : (panE p != 0) = true := by simp [hE]
    obtain ⟨E, hEE⟩ : ∃ E, panE p = E := ⟨_, rfl⟩
    rw [hEE] at hc t0 ⊢; obtain ⟨AL, cL, rfl, _, _, _⟩ := hL; obtain ⟨AR, cR, rfl, _, _, _⟩ := hR; have hs : sV p.1 = .string ⟨p.1.toArray⟩ := rfl
    rw [hs] at hc; rw [hs]; have hP := (Blk.new w 97 #[.string ⟨p.1.toArray⟩, .int .i64 p.2.1, .slice AL p.2.2.1.length cL, .slice AR p.2.2.2.length cR]).alloc (.cells Zg9 97)
    have hZ := Blk.new1 w (.cells #[.string ⟨p.1.toArray⟩, .int .i64 p.2.1, .slice AL p.2.2.1.length cL, .slice AR p.2.2.2.length cR] 97) 97 Zg9
    unfold Zg9 at hP hZ; have fhP := hP.facts
    have fhZ := hZ.facts
    clear hE hEE hnm hs HQ; go_enter Tryz.func129, Tryz.ntmps129
    go_wp2_with fail; refine (hc _ (by (repeat first|exact J0|assumption|(apply J1;assumption)|apply J2|apply J3|apply J4))).mono ?_
    rintro e w2 ⟨rfl, hb2⟩; replace hP := hP.below (show Below _ _ w2 by (repeat first|exact J0|assumption|(apply J1;assumption)|apply J2|apply J3|apply J4))
    replace fhP := hP.facts
    replace hZ := hZ.below (show Below _ _ w2 by (repeat first|exact J0|assumption|(apply J1;assumption)|apply J2|apply J3|apply J4))
    replace fhZ := hZ.facts
    go_wp2_with (refine Z4n hZ rfl _ _ _ rfl rfl rfl (by rfl) (by kernel_rfl) (by kernel_rfl) ?_; intro w12 hZ12 hc12; have f12 := hZ12.facts)
    refine bodyPost_ret (v := .tuple #[.agg #[.string ⟨#[]⟩, .int .i64 0, .slice none 0 0, .slice none 0 0], .int .i64 E]) (by simp [results, Tryz.results129, go_sem, f12]) rfl ?_
    exact ⟨_, _, rfl, Own.nil_, Own.nil_, Z9f (by (repeat first|exact J0|assumption|(apply J1;assumption)|apply J2|apply J3|apply J4)) hc12 (by omega)⟩
abbrev PnV := List UInt8 × Int × SlV × SlV
def pnc (x : PnV) : List Value := [sV x.1, .int .i64 x.2.1, slV x.2.2.1, slV x.2.2.2]
theorem Zgf (x : PnV) : (pnc x).length = 4 := rfl
theorem Zgg (b : PnV) : ∀ u ∈ pnc b, u.oneCell' = true := by intro u hu; simp [pnc] at hu; rcases hu with rfl | rfl | rfl | rfl <;> rfl
theorem Zgh : Elem Tryz.prog 32 97 4 72 := ⟨by kernel_rfl, by kernel_rfl, by decide⟩
structure PnAt (w : World) (x : PnV) (p : Pan) : Prop where
 nm : x.1 = p.1
 wd : x.2.1 = p.2.1
 left : SlE w (slV x.2.2.1) p.2.2.1
 right : SlE w (slV x.2.2.2) p.2.2.2
theorem PnAt.below {w w' : World} {x : PnV} {p : Pan} (h : PnAt w x p) (hb : Below w.heap.size w w') : PnAt w' x p := ⟨h.nm, h.wd, h.left.below hb, h.right.below hb⟩
def Zgi (w : World) : List PnV → List Pan → Prop
 | [], [] => True
 | x :: xs, p :: ps => PnAt w x p ∧ Zgi w xs ps
 | _, _ => False
theorem Zgi.len {w : World} : ∀ {xs : List PnV} {l : List Pan}, Zgi w xs l → xs.length = l.length
 | [], [], _ => rfl
 | _ :: _, _ :: _, h => by simp [h.2.len]
 | [], _ :: _, h => h.elim
 | _ :: _, [], h => h.elim
theorem Zgi.below {w w' : World} (hb : Below w.heap.size w w') : ∀ {xs : List PnV} {l : List Pan}, Zgi w xs l → Zgi w' xs l
 | [], [], _ => trivial
 | _ :: _, _ :: _, h => ⟨h.1.below hb, h.2.below hb⟩
 | [], _ :: _, h => h.elim
 | _ :: _, [], h => h.elim
theorem Zgi.get {w : World} : ∀ {xs : List PnV} {l : List Pan} {i : Nat} {x : PnV} {p : Pan}, Zgi w xs l → xs[i]? = some x → l[i]? = some p → PnAt w x p
 | x :: xs, p :: ps, 0, _, _, h, h1, h2 => by
  simp only [List.getElem?_cons_zero, Option.some.injEq] at h1 h2; subst h1 h2; exact h.1
 | _ :: xs, _ :: ps, i + 1, _, _, h, h1, h2 => Zgi.get (i := i) h.2 (by simpa using h1) (by simpa using h2)
 | [], [], _, _, _, _, h1, _ => by simp at h1
 | [], _ :: _, _, _, _, h, _, _ => h.elim
 | _ :: _, [], _, _, _, h, _, _ => h.elim
def SlP (w : World) (v : Value) (l : List Pan) : Prop := ∃ xs, Sl pnc 4 w v xs ∧ Zgi w xs l
theorem SlP.below {w w' : World} {v : Value} {l : List Pan} (h : SlP w v l) (hb : Below w.heap.size w w') : SlP w' v l := by
 obtain ⟨xs, h1, h2⟩ := h
 exact ⟨xs, h1.below hb, h2.below hb⟩
theorem Rd.pan {w : World} {A : Option Addr} {xs : List PnV} (h : Rd pnc 4 w A xs) {k : Nat} {x : PnV} (hk : xs[k]? = some x) : ∃ b off, A = some ⟨b, off, none⟩ ∧ b < w.heap.size ∧
  w.cell? ⟨b, off + k * 4, none⟩ = some (sV x.1) ∧ w.cell? ⟨b, off + k * 4 + 1, none⟩ = some (.int .i64 x.2.1) ∧ w.cell? ⟨b, off + k * 4 + 2, none⟩ = some (slV x.2.2.1) ∧ w.cell? ⟨b, off + k * 4 + 3, none⟩ = some (slV x.2.2.2) := by
 obtain ⟨b, off, e, hlt, hc⟩ := h k x hk
 exact ⟨b, off, e, hlt, by simpa using hc 0 _ rfl, hc 1 _ rfl, hc 2 _ rfl, hc 3 _ rfl⟩
def agnB (l : List Pan) (nm : List UInt8) : Bool := l.any fun q => q.1 == nm
def IxP (w : World) (b : Bool) (e : Ending) (w' : World) : Prop := ∃ n : Int, e = .returned (.int .i64 n) ∧ decide (0 ≤ n) = b ∧ Below w.heap.size w w'
theorem Rd.take_ {α : Type} {enc : α → List Value} {sz : Nat} {w : World} {A : Option Addr} {l : List α} (h : Rd enc sz w A l) (k : Nat) : Rd enc sz w A (l.take k) := fun i x hx => h i x (by
 rw [List.getElem?_take] at hx
 split at hx
 ·exact hx
 ·cases hx)
end Go.Proofs.YtpcgeihemkhkjaaGreatDoor

/- Nets, walked. Conditions: bounds. -/
import Derived.Test.YtpcgeihemkhkjaaGreatDoorS30
import Derived.Test.YtpcgeihemkhkjaaGreatDoorS14
import Derived.Test.YtpcgeihemkhkjaaGreatDoorS21
import Derived.Test.YtpcgeihemkhkjaaGreatDoorS35
import Derived.Test.YtpcgeihemkhkjaaGreatDoorS09
namespace Go.Proofs.YtpcgeihemkhkjaaGreatDoor
open Go.RowKit Go.ChangeMaps
set_option maxHeartbeats 4000000
set_option maxRecDepth 100000
attribute [local go_sem] Oper.semAt_some
def nsE1 (l : List Pan) (x : Plc) : Int := Zdd (netL (pcP l x)) x.2.2 0
def nsL1 (l : List Pan) (x : Plc) : List Bar := Zde (netL (pcP l x)) x.2.2 0
def nsE (l : List Pan) (plan : List Plc) : Int := Z17 (plan.map (nsE1 l))
def Zq0 (l : List Pan) (plan : List Plc) : Int := if Zmg l plan = 0 then nsE l plan else Zmg l plan
def Zq1 (l : List Pan) (plan : List Plc) : List (List Bar) := if Zq0 l plan = 0 then plan.map (nsL1 l) else []
theorem Zq2 {l : List Pan} {plan : List Plc} {k : Nat} (hk : k < plan.length) : Z17 ((plan.drop k).map (nsE1 l)) = if nsE1 l plan[k] = 0 then Z17 ((plan.drop (k + 1)).map (nsE1 l)) else nsE1 l plan[k] := by
 rw [List.drop_eq_getElem_cons hk]
 rfl
theorem Zq3 (l : List Pan) {plan : List Plc} {k : Nat} (hk : k < plan.length) : (plan.take (k + 1)).map (nsL1 l) = (plan.take k).map (nsL1 l) ++ [nsL1 l plan[k]] := by
 rw [List.take_succ_eq_append_getElem hk, List.map_append]
 rfl
theorem Zq4 {v u : Value} (l : List Pan) (plan : List Plc) (w : World) (h : SlP w v l) (hp : SlL w u plan) (hnm : ∀ p ∈ l, p.1.length ≤ 1000000) (hll : l.length ≤ 100000) (hpl : plan.length ≤ 100000) :
  Calls Tryz.prog 22 #[v, u] w (RRE w (Zq1 l plan) (Zq0 l plan)) := by
 have hc := fun W (hb : Below w.heap.size w W) => Zm7 l plan W (h.below hb) (hp.below hb) hnm hll hpl
 rw [Zmm] at hc
 by_cases hE : Zmg l plan = 0
 ·obtain ⟨hPL, hl16, hp16, hIL, hNP, hEV⟩ := Zmh hnm hE
  have hm := fun W (hb : Below w.heap.size w W) => Zkc l W (h.below hb) hl16 hPL
  have HS : Hid (∀ k, k < plan.length → Z17 ((plan.drop k).map (nsE1 l)) = if nsE1 l (plan[k]?.getD (0, false, 0)) = 0 then Z17 ((plan.drop (k + 1)).map (nsE1 l)) else nsE1 l (plan[k]?.getD (0, false, 0))) := fun k hk => by
   rw [Zq2 hk, List.getElem?_eq_getElem hk]; rfl
  have HT : Hid (∀ k, k < plan.length → (plan.take (k + 1)).map (nsL1 l) = (plan.take k).map (nsL1 l) ++ [nsL1 l (plan[k]?.getD (0, false, 0))]) := fun k hk => by
   rw [Zq3 l hk, List.getElem?_eq_getElem hk]; rfl
  have HEE : Hid (Zq0 l plan = Z17 ((plan.drop 0).map (nsE1 l))) := by unfold Hid Zq0; rw [if_pos hE]; rfl
  have HI := Lib.hid hIL
  rw [hE] at hc; have HP : Hid (SlL w u plan) := hp
  obtain ⟨xs, ⟨A, c, rfl, _, _, _⟩, _⟩ := h; obtain ⟨B, d, rfl, _, _, hr⟩ := hp; clear hE hPL hIL hNP hEV; go_enter Tryz.func22, Tryz.ntmps22
  go_wp2_with fail; refine (hc _ (by (repeat first|exact J0|assumption|(apply J1;assumption)|apply J2|apply J3|apply J4))).mono ?_
  rintro e w2 ⟨rfl, hb2⟩; go_wp2_with fail; refine (hm _ (by (repeat first|exact J0|assumption|(apply J1;assumption)|apply J2|apply J3|apply J4))).mono ?_
  rintro e w3 ⟨va, rfl, hWa, hb3⟩; obtain ⟨Aa, ca, rfl⟩ := hWa.shape; have hbw3 : Below w.heap.size w w3 := by (repeat first|exact J0|assumption|(apply J1;assumption)|apply J2|apply J3|apply J4)
  clear hc hm hb2 hb3; go_wp2; go_loopw [8, 23] (fun o i wr => ∃ k : Nat, k ≤ plan.length ∧ i = .int .i64 k ∧ Hid (Zq0 l plan = Z17 ((plan.drop k).map (nsE1 l))) ∧ OwRR w3.heap.size wr o ((plan.take k).map (nsL1 l)) ∧ Below w3.heap.size w3 wr) (fun _ i _ => plan.length - (intOf i).toNat)
  case atStart => exact ⟨0, Nat.zero_le _, rfl, HEE, OwRR.nil_, Z03⟩
  case round =>
   obtain ⟨k, hk, rfl, HK, hO, hbk⟩ := hrel; obtain ⟨wo, rfl⟩ : ∃ x, x = wr := ⟨_, rfl⟩
   have hbw := Z08 hbk hbw3
   by_cases hlt : k < plan.length
   ·obtain ⟨b, off, rfl, hb, c0, c1, c2⟩ := (hr.below hbw).plc hlt
    have ho := HI.out _ (List.getElem_mem hlt)
    have HSk := Lib.hid (HS.out k hlt)
    have HTk := Lib.hid (HT.out k hlt)
    rw [List.getElem?_eq_getElem hlt] at HSk HTk
    obtain ⟨⟨n, t, f⟩, hoo⟩ : ∃ o, plan[k] = o := ⟨_, rfl⟩
    rw [hoo] at ho c0 c1 c2 HSk HTk; rw [Option.getD_some] at HSk HTk; obtain ⟨ko, hko0, hko⟩ := ho.nat; simp only at c0 c1 c2 hko0
    subst hko0; have hX := Blk.new wo 100 #[.int .i64 ko, .bool t, .int .i64 f]
    have hal : Below wo.heap.size wo (wo.alloc (.cells #[.int .i64 ko, .bool t, .int .i64 f] 100)) := Z04 Z03 _
    have hbx := Z08 hal hbk
    have hOa := hO.below hal
    go_upto_region 9 with fail; obtain ⟨wx, hwx⟩ : ∃ X, wo.alloc (.cells #[.int .i64 ko, .bool t, .int .i64 f] 100) = X := ⟨_, rfl⟩
    obtain ⟨gx, hgx⟩ : ∃ X, wo.heap.size = X := ⟨_, rfl⟩
    rw [hwx] at hbx hOa; rw [hwx, hgx] at hX; rw [hwx, hgx]; clear hwx hgx c0 c1 c2 hb hal hO; obtain ⟨bA, oA, p0, p5, q0, q5, r0, r5, p1, p2, p6, p7, q1, q2, q6, q7, r2, r7, p3, p4, q3, q4, hAA, hbAx, ⟨e0, e1, e2, e3, e4, e5, e6, e7⟩, hat2, hrr, hnt⟩ := hWa.look hko t f hbx
    subst hAA; have hsh := fun W (hb : Below w3.heap.size w3 W) => Zdf (netL (pcP l ((ko : Int), t, f))) f 0 W (hnt.below hb)
    have h1 : Zdd (netL (pcP l ((ko : Int), t, f))) f 0 = nsE1 l ((ko : Int), t, f) := rfl
    have h2 : Zde (netL (pcP l ((ko : Int), t, f))) f 0 = nsL1 l ((ko : Int), t, f) := rfl
    rw [h1, h2] at hsh; obtain ⟨E, hEq⟩ : ∃ z, nsE1 l ((ko : Int), t, f) = z := ⟨_, rfl⟩
    obtain ⟨S, hSq⟩ : ∃ z, nsL1 l ((ko : Int), t, f) = z := ⟨_, rfl⟩
    rw [hEq] at hsh HSk; rw [hSq] at hsh HTk; obtain ⟨P, hP⟩ : ∃ P, pcP l ((ko : Int), t, f) = P := ⟨_, rfl⟩
    rw [hP] at hat2 hsh; obtain ⟨⟨E1, E2⟩, hEE⟩ : ∃ F, Zin P = F := ⟨_, rfl⟩
    rw [hEE] at hat2; simp only at hat2
    have fX := hX.facts
    clear hP hEE hrr hnt h1 h2 hEq hSq; refine Z0z [0, 1, 2, 3, 4, 5, 8, 9, 10] [(6, false), (7, false), (11, false), (12, false), (13, true), (14, true), (15, false)] [16] (by kernel_rfl) (by kernel_rfl) (fun d _ _ _ _ h => by cases d <;> exact h) ?_
    simp only [List.map_cons, List.map_nil, List.getD_cons_zero, List.getD_cons_succ]; repeat (go_big_quiet_step (fail))
    refine wpQuiet_nil ?_; refine Z11 rfl (fun K hK => ?_); go_simp; refine (hat2 _).mono ?_
    rintro e w7 ⟨rfl, hb7⟩; refine hK _ _ (by (repeat first|exact J0|assumption|(apply J1;assumption)|apply J2|apply J3|apply J4)) ?_
    clear hK K; refine Z11 rfl (fun K hK => ?_); go_simp; refine hK _ _ (by (repeat first|exact J0|assumption|(apply J1;assumption)|apply J2|apply J3|apply J4)) ?_
    clear hK K; refine Z11 rfl (fun K hK => ?_); go_simp; refine (hsh _ (Z08 (show Below wx.heap.size wx _ by (repeat first|exact J0|assumption|(apply J1;assumption)|apply J2|apply J3|apply J4)) hbx)).mono ?_
    rintro e w8 ⟨v8, rfl, hO8, hb8⟩; refine hK _ _ (by (repeat first|exact J0|assumption|(apply J1;assumption)|apply J2|apply J3|apply J4)) ?_
    clear hK K; obtain ⟨A8, c8, rfl⟩ := hO8.shape; refine Z11 rfl (fun K hK => ?_); go_simp; refine hK _ _ (by (repeat first|exact J0|assumption|(apply J1;assumption)|apply J2|apply J3|apply J4)) ?_
    clear hK K; iterate 2 (refine Z14 rfl ?_; intro K hK; go_big_quiet_op; go_big_quiet_on)
    refine Z11 rfl (fun K hK => ?_); go_simp; refine hK _ _ (by (repeat first|exact J0|assumption|(apply J1;assumption)|apply J2|apply J3|apply J4)) ?_
    clear hK K; refine Z10 ?_; have hb8x : Below wx.heap.size wx w8 := by (repeat first|exact J0|assumption|(apply J1;assumption)|apply J2|apply J3|apply J4)
    have hz7 : wx.heap.size ≤ w7.heap.size := (show Below wx.heap.size wx w7 by (repeat first|exact J0|assumption|(apply J1;assumption)|apply J2|apply J3|apply J4)).size
    have hOe := hOa.below hb8x
    have hbe := Z08 hb8x hbx
    have hS8 := hO8.base_mono (Nat.le_trans hbx.size hz7)
    clear hat2 hsh hb7 hb8 fX hX e0 e1 e2 e3 e4 e5 e6 e7 hOa hbw hb8x hO8; by_cases hz : E = 0
    ·have t0 : (E != 0) = false := by simp [hz]
     have HN : Hid (Zq0 l plan = Z17 ((plan.drop (k + 1)).map (nsE1 l))) := by unfold Hid; rw [HK.out, HSk.out, if_pos hz]
     obtain ⟨ts, hT, hR⟩ := hOe; have hTl : ts.length ≤ 1000000 := by rw [hR.len, List.length_map, List.length_take]; omega
     obtain ⟨At, ct, rfl⟩ := hT.shape; have hal := Z04 (Z03 (w := w8)) (.cells #[.slice A8 S.length c8] 65)
     have hTa := hT.below hal
     have hRa := hR.map_ fun v L h => h.below hal
     have hSa := hS8.below hal
     have hz8 : w3.heap.size ≤ w8.heap.size := hbe.size
     clear hz; go_wp2_with (at_builtin; refine Zd9 hT rfl _ _ rfl rfl rfl rfl hTl hz8 ?_; intro v9 w9 hT9 hg9)
     have hR9 : Zd8 w3.heap.size w9 (ts ++ [(A8, S.length, c8)]) ((plan.take k).map (nsL1 l) ++ [S]) := (hRa.map_ fun v L h => h.kept hg9 (h.ne_own hTa (by decide))).snoc (hSa.kept hg9 (hSa.ne_own hTa (by decide)))
     have hb9 : Below w3.heap.size w3 w9 := Z09 hg9 (Z08 hal hbe) (fun j e => (hTa.lt j e).1)
     go_wp2; go_roundw; case rel => exact ⟨k + 1, by omega, by go_num, HN, ⟨_, hT9, by rw [HTk.out]; exact hR9⟩, hb9⟩
     case measure => simp [intOf]; omega
    ·have t0 : (E != 0) = true := by simp [hz]
     have HN : Hid (Zq0 l plan = E) := by unfold Hid; rw [HK.out, HSk.out, if_neg hz]
     have HNL : Hid (Zq1 l plan = []) := by unfold Hid Zq1; rw [HN.out, if_neg hz]
     clear hz; go_wp2; refine bodyPost_ret (v := .tuple #[.slice none 0 0, .int .i64 E]) (by simp [results, Tryz.results22, go_sem]) rfl ?_
     exact ⟨_, by rw [HN.out], by rw [HNL.out]; exact OwRR.nil_, Z08 hbe hbw3⟩
   ·obtain rfl : k = plan.length := by omega
    have HZ : Hid (Zq0 l plan = 0) := by unfold Hid; rw [HK.out, List.drop_length]; rfl
    have HNL : Hid (Zq1 l plan = plan.map (nsL1 l)) := by unfold Hid Zq1; rw [HZ.out]; rfl
    rw [List.take_length] at hO; obtain ⟨L, hL⟩ : ∃ L, plan.map (nsL1 l) = L := ⟨_, rfl⟩
    rw [hL] at hO HNL; obtain ⟨Ao, co, rfl⟩ := hO.shape; clear hL; go_wp2; refine bodyPost_ret (v := .tuple #[.slice Ao L.length co, .int .i64 0]) (by simp [results, Tryz.results22, go_sem]) rfl ?_
    exact ⟨_, by rw [HZ.out], by rw [HNL.out]; exact hO.base_mono hbw3.size, hbw⟩
 ·have t0 : (Zmg l plan != 0) = true := by simp [hE]
  have HS : Hid (Zq1 l plan = [] ∧ Zq0 l plan = Zmg l plan) := by
   have e : Zq0 l plan = Zmg l plan := by unfold Zq0; rw [if_neg hE]
   exact ⟨by unfold Zq1; rw [e, if_neg hE], e⟩
  rw [HS.out.1, HS.out.2]; obtain ⟨E, hEE⟩ : ∃ E, Zmg l plan = E := ⟨_, rfl⟩
  rw [hEE] at hc t0 ⊢; obtain ⟨xs, ⟨A, c, rfl, _, _, _⟩, _⟩ := h; obtain ⟨B, d, rfl, _, _, hr⟩ := hp; clear hE hEE HS; go_enter Tryz.func22, Tryz.ntmps22
  go_wp2_with fail; refine (hc _ (by (repeat first|exact J0|assumption|(apply J1;assumption)|apply J2|apply J3|apply J4))).mono ?_
  rintro e w2 ⟨rfl, hb2⟩; go_wp2; refine bodyPost_ret (v := .tuple #[.slice none 0 0, .int .i64 E]) (by simp [results, Tryz.results22, go_sem]) rfl ?_
  exact ⟨_, rfl, OwRR.nil_, by (repeat first|exact J0|assumption|(apply J1;assumption)|apply J2|apply J3|apply J4)⟩
def scrE (b : Bal) (l : List Pan) (plan : List Plc) : Int := if cpnE b l plan ≠ 0 then cpnE b l plan else if plan.length = 0 then 0 else Z15 (decide (256 < lenP l plan) || decide (4096 < 2 * lenP l plan * b.2.1)) 5
def mnF (S : List Bar) (Ls : List (List Bar)) : List Bar := Ls.foldl (fun rest n => putL Z9m rest n) S
def scrL (b : Bal) (l : List Pan) (plan : List Plc) : List Bar := if plan.length ≠ 0 ∧ scrE b l plan = 0 then mnF (Z9q 0 0 (lenP l plan) b.2.1) (Zq1 l plan) else []
theorem Zq5 (S : List Bar) {Ls : List (List Bar)} {k : Nat} (hk : k < Ls.length) : mnF S (Ls.take (k + 1)) = putL Z9m (mnF S (Ls.take k)) Ls[k] := by
 unfold mnF
 rw [List.take_succ_eq_append_getElem hk, List.foldl_append]
 rfl
theorem Zq6 {base : Nat} {w : World} {v : Value} {ts : List SlV} (h : OwV base w v ts) {k : Nat} (hk : k < ts.length) : ∃ b off c, v = .slice (some ⟨b, off, none⟩) ts.length c ∧ b < w.heap.size ∧ w.cell? ⟨b, off + k, none⟩ = some (slV ts[k]) := by
 obtain ⟨A, c, rfl, _, _, hr⟩ := h.rd Zd5
 obtain ⟨b, off, rfl, hb, hc⟩ := hr k ts[k] (List.getElem?_eq_getElem hk)
 exact ⟨b, off, c, rfl, hb, by simpa using hc 0 _ rfl⟩
theorem Zq7 {v u : Value} (b : Bal) (l : List Pan) (plan : List Plc) (w : World) (hbn : b.1.length ≤ 1000000) (h : SlP w v l) (hp : SlL w u plan) (hnm : ∀ p ∈ l, p.1.length ≤ 1000000) (hll : l.length ≤ 100000) (hpl : plan.length ≤ 100000) :
  Calls Tryz.prog 32 #[.agg #[sV b.1, .int .i64 b.2.1, .int .i64 b.2.2], v, u] w (RBE w (scrL b l plan) (scrE b l plan)) := by
 have hc := fun W (hb : Below w.heap.size w W) => Zmq b l plan W hbn (h.below hb) (hp.below hb) hnm hll hpl
 have hle := fun W (hb : Below w.heap.size w W) => Zmn l plan W (h.below hb) (hp.below hb) hnm hll hpl
 have hns := fun W (hb : Below w.heap.size w W) => Zq4 l plan W (h.below hb) (hp.below hb) hnm hll hpl
 by_cases hE : cpnE b l plan = 0
 ·obtain ⟨hB0, hE0, _⟩ := Zp6 hE
  obtain ⟨hPL, hl16, hp16, hIL, hNP, hEV⟩ := Zmh hnm hE0
  have hbb := Zmo hB0
  have hnn := Zmv hPL hIL (hNP.mono (by omega : (100000 : Int) ≤ 2000000000))
  have hwn := Zp5 hPL hIL (hNP.mono (by omega : (100000 : Int) ≤ 2000000000)) hbb.1
  rw [hE0, show Zfc 0 (lenP l plan) = lenP l plan from rfl] at hle
  rw [hE] at hc; have HE1 : Hid (scrE b l plan = if plan.length = 0 then 0 else Z15 (decide (256 < lenP l plan) || decide (4096 < 2 * lenP l plan * b.2.1)) 5) := by unfold Hid scrE; rw [if_neg (by simp [hE])]
  have HL1 : Hid (scrL b l plan = if plan.length ≠ 0 ∧ scrE b l plan = 0 then mnF (Z9q 0 0 (lenP l plan) b.2.1) (Zq1 l plan) else []) := rfl
  have hsh := fun W => Z9t 0 0 (lenP l plan) b.2.1 W
  obtain ⟨N, hN⟩ : ∃ z, lenP l plan = z := ⟨_, rfl⟩
  rw [hN] at hle hnn hwn HE1 HL1 hsh; obtain ⟨LE, hLE⟩ : ∃ z, scrE b l plan = z := ⟨_, rfl⟩
  obtain ⟨LL, hLL⟩ : ∃ z, scrL b l plan = z := ⟨_, rfl⟩
  rw [hLE] at HE1 HL1 ⊢; rw [hLL] at HL1 ⊢; obtain ⟨SH, hSH⟩ : ∃ z, Z9q 0 0 N b.2.1 = z := ⟨_, rfl⟩
  obtain ⟨SE, hSE⟩ : ∃ z, Z9p 0 0 N b.2.1 = z := ⟨_, rfl⟩
  rw [hSH, hSE] at hsh; rw [hSH] at HL1
  have hnl : (Zq1 l plan).length ≤ 16 := by
   unfold Zq1; split
   ·rw [List.length_map]; exact hp16
   ·simp
  obtain ⟨NL, hNL⟩ : ∃ z, Zq1 l plan = z := ⟨_, rfl⟩
  obtain ⟨NE, hNE⟩ : ∃ z, Zq0 l plan = z := ⟨_, rfl⟩
  rw [hNL, hNE] at hns; rw [hNL] at HL1 hnl; have HMS := Lib.hid (fun k hk => Zq5 SH (Ls := NL) (k := k) hk)
  obtain ⟨xs, ⟨A, c, rfl, _, _, _⟩, _⟩ := h; obtain ⟨B, d, rfl, _, _, hr⟩ := hp; obtain ⟨nm, br, bl⟩ := b; simp only at HE1 HL1 hbb hwn
  unfold sV at hc ⊢; simp only at hc hsh ⊢
  have hK := Blk.new w 27 #[.string ⟨nm.toArray⟩, .int .i64 br, .int .i64 bl]
  have fhK := hK.facts
  clear hE hE0 hB0 hPL hIL hNP hEV hN hLE hLL hSH hSE hNL hNE; by_cases hq : plan.length = 0
  ·obtain rfl : LE = 0 := by rw [HE1.out, if_pos hq]
   obtain rfl : LL = [] := by rw [HL1.out, if_neg (by simp [hq])]
   have r1 : ((plan.length : Int) == 0) = true := by simp [hq]
   clear hq; go_enter Tryz.func32, Tryz.ntmps32
   go_wp2_with fail; refine (hc _ (by (repeat first|exact J0|assumption|(apply J1;assumption)|apply J2|apply J3|apply J4))).mono ?_
   rintro e w2 ⟨rfl, hb2⟩; replace hK := hK.below (show Below _ _ w2 by (repeat first|exact J0|assumption|(apply J1;assumption)|apply J2|apply J3|apply J4))
   replace fhK := hK.facts
   go_wp2_with fail; refine (hle _ (by (repeat first|exact J0|assumption|(apply J1;assumption)|apply J2|apply J3|apply J4))).mono ?_
   rintro e w3 ⟨rfl, hb3⟩; replace hK := hK.below (show Below _ _ w3 by (repeat first|exact J0|assumption|(apply J1;assumption)|apply J2|apply J3|apply J4))
   replace fhK := hK.facts
   go_wp2; refine bodyPost_ret (v := .tuple #[.slice none 0 0, .int .i64 0]) (by simp [results, Tryz.results32, go_sem]) rfl ?_
   exact ⟨_, rfl, Own.nil_, by (repeat first|exact J0|assumption|(apply J1;assumption)|apply J2|apply J3|apply J4)⟩
  ·have r1 : ((plan.length : Int) == 0) = false := by simp [hq]
   have hmany : Hid (∀ h : (decide (256 < N) || decide (4096 < 2 * N * br)) = true, LE = 5 ∧ LL = []) := fun h => by
    have e : LE = 5 := by rw [HE1.out, if_neg hq, h]; rfl
    exact ⟨e, by rw [HL1.out, e, if_neg (by simp)]⟩
   have hfew : Hid (∀ h : (decide (256 < N) || decide (4096 < 2 * N * br)) = false, LE = 0 ∧ LL = mnF SH NL) := fun h => by
    have e : LE = 0 := by rw [HE1.out, if_neg hq, h]; rfl
    exact ⟨e, by rw [HL1.out, e, if_pos ⟨hq, rfl⟩]⟩
   clear hq; by_cases hg : 256 < N
   ·obtain ⟨rfl, rfl⟩ := hmany.out (by rw [decide_eq_true hg]; rfl)
    have r2 : (256 < N) = True := eq_true hg
    clear hg; go_enter Tryz.func32, Tryz.ntmps32
    go_wp2_with fail; refine (hc _ (by (repeat first|exact J0|assumption|(apply J1;assumption)|apply J2|apply J3|apply J4))).mono ?_
    rintro e w2 ⟨rfl, hb2⟩; replace hK := hK.below (show Below _ _ w2 by (repeat first|exact J0|assumption|(apply J1;assumption)|apply J2|apply J3|apply J4))
    replace fhK := hK.facts
    go_wp2_with fail; refine (hle _ (by (repeat first|exact J0|assumption|(apply J1;assumption)|apply J2|apply J3|apply J4))).mono ?_
    rintro e w3 ⟨rfl, hb3⟩; replace hK := hK.below (show Below _ _ w3 by (repeat first|exact J0|assumption|(apply J1;assumption)|apply J2|apply J3|apply J4))
    replace fhK := hK.facts
    go_wp2; refine bodyPost_ret (v := .tuple #[.slice none 0 0, .int .i64 5]) (by simp [results, Tryz.results32, go_sem]) rfl ?_
    exact ⟨_, rfl, Own.nil_, by (repeat first|exact J0|assumption|(apply J1;assumption)|apply J2|apply J3|apply J4)⟩
   ·by_cases hg2 : 4096 < 2 * N * br
    ·obtain ⟨rfl, rfl⟩ := hmany.out (by rw [decide_eq_true hg2, Bool.or_true])
     have r2 : (256 < N) = False := eq_false hg
     have r3 : (4096 < 2 * N * br) = True := eq_true hg2
     clear hg hg2; go_enter Tryz.func32, Tryz.ntmps32
     go_wp2_with fail; refine (hc _ (by (repeat first|exact J0|assumption|(apply J1;assumption)|apply J2|apply J3|apply J4))).mono ?_
     rintro e w2 ⟨rfl, hb2⟩; replace hK := hK.below (show Below _ _ w2 by (repeat first|exact J0|assumption|(apply J1;assumption)|apply J2|apply J3|apply J4))
     replace fhK := hK.facts
     go_wp2_with fail; refine (hle _ (by (repeat first|exact J0|assumption|(apply J1;assumption)|apply J2|apply J3|apply J4))).mono ?_
     rintro e w3 ⟨rfl, hb3⟩; replace hK := hK.below (show Below _ _ w3 by (repeat first|exact J0|assumption|(apply J1;assumption)|apply J2|apply J3|apply J4))
     replace fhK := hK.facts
     go_wp2; refine bodyPost_ret (v := .tuple #[.slice none 0 0, .int .i64 5]) (by simp [results, Tryz.results32, go_sem]) rfl ?_
     exact ⟨_, rfl, Own.nil_, by (repeat first|exact J0|assumption|(apply J1;assumption)|apply J2|apply J3|apply J4)⟩
    ·obtain ⟨rfl, rfl⟩ := hfew.out (by rw [decide_eq_false hg, decide_eq_false hg2]; rfl)
     have r2 : (256 < N) = False := eq_false hg
     have r3 : (4096 < 2 * N * br) = False := eq_false hg2
     clear hg hg2; go_enter Tryz.func32, Tryz.ntmps32
     go_wp2_with fail; refine (hc _ (by (repeat first|exact J0|assumption|(apply J1;assumption)|apply J2|apply J3|apply J4))).mono ?_
     rintro e w2 ⟨rfl, hb2⟩; replace hK := hK.below (show Below _ _ w2 by (repeat first|exact J0|assumption|(apply J1;assumption)|apply J2|apply J3|apply J4))
     replace fhK := hK.facts
     go_wp2_with fail; refine (hle _ (by (repeat first|exact J0|assumption|(apply J1;assumption)|apply J2|apply J3|apply J4))).mono ?_
     rintro e w3 ⟨rfl, hb3⟩; replace hK := hK.below (show Below _ _ w3 by (repeat first|exact J0|assumption|(apply J1;assumption)|apply J2|apply J3|apply J4))
     replace fhK := hK.facts
     go_wp2_with fail; refine (hsh _).mono ?_
     rintro e w4 ⟨v4, rfl, hO4, hb4⟩; replace hK := hK.below (show Below _ _ w4 by (repeat first|exact J0|assumption|(apply J1;assumption)|apply J2|apply J3|apply J4))
     replace fhK := hK.facts
     have hbw4 : Below w.heap.size w w4 := by (repeat first|exact J0|assumption|(apply J1;assumption)|apply J2|apply J3|apply J4)
     have hz3 : w.heap.size ≤ w3.heap.size := (show Below w.heap.size w w3 by (repeat first|exact J0|assumption|(apply J1;assumption)|apply J2|apply J3|apply J4)).size
     clear r1 r2 r3 hb2 hb3 hb4; go_wp2_with fail; refine (hns _ hbw4).mono ?_
     rintro e w5 ⟨v5, rfl, hO5, hb5⟩; obtain ⟨A4, c4, rfl⟩ := hO4.shape; obtain ⟨A5, c5, rfl⟩ := hO5.shape; have hz34 : w.heap.size ≤ w4.heap.size := hbw4.size
     have hbw5 := Z08 hb5 hbw4
     have hO45 := (hO4.below hb5).base_mono hz3
     obtain ⟨ts, hT, hR⟩ := hO5; have hTl := hR.len
     have HTL := Lib.hid hTl
     clear hO4 hns hc hle hsh hTl fhK hK hb5 hbw4; go_wp2; go_loopw [11, 59] (fun s i wr => ∃ k : Nat, k ≤ NL.length ∧ i = .int .i64 k ∧ OwB w.heap.size wr s (mnF SH (NL.take k)) ∧ Below w5.heap.size w5 wr) (fun _ i _ => NL.length - (intOf i).toNat)
     case atStart => exact ⟨0, Nat.zero_le _, rfl, hO45, Z03⟩
     case round =>
      clear hO45; obtain ⟨k, hk, rfl, hO, hbk⟩ := hrel; obtain ⟨wo, rfl⟩ : ∃ x, x = wr := ⟨_, rfl⟩
      obtain ⟨Ao, co, rfl⟩ := hO.shape; by_cases hlt : k < NL.length
      ·have hkt : k < ts.length := by rw [HTL.out]; exact hlt
       obtain ⟨b, off, c', he, hb, hcell⟩ := Zq6 (hT.below hbk) hkt
       obtain ⟨rfl, -, rfl⟩ : A5 = some ⟨b, off, none⟩ ∧ NL.length = ts.length ∧ c5 = c' := by simpa using he
       have hg := (hR.map_ fun v L h => h.below hbk).get hkt hlt
       have HS := Lib.hid (HMS.out k hlt)
       obtain ⟨⟨t0, t1, t2⟩, ht⟩ : ∃ z, ts[k] = z := ⟨_, rfl⟩
       rw [ht] at hcell hg; have hsl := Sl.size_ (hg.rd Z20)
       simp only at hsl
       subst hsl; obtain ⟨M, hM⟩ : ∃ z, NL[k] = z := ⟨_, rfl⟩
       rw [hM] at hg HS hcell; obtain ⟨R, hRr⟩ : ∃ z, mnF SH (NL.take k) = z := ⟨_, rfl⟩
       rw [hRr] at hO HS ⊢; have hmi := Zgl R M wo (hO.rd Z20) (hg.rd Z20)
       obtain ⟨PE, hPE⟩ : ∃ z, putE Z9m R M = z := ⟨_, rfl⟩
       obtain ⟨PL, hPL⟩ : ∃ z, putL Z9m R M = z := ⟨_, rfl⟩
       rw [hPE, hPL] at hmi; rw [hPL] at HS; simp only [slV] at hcell hmi; clear ht hM hRr hPE hPL he; go_wp2_with fail; refine (hmi).mono ?_
       rintro e w7 ⟨v7, rfl, hO7, hb7⟩; have hb57 := Z08 hb7 hbk
       have hO77 := hO7.base_mono (show w.heap.size ≤ wo.heap.size from Nat.le_trans hbw5.size hbk.size)
       clear hmi hO7 hb7; go_wp2; go_roundw; case rel => exact ⟨k + 1, by omega, by go_num, by rw [HS.out]; exact hO77, hb57⟩
       case measure => simp [intOf]; omega
      ·obtain rfl : k = NL.length := by omega
       rw [List.take_length] at hO; obtain ⟨L, hL⟩ : ∃ z, mnF SH NL = z := ⟨_, rfl⟩
       rw [List.take_length]; rw [hL] at hO ⊢; have HL := Lib.hid hL
       clear hL; go_wp2; refine bodyPost_ret (v := .tuple #[.slice Ao L.length co, .int .i64 0]) (by simp [results, Tryz.results32, go_sem]) rfl ?_
       exact ⟨_, rfl, by rw [HL.out]; exact hO, Z08 hbk hbw5⟩
 ·have t0 : (cpnE b l plan != 0) = true := by simp [hE]
  have HE1 : Hid (scrE b l plan = cpnE b l plan) := by unfold Hid scrE; rw [if_pos hE]
  have HL1 : Hid (scrL b l plan = []) := by unfold Hid scrL; rw [HE1.out, if_neg (fun h => hE h.2)]
  rw [HE1.out, HL1.out]; obtain ⟨E, hEE⟩ : ∃ E, cpnE b l plan = E := ⟨_, rfl⟩
  rw [hEE] at hc t0 ⊢; obtain ⟨xs, ⟨A, c, rfl, _, _, _⟩, _⟩ := h; obtain ⟨B, d, rfl, _, _, hr⟩ := hp; obtain ⟨nm, br, bl⟩ := b; unfold sV at hc ⊢; simp only at hc
  have hK := Blk.new w 27 #[.string ⟨nm.toArray⟩, .int .i64 br, .int .i64 bl]
  have fhK := hK.facts
  clear hE hEE HE1 HL1; go_enter Tryz.func32, Tryz.ntmps32
  go_wp2_with fail; refine (hc _ (by (repeat first|exact J0|assumption|(apply J1;assumption)|apply J2|apply J3|apply J4))).mono ?_
  rintro e w2 ⟨rfl, hb2⟩; replace hK := hK.below (show Below _ _ w2 by (repeat first|exact J0|assumption|(apply J1;assumption)|apply J2|apply J3|apply J4))
  replace fhK := hK.facts
  go_wp2; refine bodyPost_ret (v := .tuple #[.slice none 0 0, .int .i64 E]) (by simp [results, Tryz.results32, go_sem]) rfl ?_
  exact ⟨_, rfl, Own.nil_, by (repeat first|exact J0|assumption|(apply J1;assumption)|apply J2|apply J3|apply J4)⟩
end Go.Proofs.YtpcgeihemkhkjaaGreatDoor

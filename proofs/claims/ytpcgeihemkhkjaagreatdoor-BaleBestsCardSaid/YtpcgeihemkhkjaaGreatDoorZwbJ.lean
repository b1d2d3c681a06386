/- BaleBests, walked. Conditions: the variables are laid. -/
import Derived.Test.YtpcgeihemkhkjaaGreatDoorR42
import Derived.Test.YtpcgeihemkhkjaaGreatDoorR46
import Derived.Test.YtpcgeihemkhkjaaGreatDoorR45
import Derived.Test.YtpcgeihemkhkjaaGreatDoorR48
import Derived.Test.YtpcgeihemkhkjaaGreatDoorR49
namespace Go.Proofs.YtpcgeihemkhkjaaGreatDoor
open Go.RowKit Go.ChangeMaps
set_option maxHeartbeats 4000000
set_option maxRecDepth 100000
attribute [local go_sem] Oper.semAt_some
theorem bst_bad {b : Bal} {l : List Pan} (h : bndE b l ≠ 0) : bstR b l = ([], 0, bndE b l) := by
 have e : Zpc b l = bndE b l := by
  unfold Zpc bndE at *
  by_cases hb : balE b = 0
  ·by_cases hp : pieE l = 0
   ·exact absurd (by simp [Z16, hb, hp]) h
   ·simp [Z16, hb, hp]
  ·simp [Z16, hb]
 unfold bstR
 rw [if_neg (by rw [e]; exact h), e]
theorem bst_many {b : Bal} {l : List Pan} (h : bndE b l = 0) (hl : 5 < l.length) : bstR b l = ([], 0, 22) := by
 obtain ⟨hb, hp⟩ := Z9g h
 have e : Zpc b l = 22 := by
  unfold Zpc; rw [hb, hp]; simp [Z16, Z14, hl]
 unfold bstR
 rw [if_neg (by rw [e]; decide), e]
theorem bst_few {b : Bal} {l : List Pan} (h : bndE b l = 0) (hl : l.length ≤ 5) : bstR b l = (bsL (Zkn b l), (match Zkn b l with | none => 0 | some z => z.2), if (Zkn b l).isSome then 0 else 23) := by
 obtain ⟨hb, hp⟩ := Z9g h
 have e : Zpc b l = 0 := by
  unfold Zpc; rw [hb, hp]; simp [Z16, Z14]
  omega
 unfold bstR
 rw [if_pos e]
 cases Zkn b l <;> rfl
theorem best_len {b : Bal} {l : List Pan} {z : List Plc × Int} (h : Zkn b l = some z) : ∃ o, o ∈ ordP l.length ∧ z = (layP l o, lenP l (layP l o)) := Zue b l _ (Nat.le_refl _) z (by rw [Zud]; exact h)
theorem baleBests_any {v1 : Value} (b : Bal) (l : List Pan) (w : World) (z0 : b.1.length ≤ maxLen) (hl : SlP w v1 l) (hn : ∀ p ∈ l, p.1.length ≤ maxLen) (hLay : LayB w) :
  Calls Tryz.prog 6 #[.agg #[sV b.1, .int .i64 b.2.1, .int .i64 b.2.2], v1] w (RV w (.bool true)) := by
 have cAw := fun W' (hb : Below w.heap.size w W') => awake5_any W' (hLay.below hb)
 have cSh := fun W' (hb : Below w.heap.size w W') => l5short_any l 6 W' (hl.below hb) hn
 obtain ⟨A1, c1, rfl⟩ := Ztf hl
 obtain ⟨q1, hq1⟩ : ∃ q, Zr8 l 6 8 = q := ⟨_, rfl⟩
 rw [hq1] at cSh
 have hB := Blk.new w 48 #[.string ⟨b.1.toArray⟩, .int .i64 b.2.1, .int .i64 b.2.2]
 have fhB := hB.facts
 unfold maxLen at z0
 clear hn
 by_cases h60 : 60 < b.1.length
 ·have t1 : (60 < (b.1.length : Int)) = True := eq_true (by omega)
  unfold sV; clear h60 hq1; go_enter Tryz.func6, Tryz.ntmps6
  go_wp2_with fail; refine (cAw _ (by (repeat first|exact J0|assumption|(apply J1;assumption)|apply J2|apply J3|apply J4))).mono ?_
  rintro e w1 ⟨rfl, hb1⟩; replace hB := hB.below (show Below _ _ w1 by (repeat first|exact J0|assumption|(apply J1;assumption)|apply J2|apply J3|apply J4))
  replace fhB := hB.facts
  go_wp2_with fail; refine (cAw _ (by (repeat first|exact J0|assumption|(apply J1;assumption)|apply J2|apply J3|apply J4))).mono ?_
  rintro e w2 ⟨rfl, hb2⟩; go_wp2; go_ret; exact ⟨rfl, by (repeat first|exact J0|assumption|(apply J1;assumption)|apply J2|apply J3|apply J4)⟩
 have t1 : (60 < (b.1.length : Int)) = False := eq_false (by omega)
 by_cases hmid : 3 < l.length ∧ l.length ≤ 5
 ·have t2 : (3 < (l.length : Int)) = True := eq_true (by omega)
  have t3 : ((l.length : Int) ≤ 5) = True := eq_true (by omega)
  unfold sV; clear h60 hq1 hmid; go_enter Tryz.func6, Tryz.ntmps6
  go_wp2_with fail; refine (cAw _ (by (repeat first|exact J0|assumption|(apply J1;assumption)|apply J2|apply J3|apply J4))).mono ?_
  rintro e w1 ⟨rfl, hb1⟩; replace hB := hB.below (show Below _ _ w1 by (repeat first|exact J0|assumption|(apply J1;assumption)|apply J2|apply J3|apply J4))
  replace fhB := hB.facts
  go_wp2_with fail; refine (cAw _ (by (repeat first|exact J0|assumption|(apply J1;assumption)|apply J2|apply J3|apply J4))).mono ?_
  rintro e w2 ⟨rfl, hb2⟩; go_wp2; go_ret; exact ⟨rfl, by (repeat first|exact J0|assumption|(apply J1;assumption)|apply J2|apply J3|apply J4)⟩
 have HM : Hid (l.length ≤ 3 ∨ 5 < l.length) := by unfold Hid; omega
 clear hmid
 cases q1
 ·unfold sV
  clear h60 hq1; rcases HM.out with h3 | h3
  ·have t2 : (3 < (l.length : Int)) = False := eq_false (by omega)
   clear h3; go_enter Tryz.func6, Tryz.ntmps6
   go_wp2_with fail; refine (cAw _ (by (repeat first|exact J0|assumption|(apply J1;assumption)|apply J2|apply J3|apply J4))).mono ?_
   rintro e w1 ⟨rfl, hb1⟩; replace hB := hB.below (show Below _ _ w1 by (repeat first|exact J0|assumption|(apply J1;assumption)|apply J2|apply J3|apply J4))
   replace fhB := hB.facts
   go_wp2_with fail; refine (cSh _ (by (repeat first|exact J0|assumption|(apply J1;assumption)|apply J2|apply J3|apply J4))).mono ?_
   rintro e w2 ⟨rfl, hb2⟩; go_wp2_with fail; refine (cAw _ (by (repeat first|exact J0|assumption|(apply J1;assumption)|apply J2|apply J3|apply J4))).mono ?_
   rintro e w3 ⟨rfl, hb3⟩; go_wp2; go_ret; exact ⟨rfl, by (repeat first|exact J0|assumption|(apply J1;assumption)|apply J2|apply J3|apply J4)⟩
  ·have t2 : (3 < (l.length : Int)) = True := eq_true (by omega)
   have t3 : ((l.length : Int) ≤ 5) = False := eq_false (by omega)
   clear h3; go_enter Tryz.func6, Tryz.ntmps6
   go_wp2_with fail; refine (cAw _ (by (repeat first|exact J0|assumption|(apply J1;assumption)|apply J2|apply J3|apply J4))).mono ?_
   rintro e w1 ⟨rfl, hb1⟩; replace hB := hB.below (show Below _ _ w1 by (repeat first|exact J0|assumption|(apply J1;assumption)|apply J2|apply J3|apply J4))
   replace fhB := hB.facts
   go_wp2_with fail; refine (cSh _ (by (repeat first|exact J0|assumption|(apply J1;assumption)|apply J2|apply J3|apply J4))).mono ?_
   rintro e w2 ⟨rfl, hb2⟩; go_wp2_with fail; refine (cAw _ (by (repeat first|exact J0|assumption|(apply J1;assumption)|apply J2|apply J3|apply J4))).mono ?_
   rintro e w3 ⟨rfl, hb3⟩; go_wp2; go_ret; exact ⟨rfl, by (repeat first|exact J0|assumption|(apply J1;assumption)|apply J2|apply J3|apply J4)⟩
 obtain ⟨hl18, hl6, hsp⟩ := shortPs_in hq1
 have hnb : b.1.length ≤ 1000000 := by omega
 have hnm : ∀ p ∈ l, p.1.length ≤ 1000000 := fun p hp => by have := (shortP_words (hsp p hp)).1; omega
 have hwl : ∀ p ∈ l, p.2.2.1.length ≤ 100000 ∧ p.2.2.2.length ≤ 100000 := fun p hp => by
  obtain ⟨_, ⟨h1, _⟩, h2, _⟩ := shortP_words (hsp p hp)
  omega
 have hwd : ∀ p ∈ l, (∀ e ∈ p.2.2.1, e.1.length ≤ 1000000) ∧ ∀ e ∈ p.2.2.2, e.1.length ≤ 1000000 := fun p hp => by
  obtain ⟨_, ⟨_, h1⟩, _, h2⟩ := shortP_words (hsp p hp)
  exact ⟨fun e he => by have := h1 e he; omega, fun e he => by have := h2 e he; omega⟩
 have cGi := fun W' (hb : Below w.heap.size w W') => l5given_any l W' (hl.below hb) (by omega) hwl
 have cBe := fun (v : Value) W' (h : SlP W' v l) => Zpm b l W' h hnb hnm (by omega)
 have cBo := fun (v : Value) W' (h : SlP W' v l) => Zq8 b l W' hnb h hnm (by omega)
 have cPi := fun W' (hb : Below w.heap.size w W') => rcheckPieces_any l W' (hl.below hb) hnm hwd (by omega)
 have cBa := fun W' => rcheckBale_any b hnb W'
 have cFi : ∀ A' c' W', Rd ic 1 W' A' [balE b, pieE l] → Calls Tryz.prog 36 #[.slice A' 2 c'] W' (RV W' (.int .i64 (bndE b l))) := fun A' c' W' hr => l5first_any [balE b, pieE l] A' c' W' (by simp [maxLen]) hr
 have HBAD := Lib.hid (bst_bad (b := b) (l := l))
 have HMAN := Lib.hid (bst_many (b := b) (l := l))
 have HFEW := Lib.hid (bst_few (b := b) (l := l))
 have HBLN := Lib.hid (fun z (h : Zkn b l = some z) => best_len h)
 have HRBO := Lib.hid (fun (h : bndE b l = 0) W' (hb : Below w.heap.size w W') => rbound_any b l W' (hl.below hb) (Zjf hnm (Z9g h).2).1 (Zjf hnm (Z9g h).2).2 (Zmg (Z9g h).1).1)
 have HRBE := Lib.hid (fun (h : bndE b l = 0) (h3 : l.length ≤ 3) W' (hb : Below w.heap.size w W') => rbest_any b l W' (hl.below hb) (Zjf hnm (Z9g h).2).1 (pcs_of (Z9g h).2 hsp) h3 (Zmg (Z9g h).1))
 have HRLN := Lib.hid (fun (h : bndE b l = 0) (h3 : l.length ≤ 3) (o : List Plc) (ho : o ∈ ordP l.length) (A' : Option Addr) (c' : Nat) W' (hb : Below w.heap.size w W') (hr : Rd plc 3 W' A' (layP l o)) => show Calls Tryz.prog 31 #[.slice A1 l.length c1, .slice A' (layP l o).length c'] W' (RV W' (.int .i64 (lenP l (layP l o)))) from by
  obtain ⟨h1, h2⟩ := Zpf ho
  have hi : InL l o := fun x hx => by
   obtain ⟨i, hi, e⟩ := h2 x hx
   unfold InP; omega
  refine Ztm l (layP l o) A' c' W' (hl.below hb) hr (Zjf hnm (Z9g h).2).1 (Zl1 hi) (fun x hx => ?_) (by rw [Zki]; omega)
  have := Zl0 (pcs_of (Z9g h).2 hsp) o [] (fun x hx => hi x (by simpa using hx)) (fun x hx => by cases hx) x hx
  simp only [List.length_nil] at this; omega)
 have HLL : Hid (∀ o, o ∈ ordP l.length → l.length ≤ 3 → (layP l o).length ≤ 100) := fun o ho h3 => by rw [Zki, (Zpf ho).1]; omega
 obtain ⟨nm, br, bl⟩ := b
 simp only [sV] at cBe cBo cBa hB fhB HRBO HRBE ⊢
 obtain ⟨⟨XL, XN, XE⟩, hX⟩ : ∃ z, bstR (nm, br, bl) l = z := ⟨_, rfl⟩
 rw [hX] at cBe HBAD HMAN HFEW
 obtain ⟨E, hE⟩ : ∃ z, bndE (nm, br, bl) l = z := ⟨_, rfl⟩
 rw [hE] at cBo cFi HBAD HMAN HFEW HRBO HRBE HRLN
 obtain ⟨⟨P1, P2⟩, hP⟩ : ∃ z, Zmy (nm, br, bl) l = z := ⟨_, rfl⟩
 rw [hP] at cBo HRBO
 simp only at cBo HRBO
 have HO1 : Hid (∀ z, E ≠ 0 → Zf2 E z = 0) := fun z h => by unfold Zf2; rw [if_neg h]
 have HO2 : Hid (∀ z, E = 0 → Zf2 E z = z) := fun z h => by unfold Zf2; rw [if_pos h]
 obtain ⟨Q1, hQ1⟩ : ∃ z, Zf2 E P1 = z := ⟨_, rfl⟩
 obtain ⟨Q2, hQ2⟩ : ∃ z, Zf2 E P2 = z := ⟨_, rfl⟩
 rw [hQ1, hQ2] at cBo
 have HQ1 := Lib.hid hQ1
 have HQ2 := Lib.hid hQ2
 have hQB : ∀ W, (binOp .eql 35 (.agg #[.int .i64 0, .int .i64 0]) (.agg #[.int .i64 0, .int .i64 0])).run Tryz.prog W = .ok (.bool true) W := fun W => by rw [eq_bds]; rfl
 clear hX hE hP hQ1 hQ2 h60 hq1 z0 hnb hnm hwl hwd hsp
 have HLen := Lib.hid (show ((3 < (l.length : Int)) = False ∧ l.length ≤ 3) ∨ ((3 < (l.length : Int)) = True ∧ ((l.length : Int) ≤ 5) = False ∧ 5 < l.length) from by
  rcases HM.out with h | h
  ·exact .inl ⟨eq_false (by omega), h⟩
  ·exact .inr ⟨eq_true (by omega), eq_false (by omega), h⟩)
 go_enter Tryz.func6, Tryz.ntmps6
 go_upto_region 1 with fail
 obtain ⟨w0, hw0⟩ : ∃ X, w.alloc (.cells #[.string ⟨nm.toArray⟩, .int .i64 br, .int .i64 bl] 48) = X := ⟨_, rfl⟩
 have hb0 : Below w.heap.size w w0 := by rw [← hw0]; exact Z03 Z02 _
 rw [hw0] at hB fhB ⊢
 clear hw0
 go_cut [35] from 13 (fun s wx => s = .bool false ∧ Below w0.heap.size w0 wx)
 case first =>
  rcases HLen.out with ⟨t2, h3⟩ | ⟨t2, t3, h5⟩
  ·clear h3
   go_wp2_with fail; refine (cAw _ (by (repeat first|exact J0|assumption|(apply J1;assumption)|apply J2|apply J3|apply J4))).mono ?_
   rintro e w1 ⟨rfl, hb1⟩; replace hB := hB.below (show Below _ _ w1 by (repeat first|exact J0|assumption|(apply J1;assumption)|apply J2|apply J3|apply J4))
   replace fhB := hB.facts
   go_wp2_with fail; refine (cSh _ (by (repeat first|exact J0|assumption|(apply J1;assumption)|apply J2|apply J3|apply J4))).mono ?_
   rintro e w2 ⟨rfl, hb2⟩; go_wp2_with fail; go_meet; case rel => exact ⟨rfl, Z07 hb2 hb1⟩
  ·clear h5
   go_wp2_with fail; refine (cAw _ (by (repeat first|exact J0|assumption|(apply J1;assumption)|apply J2|apply J3|apply J4))).mono ?_
   rintro e w1 ⟨rfl, hb1⟩; replace hB := hB.below (show Below _ _ w1 by (repeat first|exact J0|assumption|(apply J1;assumption)|apply J2|apply J3|apply J4))
   replace fhB := hB.facts
   go_wp2_with fail; refine (cSh _ (by (repeat first|exact J0|assumption|(apply J1;assumption)|apply J2|apply J3|apply J4))).mono ?_
   rintro e w2 ⟨rfl, hb2⟩; go_wp2_with fail; go_meet; case rel => exact ⟨rfl, Z07 hb2 hb1⟩
 case rest =>
  obtain ⟨rfl, hbc⟩ := hcut; obtain ⟨w2, rfl⟩ : ∃ x, x = wc := ⟨_, rfl⟩
  replace hB := hB.below hbc
  have fhB := hB.facts
  have hbw2 := Z07 hbc hb0
  clear hbc hb0 cAw cSh; go_upto_region 3 with fail; refine Z0y [0, 1] [(2, false), (3, false), (4, false), (5, true), (6, true), (7, true), (8, false), (9, false)] [10] (by kernel_rfl) (by kernel_rfl) (fun d _ _ _ _ h => by cases d <;> exact h) ?_
  simp only [List.map_cons, List.map_nil, List.getD_cons_zero, List.getD_cons_succ]; repeat (go_big_quiet_step (fail))
  refine wpQuiet_nil ?_; refine Z10 rfl (fun K hK => ?_); go_simp; refine (cGi _ (by (repeat first|exact J0|assumption|(apply J1;assumption)|apply J2|apply J3|apply J4))).mono ?_
  rintro e w3 ⟨v3, rfl, hS3, hb3⟩; refine hK _ _ (by (repeat first|exact J0|assumption|(apply J1;assumption)|apply J2|apply J3|apply J4)) ?_
  clear hK K; refine Z10 rfl (fun K hK => ?_); go_simp; refine (cBe _ _ hS3).mono ?_
  rintro e w4 ⟨v4, rfl, hO4, hb4⟩; refine hK _ _ (by (repeat first|exact J0|assumption|(apply J1;assumption)|apply J2|apply J3|apply J4)) ?_
  clear hK K; obtain ⟨A4, c4, rfl⟩ := hO4.shape; refine Z10 rfl (fun K hK => ?_); go_simp; refine hK _ _ (by (repeat first|exact J0|assumption|(apply J1;assumption)|apply J2|apply J3|apply J4)) ?_
  clear hK K; iterate 3 (refine Z13 rfl ?_; intro K hK; go_big_quiet_op; go_big_quiet_on)
  iterate 2 (refine Z10 rfl (fun K hK => ?_); go_simp; refine hK _ _ (by (repeat first|exact J0|assumption|(apply J1;assumption)|apply J2|apply J3|apply J4)) ?_; clear hK K)
  refine Z0z ?_; have hb24 : Below w2.heap.size w2 w4 := by (repeat first|exact J0|assumption|(apply J1;assumption)|apply J2|apply J3|apply J4)
  replace hB := hB.below hb24
  have fhB := hB.facts
  have hbw4 := Z07 hb24 hbw2
  clear hb3 hb4 hb24 hbw2 hS3; go_upto_region 4 with fail; go_cut [8, 9] from 45 ((fun s8 s9 wx => ∃ g, s8 = .pointer (some ⟨g, 0, none⟩) ∧ s9 = .int .i64 E ∧ Blk wx g 35 #[.int .i64 Q1, .int .i64 Q2] ∧ Below w4.heap.size w4 wx))
  case first =>
   refine Z5c [0, 1] (.alt (.br 2 (.alt (.br 3 (.take 4 (.take 5 (.take 6 (.alt (.br 7 (.alt (.br 8 (.fin) (.stop))) (.stop)))))) (.br 7 (.alt (.br 3 (.take 4 (.take 5 (.take 6 (.alt (.br 8 (.fin) (.stop)))))) (.stop))) (.stop)))) (.br 7 (.alt (.br 2 (.alt (.br 3 (.take 4 (.take 5 (.take 6 (.alt (.br 8 (.fin) (.stop)))))) (.stop))) (.stop))) (.stop)))) [9] (by kernel_rfl) (by kernel_rfl) (fun d _ _ _ _ h => by cases d <;> exact h) ?_
   simp only [List.map_cons, List.map_nil, List.getD_cons_zero, List.getD_cons_succ]; repeat (go_big_quiet_step (fail))
   refine wpQuiet_nil ?_; refine Z5e (Z5g rfl rfl ?_ (Z5g rfl rfl ?_ Z5f))
   ·intro K hK
    go_simp; refine (cGi _ (Z07 (by (repeat first|exact J0|assumption|(apply J1;assumption)|apply J2|apply J3|apply J4)) hbw4)).mono ?_
    rintro e w5 ⟨v5, rfl, hS5, hb5⟩; refine hK _ _ (by (repeat first|exact J0|assumption|(apply J1;assumption)|apply J2|apply J3|apply J4)) ?_
    clear hK K; refine Z5e (Z5g rfl rfl ?_ (Z5g rfl rfl ?_ Z5f))
    ·intro K hK
     go_simp; refine (cBo _ _ (hS5.below (by (repeat first|exact J0|assumption|(apply J1;assumption)|apply J2|apply J3|apply J4)))).mono ?_
     rintro e w6 ⟨rfl, hb6⟩; refine hK _ _ (by (repeat first|exact J0|assumption|(apply J1;assumption)|apply J2|apply J3|apply J4)) ?_
     clear hK K; refine wpTree_take rfl rfl ?_; intro K hK; simp only [Array.getD_eq_getD_getElem?, List.getElem?_toArray, List.getElem?_cons_succ, List.getElem?_cons_zero, Option.getD_some]; go_big_quiet_op; go_big_quiet_on
     refine wpTree_take rfl rfl ?_; intro K hK; simp only [Array.getD_eq_getD_getElem?, List.getElem?_toArray, List.getElem?_cons_succ, List.getElem?_cons_zero, Option.getD_some]; go_big_quiet_op; go_big_quiet_on
     refine wpTree_take rfl rfl ?_; intro K hK; simp only [Array.getD_eq_getD_getElem?, List.getElem?_toArray, List.getElem?_cons_succ, List.getElem?_cons_zero, Option.getD_some]; go_big_quiet_op; go_big_quiet_on
     refine Z5e (Z5g rfl rfl ?_ Z5f); have hS0 := Blk.new (w6) 35 #[.int .i64 0, .int .i64 0]
     intro K hK; go_simp; refine hK _ _ (by (repeat first|exact J0|assumption|(apply J1;assumption)|apply J2|apply J3|apply J4)) ?_
     clear hK K; refine Z5e (Z5g rfl rfl ?_ Z5f); have hS1 := hS0.below (show Below _ _ (w6.alloc (.cells #[.int .i64 0, .int .i64 0] 35)) by (repeat first|exact J0|assumption|(apply J1;assumption)|apply J2|apply J3|apply J4))
     intro K hK; simp only [Array.getD_eq_getD_getElem?, List.getElem?_toArray, List.getElem?_cons_succ, List.getElem?_cons_zero, Option.getD_some]; refine Z99 hS1 _ _ _ rfl rfl rfl rfl (by kernel_rfl) (by kernel_rfl) ?_
     intro w7 hS7 hc7; have hg7 : w4.heap.size ≤ (w6).heap.size := Below.size (show Below w4.heap.size w4 (w6) by (repeat first|exact J0|assumption|(apply J1;assumption)|apply J2|apply J3|apply J4))
     have hb7 : Below w4.heap.size w4 w7 := Z9a (by (repeat first|exact J0|assumption|(apply J1;assumption)|apply J2|apply J3|apply J4)) hc7 hg7
     refine hK _ _ (Z9a (by (repeat first|exact J0|assumption|(apply J1;assumption)|apply J2|apply J3|apply J4)) hc7 (by first | exact Nat.le_refl _ | exact hg7)) ?_
     clear hK K; refine Z5d ?_; go_wp2_with fail; go_meet; case rel => exact ⟨((w6).heap.size), rfl, rfl, hS7, hb7⟩
    ·have hS0 := Blk.new (w5) 35 #[.int .i64 0, .int .i64 0]
     intro K hK; go_simp; refine hK _ _ (by (repeat first|exact J0|assumption|(apply J1;assumption)|apply J2|apply J3|apply J4)) ?_
     clear hK K; refine Z5e (Z5g rfl rfl ?_ Z5f); intro K hK; go_simp; refine (cBo _ _ (hS5.below (by (repeat first|exact J0|assumption|(apply J1;assumption)|apply J2|apply J3|apply J4)))).mono ?_
     rintro e w6 ⟨rfl, hb6⟩; refine hK _ _ (by (repeat first|exact J0|assumption|(apply J1;assumption)|apply J2|apply J3|apply J4)) ?_
     clear hK K; refine wpTree_take rfl rfl ?_; intro K hK; simp only [Array.getD_eq_getD_getElem?, List.getElem?_toArray, List.getElem?_cons_succ, List.getElem?_cons_zero, Option.getD_some]; go_big_quiet_op; go_big_quiet_on
     refine wpTree_take rfl rfl ?_; intro K hK; simp only [Array.getD_eq_getD_getElem?, List.getElem?_toArray, List.getElem?_cons_succ, List.getElem?_cons_zero, Option.getD_some]; go_big_quiet_op; go_big_quiet_on
     refine wpTree_take rfl rfl ?_; intro K hK; simp only [Array.getD_eq_getD_getElem?, List.getElem?_toArray, List.getElem?_cons_succ, List.getElem?_cons_zero, Option.getD_some]; go_big_quiet_op; go_big_quiet_on
     refine Z5e (Z5g rfl rfl ?_ Z5f); have hS1 := hS0.below (show Below _ _ (w6) by (repeat first|exact J0|assumption|(apply J1;assumption)|apply J2|apply J3|apply J4))
     intro K hK; simp only [Array.getD_eq_getD_getElem?, List.getElem?_toArray, List.getElem?_cons_succ, List.getElem?_cons_zero, Option.getD_some]; refine Z99 hS1 _ _ _ rfl rfl rfl rfl (by kernel_rfl) (by kernel_rfl) ?_
     intro w7 hS7 hc7; have hg7 : w4.heap.size ≤ (w5).heap.size := Below.size (show Below w4.heap.size w4 (w5) by (repeat first|exact J0|assumption|(apply J1;assumption)|apply J2|apply J3|apply J4))
     have hb7 : Below w4.heap.size w4 w7 := Z9a (by (repeat first|exact J0|assumption|(apply J1;assumption)|apply J2|apply J3|apply J4)) hc7 hg7
     refine hK _ _ (Z9a (by (repeat first|exact J0|assumption|(apply J1;assumption)|apply J2|apply J3|apply J4)) hc7 (by first | exact Nat.le_refl _ | exact hg7)) ?_
     clear hK K; refine Z5d ?_; go_wp2_with fail; go_meet; case rel => exact ⟨((w5).heap.size), rfl, rfl, hS7, hb7⟩
   ·have hS0 := Blk.new (w4.drew) 35 #[.int .i64 0, .int .i64 0]
    intro K hK; go_simp; refine hK _ _ (by (repeat first|exact J0|assumption|(apply J1;assumption)|apply J2|apply J3|apply J4)) ?_
    clear hK K; refine Z5e (Z5g rfl rfl ?_ Z5f); intro K hK; go_simp; refine (cGi _ (Z07 (by (repeat first|exact J0|assumption|(apply J1;assumption)|apply J2|apply J3|apply J4)) hbw4)).mono ?_
    rintro e w5 ⟨v5, rfl, hS5, hb5⟩; refine hK _ _ (by (repeat first|exact J0|assumption|(apply J1;assumption)|apply J2|apply J3|apply J4)) ?_
    clear hK K; refine Z5e (Z5g rfl rfl ?_ Z5f); intro K hK; go_simp; refine (cBo _ _ (hS5.below (by (repeat first|exact J0|assumption|(apply J1;assumption)|apply J2|apply J3|apply J4)))).mono ?_
    rintro e w6 ⟨rfl, hb6⟩; refine hK _ _ (by (repeat first|exact J0|assumption|(apply J1;assumption)|apply J2|apply J3|apply J4)) ?_
    clear hK K; refine wpTree_take rfl rfl ?_; intro K hK; simp only [Array.getD_eq_getD_getElem?, List.getElem?_toArray, List.getElem?_cons_succ, List.getElem?_cons_zero, Option.getD_some]; go_big_quiet_op; go_big_quiet_on
    refine wpTree_take rfl rfl ?_; intro K hK; simp only [Array.getD_eq_getD_getElem?, List.getElem?_toArray, List.getElem?_cons_succ, List.getElem?_cons_zero, Option.getD_some]; go_big_quiet_op; go_big_quiet_on
    refine wpTree_take rfl rfl ?_; intro K hK; simp only [Array.getD_eq_getD_getElem?, List.getElem?_toArray, List.getElem?_cons_succ, List.getElem?_cons_zero, Option.getD_some]; go_big_quiet_op; go_big_quiet_on
    refine Z5e (Z5g rfl rfl ?_ Z5f); have hS1 := hS0.below (show Below _ _ (w6) by (repeat first|exact J0|assumption|(apply J1;assumption)|apply J2|apply J3|apply J4))
    intro K hK; simp only [Array.getD_eq_getD_getElem?, List.getElem?_toArray, List.getElem?_cons_succ, List.getElem?_cons_zero, Option.getD_some]; refine Z99 hS1 _ _ _ rfl rfl rfl rfl (by kernel_rfl) (by kernel_rfl) ?_
    intro w7 hS7 hc7; have hg7 : w4.heap.size ≤ (w4.drew).heap.size := Below.size (show Below w4.heap.size w4 (w4.drew) by (repeat first|exact J0|assumption|(apply J1;assumption)|apply J2|apply J3|apply J4))
    have hb7 : Below w4.heap.size w4 w7 := Z9a (by (repeat first|exact J0|assumption|(apply J1;assumption)|apply J2|apply J3|apply J4)) hc7 hg7
    refine hK _ _ (Z9a (by (repeat first|exact J0|assumption|(apply J1;assumption)|apply J2|apply J3|apply J4)) hc7 (by first | exact Nat.le_refl _ | exact hg7)) ?_
    clear hK K; refine Z5d ?_; go_wp2_with fail; go_meet; case rel => exact ⟨((w4.drew).heap.size), rfl, rfl, hS7, hb7⟩
  case rest =>
   obtain ⟨g8, rfl, rfl, hY, hbc⟩ := hcut; obtain ⟨w7, rfl⟩ : ∃ x, x = wc := ⟨_, rfl⟩
   replace hB := hB.below hbc
   have hO7 := hO4.below hbc
   have hbw7 := Z07 hbc hbw4
   have fhB := hB.facts
   clear hbc hO4 hbw4 cGi cBe cBo; go_wp2_with fail; refine (cBa _).mono ?_
   rintro e w8 ⟨rfl, hb8⟩; go_wp2_with fail; refine (cPi _ (Z07 hb8 hbw7)).mono ?_
   rintro e w9 ⟨rfl, hb9⟩; go_wp2_with fail; go_must (refine (cFi _ _ _ (Rd.ints2 (by simp) (by go_simp) (by go_simp))).mono ?_)
   rintro e w10 ⟨rfl, hb10⟩; have hb710 : Below w7.heap.size w7 w10 := by (repeat first|exact J0|assumption|(apply J1;assumption)|apply J2|apply J3|apply J4)
   replace hB := hB.below hb710
   replace hY := hY.below hb710
   have hO10 := hO7.below hb710
   have hbw10 := Z07 hb710 hbw7
   have fhB := hB.facts
   have fhY := hY.facts
   clear hb8 hb9 hb10 hb710 hO7 hbw7 cBa cPi cFi; by_cases hz : E = 0
   case neg =>
    have h1 := HBAD.out hz
    obtain ⟨g1, g2, g3⟩ : XL = [] ∧ XN = 0 ∧ XE = E := by simpa using h1
    subst g1 g2; have g4 := g3.symm
    subst g4; clear h1 g3; obtain rfl : 0 = Q1 := by rw [← HQ1.out, HO1.out _ hz]
    obtain rfl : 0 = Q2 := by rw [← HQ2.out, HO1.out _ hz]
    have cLd := fun (A' : Option Addr) (c' : Nat) W' (h : Rd plc 3 W' A' []) => l5laid_any (c := c') (A := A') (d := 0) (B := none) [] [] E E W' h (fun i z hz => by simp at hz) (by simp) (by simp)
    rw [ldB_none hz] at cLd; have t5 : (E != 0) = true := by simp [hz]
    obtain ⟨_, _, he6, _, _, r6⟩ := hO10.rd Zix
    obtain ⟨rfl, rfl⟩ : A4 = _ ∧ c4 = _ := by simpa using he6
    clear hz HBAD HMAN HFEW HBLN HRBO HRBE HRLN HLL HO1 HO2 HQ1 HQ2; go_wp2_with fail; refine (cLd _ _ _ r6).mono ?_
    rintro e w11 ⟨rfl, hb11⟩; replace hB := hB.below (show Below _ _ w11 by (repeat first|exact J0|assumption|(apply J1;assumption)|apply J2|apply J3|apply J4))
    replace fhB := hB.facts
    replace hY := hY.below (show Below _ _ w11 by (repeat first|exact J0|assumption|(apply J1;assumption)|apply J2|apply J3|apply J4))
    replace fhY := hY.facts
    go_wp2; go_ret; exact ⟨rfl, Z07 hb11 hbw10⟩
   subst hz; obtain rfl : P1 = Q1 := by rw [← HQ1.out, HO2.out _ rfl]
   obtain rfl : P2 = Q2 := by rw [← HQ2.out, HO2.out _ rfl]
   have cRB := HRBO.out rfl
   have hNB : ∀ W, (binOp .neq 79 (.agg #[.int .i64 P1, .int .i64 P2]) (.agg #[.int .i64 P1, .int .i64 P2])).run Tryz.prog W = .ok (.bool false) W := fun W => by rw [neq_rbds]; simp
   clear HBAD HRBO HO1 HO2 HQ1 HQ2; go_upto_region 8 with fail; refine Z0y [0, 1, 2, 3, 4, 5] [(6, false)] [7, 8] (by kernel_rfl) (by kernel_rfl) (fun d _ _ _ _ h => by cases d <;> exact h) ?_
   simp only [List.map_cons, List.map_nil, List.getD_cons_zero, List.getD_cons_succ]; repeat (go_big_quiet_step (fail))
   refine wpQuiet_nil ?_; refine Z10 rfl (fun K hK => ?_); go_simp; refine (cRB _ (by (repeat first|exact J0|assumption|(apply J1;assumption)|apply J2|apply J3|apply J4))).mono ?_
   rintro e w11 ⟨rfl, hb11⟩; refine hK _ _ (by (repeat first|exact J0|assumption|(apply J1;assumption)|apply J2|apply J3|apply J4)) ?_
   clear hK K; refine Z0z ?_; have hb1011 : Below w10.heap.size w10 w11 := by (repeat first|exact J0|assumption|(apply J1;assumption)|apply J2|apply J3|apply J4)
   replace hB := hB.below hb1011
   have hO11 := hO10.below hb1011
   have hbw11 := Z07 hb1011 hbw10
   have fhB := hB.facts
   clear hb11 hb1011 hO10 hbw10 hY fhY cRB hNB; rcases HLen.out with ⟨t2, h3⟩ | ⟨t2, t3, h5⟩
   ·skip
    have t5 : (5 < (l.length : Int)) = False := eq_false (by omega)
    have hf := HFEW.out (by trivial) (by omega)
    have cRe := HRBE.out (by trivial) h3
    have HRL := Lib.hid (HRLN.out (by trivial) h3)
    obtain ⟨a, ha⟩ : ∃ z, Zkn (nm, br, bl) l = z := ⟨_, rfl⟩
    rw [ha] at hf cRe HBLN; clear ha HMAN HFEW HRBE HRLN; go_wp2_with fail; refine (cRe _ hbw11).mono ?_
    rintro e w12 ⟨v12, rfl, hO12, hb12⟩; have hO13 := hO11.below hb12
    have hbw12 := Z07 hb12 hbw11
    clear hO11 hB fhB hb12 hbw11 cRe; cases a with
    | none =>
     cases hf
     have cLd := fun (A' : Option Addr) (c' : Nat) W' (h : Rd plc 3 W' A' []) => l5laid_any (c := c') (A := A') (d := 0) (B := none) [] [] 23 23 W' h (fun i z hz => by simp at hz) (by simp) (by simp)
     rw [ldB_none (by decide)] at cLd
     obtain ⟨_, _, he6, _, _, r6⟩ := hO13.rd Zix
     obtain ⟨rfl, rfl⟩ : A4 = _ ∧ c4 = _ := by simpa [bsL] using he6
     clear HBLN HRL HLL h3; go_wp2_with fail; refine (cLd _ _ _ r6).mono ?_
     rintro e w13 ⟨rfl, hb13⟩; go_wp2; go_ret; exact ⟨rfl, Z07 hb13 hbw12⟩
    | some z =>
     obtain ⟨o, ho, rfl⟩ := HBLN.out z rfl
     have hll := HLL.out o ho h3
     have cRL := HRL.out o ho
     cases hf
     have cLd := fun (A' B' : Option Addr) (c' d' : Nat) W' (h : Rd plc 3 W' A' (layP l o)) (h' : Rd plc 3 W' B' (layP l o)) => l5laid_any (c := c') (A := A') (d := d') (B := B') (layP l o) (layP l o) 0 0 W' h h' (by omega) (by omega)
     rw [ldB_same] at cLd; rw [show bsL (some (layP l o, lenP l (layP l o))) = layP l o from rfl] at hO12 hO13
     obtain ⟨Q, hQ⟩ : ∃ z, layP l o = z := ⟨_, rfl⟩
     have HBS : Hid (bsL (some (layP l o, lenP l (layP l o))) = Q) := hQ
     rw [HBS.out]; rw [hQ] at cRL cLd hO12 hO13; obtain ⟨LN, hLN⟩ : ∃ z, lenP l Q = z := ⟨_, rfl⟩
     rw [hQ, hLN]; rw [hLN] at cRL; obtain ⟨A12, c12, rfl⟩ := hO12.shape; obtain ⟨_, _, he6, _, _, r6⟩ := hO13.rd Zix
     obtain ⟨rfl, rfl⟩ : A4 = _ ∧ c4 = _ := by simpa [HBS.out] using he6
     obtain ⟨_, _, he12, _, _, r12⟩ := hO12.rd Zix
     obtain ⟨rfl, rfl⟩ : A12 = _ ∧ c12 = _ := by simpa using he12
     clear HBLN HRL HLL h3 hQ hLN hll ho; go_wp2_with fail; refine (cLd _ _ _ _ _ r6 r12).mono ?_
     rintro e w13 ⟨rfl, hb13⟩; go_wp2_with fail; refine (cRL _ _ _ (Z07 hb13 hbw12) (r12.below hb13)).mono ?_
     rintro e w14 ⟨rfl, hb14⟩; go_wp2; go_ret; exact ⟨rfl, Z07 hb14 (Z07 hb13 hbw12)⟩
   ·skip
    have t5 : (5 < (l.length : Int)) = True := eq_true (by omega)
    have hf := HMAN.out (by trivial) h5
    cases hf
    have cLd := fun (A' : Option Addr) (c' : Nat) W' (h : Rd plc 3 W' A' []) => l5laid_any (c := c') (A := A') (d := 0) (B := none) [] [] 22 22 W' h (fun i z hz => by simp at hz) (by simp) (by simp)
    rw [ldB_none (by decide)] at cLd
    obtain ⟨_, _, he6, _, _, r6⟩ := hO11.rd Zix
    obtain ⟨rfl, rfl⟩ : A4 = _ ∧ c4 = _ := by simpa using he6
    clear HMAN HFEW HRBE HRLN HBLN HLL h5 hB fhB; go_wp2_with fail; refine (cLd _ _ _ r6).mono ?_
    rintro e w12 ⟨rfl, hb12⟩; go_wp2; go_ret; exact ⟨rfl, Z07 hb12 hbw11⟩
end Go.Proofs.YtpcgeihemkhkjaaGreatDoor

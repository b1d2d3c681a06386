/- BalePlans, walked. Conditions: the variables are laid. -/
import Derived.Test.YtpcgeihemkhkjaaGreatDoorS42
import Derived.Test.YtpcgeihemkhkjaaGreatDoorS46
import Derived.Test.YtpcgeihemkhkjaaGreatDoorS45
import Derived.Test.YtpcgeihemkhkjaaGreatDoorS48
namespace Go.Proofs.YtpcgeihemkhkjaaGreatDoor
open Go.RowKit Go.ChangeMaps
set_option maxHeartbeats 4000000
set_option maxRecDepth 100000
attribute [local go_sem] Oper.semAt_some
theorem OwRR.none_ {base : Nat} {w : World} {v : Value} (h : OwRR base w v []) : ∃ A c, v = .slice A 0 c := by
 obtain ⟨ts, hT, hR⟩ := h
 obtain rfl : ts = [] := List.eq_nil_of_length_eq_zero hR.len
 obtain ⟨A, c, rfl⟩ := hT.shape
 exact ⟨A, c, rfl⟩
theorem balePlans_any {v1 v2 : Value} (b : Bal) (l : List Pan) (x : List Plc) (w : World) (z0 : b.1.length ≤ maxLen) (hl : SlP w v1 l) (hn : ∀ p ∈ l, p.1.length ≤ maxLen) (hx : Sl plc 3 w v2 x) (hLay : LayB w) :
  Calls Tryz.prog 4 #[.agg #[sV b.1, .int .i64 b.2.1, .int .i64 b.2.2], v1, v2] w (RV w (.bool true)) := by
 have cAw := fun W' (hb : Below w.heap.size w W') => awake5_any W' (hLay.below hb)
 have cSh := fun W' (hb : Below w.heap.size w W') => l5short_any l 4 W' (hl.below hb) hn
 obtain ⟨A, c, rfl, hxc, _, hr⟩ := hx
 obtain ⟨A1, c1, rfl⟩ := Zty hl
 have cFw := fun W' => l5few_any x.length A c W'
 obtain ⟨q1, hq1⟩ : ∃ q, Zrg l 4 8 = q := ⟨_, rfl⟩
 obtain ⟨q2, hq2⟩ : ∃ q, fewB x.length = q := ⟨_, rfl⟩
 rw [hq1] at cSh
 rw [hq2] at cFw
 have hB := Blk.new w 48 #[.string ⟨b.1.toArray⟩, .int .i64 b.2.1, .int .i64 b.2.2]
 have fhB := hB.facts
 unfold maxLen at z0
 clear hn
 by_cases h60 : 60 < b.1.length
 ·have t1 : (60 < (b.1.length : Int)) = True := eq_true (by omega)
  unfold sV; clear h60 hq1 hq2; go_enter Tryz.func4, Tryz.ntmps4
  go_wp2_with fail; refine (cAw _ (by (repeat first|exact J0|assumption|(apply J1;assumption)|apply J2|apply J3|apply J4))).mono ?_
  rintro e w1 ⟨rfl, hb1⟩; replace hB := hB.below (show Below _ _ w1 by (repeat first|exact J0|assumption|(apply J1;assumption)|apply J2|apply J3|apply J4))
  replace fhB := hB.facts
  go_wp2_with fail; refine (cAw _ (by (repeat first|exact J0|assumption|(apply J1;assumption)|apply J2|apply J3|apply J4))).mono ?_
  rintro e w2 ⟨rfl, hb2⟩; go_wp2; go_ret; exact ⟨rfl, by (repeat first|exact J0|assumption|(apply J1;assumption)|apply J2|apply J3|apply J4)⟩
 have t1 : (60 < (b.1.length : Int)) = False := eq_false (by omega)
 cases q1
 ·unfold sV
  clear h60 hq1 hq2; go_enter Tryz.func4, Tryz.ntmps4
  go_wp2_with fail; refine (cAw _ (by (repeat first|exact J0|assumption|(apply J1;assumption)|apply J2|apply J3|apply J4))).mono ?_
  rintro e w1 ⟨rfl, hb1⟩; replace hB := hB.below (show Below _ _ w1 by (repeat first|exact J0|assumption|(apply J1;assumption)|apply J2|apply J3|apply J4))
  replace fhB := hB.facts
  go_wp2_with fail; refine (cSh _ (by (repeat first|exact J0|assumption|(apply J1;assumption)|apply J2|apply J3|apply J4))).mono ?_
  rintro e w2 ⟨rfl, hb2⟩; go_wp2_with fail; refine (cAw _ (by (repeat first|exact J0|assumption|(apply J1;assumption)|apply J2|apply J3|apply J4))).mono ?_
  rintro e w3 ⟨rfl, hb3⟩; go_wp2; go_ret; exact ⟨rfl, by (repeat first|exact J0|assumption|(apply J1;assumption)|apply J2|apply J3|apply J4)⟩
 cases q2
 ·unfold sV
  clear h60 hq1 hq2; go_enter Tryz.func4, Tryz.ntmps4
  go_wp2_with fail; refine (cAw _ (by (repeat first|exact J0|assumption|(apply J1;assumption)|apply J2|apply J3|apply J4))).mono ?_
  rintro e w1 ⟨rfl, hb1⟩; replace hB := hB.below (show Below _ _ w1 by (repeat first|exact J0|assumption|(apply J1;assumption)|apply J2|apply J3|apply J4))
  replace fhB := hB.facts
  go_wp2_with fail; refine (cSh _ (by (repeat first|exact J0|assumption|(apply J1;assumption)|apply J2|apply J3|apply J4))).mono ?_
  rintro e w2 ⟨rfl, hb2⟩; go_wp2_with fail; refine (cFw _).mono ?_
  rintro e w3 ⟨rfl, hb3⟩; go_wp2_with fail; refine (cAw _ (by (repeat first|exact J0|assumption|(apply J1;assumption)|apply J2|apply J3|apply J4))).mono ?_
  rintro e w4 ⟨rfl, hb4⟩; go_wp2; go_ret; exact ⟨rfl, by (repeat first|exact J0|assumption|(apply J1;assumption)|apply J2|apply J3|apply J4)⟩
 obtain ⟨hl18, hl4, hsp⟩ := shortPs_in hq1
 have hx18 : x.length ≤ 18 := by
  unfold fewB at hq2; simp only [Bool.or_eq_true, Bool.and_eq_true, decide_eq_true_eq] at hq2; omega
 have hnb : b.1.length ≤ 1000000 := by omega
 have hnm : ∀ p ∈ l, p.1.length ≤ 1000000 := fun p hp => by have := (shortP_words (hsp p hp)).1; omega
 have hwl : ∀ p ∈ l, p.2.2.1.length ≤ 100000 ∧ p.2.2.2.length ≤ 100000 := fun p hp => by
  obtain ⟨_, ⟨h1, _⟩, h2, _⟩ := shortP_words (hsp p hp)
  omega
 have hwd : ∀ p ∈ l, (∀ e ∈ p.2.2.1, e.1.length ≤ 1000000) ∧ ∀ e ∈ p.2.2.2, e.1.length ≤ 1000000 := fun p hp => by
  obtain ⟨_, ⟨_, h1⟩, _, h2⟩ := shortP_words (hsp p hp)
  exact ⟨fun e he => by have := h1 e he; omega, fun e he => by have := h2 e he; omega⟩
 have cGi := fun W' (hb : Below w.heap.size w W') => l5given_any l W' (hl.below hb) (by omega) hwl
 have cPn := fun W' (hb : Below w.heap.size w W') => l5plan_any x A c W' (hr.below hb) (by omega)
 have cLa := fun (v u : Value) W' (h : SlP W' v l) (h' : SlL W' u x) => Zml l x W' h h' hnm (by omega) (by omega)
 have cCp := fun (v u : Value) W' (h : SlP W' v l) (h' : SlL W' u x) => Zmq b l x W' hnb h h' hnm (by omega) (by omega)
 have cLe := fun (v u : Value) W' (h : SlP W' v l) (h' : SlL W' u x) => Zmn l x W' h h' hnm (by omega) (by omega)
 have cNe := fun (v u : Value) W' (h : SlP W' v l) (h' : SlL W' u x) => Zq4 l x W' h h' hnm (by omega) (by omega)
 have cPi := fun W' (hb : Below w.heap.size w W') => rcheckPieces_any l W' (hl.below hb) hnm hwd (by omega)
 have cPl := fun W' (hb : Below w.heap.size w W') => rcheckPlaces_any x l.length A c W' (hr.below hb)
 have cBa := fun W' => rcheckBale_any b hnb W'
 simp only [sV] at cCp cBa ⊢
 have HCP : Hid (cpnE b l x = if cpaE b l x = 0 then fitE b l x else cpaE b l x) := rfl
 have HCA : Hid (cpaE b l x = Z17 [balE b, Zmg l x]) := rfl
 have HBO : Hid (Zmg l x = if pieE l = 0 then plcE l.length x else pieE l) := rfl
 have HNE : Hid (Zq0 l x = if Zmg l x = 0 then nsE l x else Zmg l x) := rfl
 obtain ⟨LA, hLA⟩ : ∃ z, Z5w (Zmg l x) (layP l x) = z := ⟨_, rfl⟩
 obtain ⟨LN, hLN⟩ : ∃ z, Zfc (Zmg l x) (lenP l x) = z := ⟨_, rfl⟩
 obtain ⟨E1, hE1⟩ : ∃ z, Zmg l x = z := ⟨_, rfl⟩
 obtain ⟨NL, hNL⟩ : ∃ z, Zq1 l x = z := ⟨_, rfl⟩
 obtain ⟨NE, hNE⟩ : ∃ z, Zq0 l x = z := ⟨_, rfl⟩
 obtain ⟨CP, hCP⟩ : ∃ z, cpnE b l x = z := ⟨_, rfl⟩
 rw [hLA, hE1] at cLa
 rw [hLN, hE1] at cLe
 rw [hNL, hNE] at cNe
 rw [hCP] at cCp
 have HE := Lib.hid (And.intro hLA (And.intro hLN (And.intro hE1 (And.intro hNL (And.intro hNE hCP)))))
 clear hLA hLN hE1 hNL hNE hCP
 clear h60 hq1 hq2 z0
 go_enter Tryz.func4, Tryz.ntmps4
 go_wp2_with fail
 refine (cAw _ (by (repeat first|exact J0|assumption|(apply J1;assumption)|apply J2|apply J3|apply J4))).mono ?_
 rintro e w1 ⟨rfl, hb1⟩
 replace hB := hB.below (show Below _ _ w1 by (repeat first|exact J0|assumption|(apply J1;assumption)|apply J2|apply J3|apply J4))
 replace fhB := hB.facts
 go_wp2_with fail
 refine (cSh _ (by (repeat first|exact J0|assumption|(apply J1;assumption)|apply J2|apply J3|apply J4))).mono ?_
 rintro e w2 ⟨rfl, hb2⟩
 replace hB := hB.below (show Below _ _ w2 by (repeat first|exact J0|assumption|(apply J1;assumption)|apply J2|apply J3|apply J4))
 replace fhB := hB.facts
 go_wp2_with fail
 refine (cFw _).mono ?_
 rintro e w3 ⟨rfl, hb3⟩
 replace hB := hB.below (show Below _ _ w3 by (repeat first|exact J0|assumption|(apply J1;assumption)|apply J2|apply J3|apply J4))
 replace fhB := hB.facts
 have hbw3 : Below w.heap.size w w3 := by (repeat first|exact J0|assumption|(apply J1;assumption)|apply J2|apply J3|apply J4)
 clear hb1 hb2 hb3
 go_wp2_with fail
 refine (cGi _ hbw3).mono ?_
 rintro e w4 ⟨v4, rfl, hS4, hb4⟩
 replace hB := hB.below (show Below _ _ w4 by (repeat first|exact J0|assumption|(apply J1;assumption)|apply J2|apply J3|apply J4))
 replace fhB := hB.facts
 go_wp2_with fail
 refine (cPn _ (by (repeat first|exact J0|assumption|(apply J1;assumption)|apply J2|apply J3|apply J4))).mono ?_
 rintro e w5 ⟨v5, rfl, hO5, hb5⟩
 replace hB := hB.below (show Below _ _ w5 by (repeat first|exact J0|assumption|(apply J1;assumption)|apply J2|apply J3|apply J4))
 replace fhB := hB.facts
 go_wp2_with fail
 refine (cLa _ _ _ (hS4.below hb5) (hO5.rd Zj7)).mono ?_
 rintro e w6 ⟨v6, rfl, hO6, hb6⟩
 replace hB := hB.below (show Below _ _ w6 by (repeat first|exact J0|assumption|(apply J1;assumption)|apply J2|apply J3|apply J4))
 replace fhB := hB.facts
 obtain ⟨A6, c6, rfl⟩ := hO6.shape
 have hbw6 : Below w.heap.size w w6 := by (repeat first|exact J0|assumption|(apply J1;assumption)|apply J2|apply J3|apply J4)
 clear hb4 hb5 hb6 hS4 hO5 hbw3
 go_upto_region 4 with fail
 refine Z0z [0, 1, 3] [(2, false), (4, false)] [5, 6] (by kernel_rfl) (by kernel_rfl) (fun d _ _ _ _ h => by cases d <;> exact h) ?_
 simp only [List.map_cons, List.map_nil, List.getD_cons_zero, List.getD_cons_succ]
 repeat (go_big_quiet_step (fail))
 refine wpQuiet_nil ?_
 refine Z11 rfl (fun K hK => ?_)
 go_simp
 refine (cGi _ (by (repeat first|exact J0|assumption|(apply J1;assumption)|apply J2|apply J3|apply J4))).mono ?_
 rintro e w7 ⟨v7, rfl, hS7, hb7⟩
 refine hK _ _ (by (repeat first|exact J0|assumption|(apply J1;assumption)|apply J2|apply J3|apply J4)) ?_
 clear hK K
 refine Z11 rfl (fun K hK => ?_)
 go_simp
 refine (cPn _ (by (repeat first|exact J0|assumption|(apply J1;assumption)|apply J2|apply J3|apply J4))).mono ?_
 rintro e w8 ⟨v8, rfl, hO8, hb8⟩
 refine hK _ _ (by (repeat first|exact J0|assumption|(apply J1;assumption)|apply J2|apply J3|apply J4)) ?_
 clear hK K
 refine Z10 ?_
 go_wp2_with fail
 refine (cCp _ _ _ (hS7.below (by (repeat first|exact J0|assumption|(apply J1;assumption)|apply J2|apply J3|apply J4))) (hO8.rd Zj7)).mono ?_
 rintro e w9 ⟨rfl, hb9⟩
 have hb69 : Below w6.heap.size w6 w9 := by (repeat first|exact J0|assumption|(apply J1;assumption)|apply J2|apply J3|apply J4)
 replace hB := hB.below hb69
 have hO9 := hO6.below hb69
 have hbw9 := Z08 hb69 hbw6
 clear hb7 hb8 hb9 hS7 hO8 hO6 hb69 hbw6 fhB
 go_wp2_with fail
 refine (cGi _ hbw9).mono ?_
 rintro e w10 ⟨v10, rfl, hS10, hb10⟩
 go_wp2_with fail
 refine (cPn _ (Z08 hb10 hbw9)).mono ?_
 rintro e w11 ⟨v11, rfl, hO11, hb11⟩
 go_wp2_with fail
 refine (cLe _ _ _ (hS10.below hb11) (hO11.rd Zj7)).mono ?_
 rintro e w12 ⟨rfl, hb12⟩
 have hb912 : Below w9.heap.size w9 w12 := by (repeat first|exact J0|assumption|(apply J1;assumption)|apply J2|apply J3|apply J4)
 have hbw12 := Z08 hb912 hbw9
 clear hb10 hb11 hb12 hS10 hO11
 go_wp2_with fail
 refine (cGi _ hbw12).mono ?_
 rintro e w13 ⟨v13, rfl, hS13, hb13⟩
 go_wp2_with fail
 refine (cPn _ (Z08 hb13 hbw12)).mono ?_
 rintro e w14 ⟨v14, rfl, hO14, hb14⟩
 go_wp2_with fail
 refine (cNe _ _ _ (hS13.below hb14) (hO14.rd Zj7)).mono ?_
 rintro e w15 ⟨v15, rfl, hM15, hb15⟩
 have hb915 : Below w9.heap.size w9 w15 := by (repeat first|exact J0|assumption|(apply J1;assumption)|apply J2|apply J3|apply J4)
 replace hB := hB.below hb915
 have hO15 := hO9.below hb915
 have hbw15 := Z08 hb915 hbw9
 have fhB := hB.facts
 clear hb912 hb13 hb14 hb15 hS13 hO14 hO9 hb915 hbw9 hbw12
 clear cGi cPn cLa cCp cLe cNe
 obtain ⟨PE, hPE⟩ : ∃ z, pieE l = z := ⟨_, rfl⟩
 rw [hPE] at cPi
 have HPE := Lib.hid hPE
 clear hPE
 go_wp2_with fail
 refine (cPi _ hbw15).mono ?_
 rintro e w16 ⟨rfl, hb16⟩
 replace hB := hB.below (show Below _ _ w16 by (repeat first|exact J0|assumption|(apply J1;assumption)|apply J2|apply J3|apply J4))
 replace fhB := hB.facts
 have hbw16 := Z08 hb16 hbw15
 by_cases hpi0 : PE = 0
 case neg =>
  obtain ⟨E, hE⟩ : ∃ z, PE = z := ⟨_, rfl⟩
  subst hE; have E := PE
  have hE0 : PE ≠ 0 := hpi0
  have hBO : Zmg l x = PE := by rw [HBO.out, if_neg (by rw [HPE.out]; exact hpi0), HPE.out]
  clear hpi0 cPl E; obtain ⟨e1, e2, e3, e4, e5, e6⟩ := HE.out; rw [hBO, show Z5w PE (layP l x) = [] from by unfold Z5w; rw [if_neg hE0]] at e1
  rw [hBO, show Zfc PE (lenP l x) = 0 from by unfold Zfc; rw [if_neg hE0]] at e2
  rw [hBO] at e3; have hNE : Zq0 l x = PE := by rw [HNE.out, hBO, if_neg hE0]
  rw [show Zq1 l x = [] from by unfold Zq1; rw [hNE, if_neg hE0]] at e4
  rw [hNE] at e5; subst e1 e2 e3 e4 e5; obtain ⟨A15, c15, rfl⟩ := hM15.none_; have cLd := fun (A' : Option Addr) (c' : Nat) W' (h : Rd plc 3 W' A' []) => l5laid_any (c := c') (A := A') (d := 0) (B := none) [] [] PE PE W' h (fun i z hz => by simp at hz) (by simp) (by simp)
  rw [ldB_none hE0] at cLd; have t2 : (PE == 0) = false := by simp [hE0]
  have t3 : (PE != 0) = true := by simp [hE0]
  obtain ⟨_, _, he6, _, _, r6⟩ := hO15.rd Zj7
  obtain ⟨rfl, rfl⟩ : A6 = _ ∧ c6 = _ := by simpa using he6
  by_cases hz : balE b = 0
  ·obtain rfl : PE = CP := by rw [← e6, HCP.out, HCA.out, hz, hBO, if_neg (by simp [Z17, hE0])]; simp [Z17, hE0]
   rw [hz] at cBa; clear e6 HCP HCA HBO HNE HE hBO hNE hz hE0 hnb hnm hwl hwd hsp; go_wp2_with fail; refine (cBa _).mono ?_
   rintro e w18 ⟨rfl, hb18⟩; go_wp2_with fail; refine (cLd _ _ _ (r6.below (Z08 hb18 hb16))).mono ?_
   rintro e w19 ⟨rfl, hb19⟩; go_wp2; go_ret; exact ⟨rfl, Z08 hb19 (Z08 hb18 hbw16)⟩
  ·obtain ⟨T, hT⟩ : ∃ z, balE b = z := ⟨_, rfl⟩
   obtain rfl : T = CP := by rw [← e6, HCP.out, HCA.out, hT, hBO, if_neg (by rw [hT] at hz; simp [Z17, hz])]; rw [hT] at hz; simp [Z17, hz]
   rw [hT] at cBa hz; have t4 : (T == 0) = false := by simp [hz]
   clear e6 HCP HCA HBO HNE HE hBO hNE hz hE0 hT hnb hnm hwl hwd hsp; go_wp2_with fail; refine (cBa _).mono ?_
   rintro e w18 ⟨rfl, hb18⟩; go_wp2_with fail; refine (cLd _ _ _ (r6.below (Z08 hb18 hb16))).mono ?_
   rintro e w19 ⟨rfl, hb19⟩; go_wp2; go_ret; exact ⟨rfl, Z08 hb19 (Z08 hb18 hbw16)⟩
 subst hpi0
 have hpi := HPE.out
 obtain ⟨PC, hPC⟩ : ∃ z, plcE l.length x = z := ⟨_, rfl⟩
 rw [hPC] at cPl
 have HPC := Lib.hid hPC
 clear hPC
 go_wp2_with fail
 refine (cPl _ hbw16).mono ?_
 rintro e w17 ⟨rfl, hb17⟩
 replace hB := hB.below (show Below _ _ w17 by (repeat first|exact J0|assumption|(apply J1;assumption)|apply J2|apply J3|apply J4))
 replace fhB := hB.facts
 have hbw17 := Z08 hb17 hbw16
 have hb1517 := Z08 hb17 hb16
 by_cases hpc : PC = 0
 case neg =>
  have hE0 : PC ≠ 0 := hpc
  have hBO : Zmg l x = PC := by rw [HBO.out, if_pos hpi, HPC.out]
  clear hpc hpi; obtain ⟨e1, e2, e3, e4, e5, e6⟩ := HE.out; rw [hBO, show Z5w PC (layP l x) = [] from by unfold Z5w; rw [if_neg hE0]] at e1
  rw [hBO, show Zfc PC (lenP l x) = 0 from by unfold Zfc; rw [if_neg hE0]] at e2
  rw [hBO] at e3; have hNE : Zq0 l x = PC := by rw [HNE.out, hBO, if_neg hE0]
  rw [show Zq1 l x = [] from by unfold Zq1; rw [hNE, if_neg hE0]] at e4
  rw [hNE] at e5; subst e1 e2 e3 e4 e5; obtain ⟨A15, c15, rfl⟩ := hM15.none_; have cLd := fun (A' : Option Addr) (c' : Nat) W' (h : Rd plc 3 W' A' []) => l5laid_any (c := c') (A := A') (d := 0) (B := none) [] [] PC PC W' h (fun i z hz => by simp at hz) (by simp) (by simp)
  rw [ldB_none hE0] at cLd; have t2 : (PC == 0) = false := by simp [hE0]
  have t3 : (PC != 0) = true := by simp [hE0]
  obtain ⟨_, _, he6, _, _, r6⟩ := hO15.rd Zj7
  obtain ⟨rfl, rfl⟩ : A6 = _ ∧ c6 = _ := by simpa using he6
  by_cases hz : balE b = 0
  ·obtain rfl : PC = CP := by rw [← e6, HCP.out, HCA.out, hz, hBO, if_neg (by simp [Z17, hE0])]; simp [Z17, hE0]
   rw [hz] at cBa; clear e6 HCP HCA HBO HNE HE hBO hNE hz hE0 hnb hnm hwl hwd hsp; go_wp2_with fail; refine (cBa _).mono ?_
   rintro e w18 ⟨rfl, hb18⟩; go_wp2_with fail; refine (cLd _ _ _ (r6.below (Z08 hb18 hb1517))).mono ?_
   rintro e w19 ⟨rfl, hb19⟩; go_wp2; go_ret; exact ⟨rfl, Z08 hb19 (Z08 hb18 hbw17)⟩
  ·obtain ⟨T, hT⟩ : ∃ z, balE b = z := ⟨_, rfl⟩
   obtain rfl : T = CP := by rw [← e6, HCP.out, HCA.out, hT, hBO, if_neg (by rw [hT] at hz; simp [Z17, hz])]; rw [hT] at hz; simp [Z17, hz]
   rw [hT] at cBa hz; have t4 : (T == 0) = false := by simp [hz]
   clear e6 HCP HCA HBO HNE HE hBO hNE hz hE0 hT hnb hnm hwl hwd hsp; go_wp2_with fail; refine (cBa _).mono ?_
   rintro e w18 ⟨rfl, hb18⟩; go_wp2_with fail; refine (cLd _ _ _ (r6.below (Z08 hb18 hb1517))).mono ?_
   rintro e w19 ⟨rfl, hb19⟩; go_wp2; go_ret; exact ⟨rfl, Z08 hb19 (Z08 hb18 hbw17)⟩
 subst hpc
 have hpc := HPC.out
 have hBO : Zmg l x = 0 := by rw [HBO.out, if_pos hpi, hpc]
 obtain ⟨hPL, hl16, hx16, hIL, hNP, hEV⟩ := Zmh hnm hBO
 have hPc := pcs_of hpi hsp
 obtain ⟨hNE, hNL⟩ := nets_ref hnm hBO
 obtain ⟨e1, e2, e3, e4, e5, e6⟩ := HE.out
 rw [hBO, show Z5w 0 (layP l x) = layP l x from rfl] at e1
 rw [hBO, show Zfc 0 (lenP l x) = lenP l x from rfl] at e2
 rw [hBO] at e3
 rw [hNL] at e4
 rw [hNE] at e5
 have cNr := fun W' (hb : Below w.heap.size w W') => rnets5_any l x A c W' (hl.below hb) (hr.below hb) hPL hIL hNP hx16
 have cLr := fun W' (hb : Below w.heap.size w W') => rlay_any l x A c W' (hl.below hb) (hr.below hb) hPL hPc hIL hx16
 have cLn := fun W' (hb : Below w.heap.size w W') => rlength_any l x A c W' (hl.below hb) (hr.below hb) hPL hIL (hNP.mono (by omega)) (by omega)
 have hll : LA.length ≤ 18 := by rw [← e1, Zks]; omega
 have cLd := fun (A' B' : Option Addr) (c' d' : Nat) W' (h : Rd plc 3 W' A' LA) (h' : Rd plc 3 W' B' LA) => l5laid_any (c := c') (A := A') (d := d') (B := B') LA LA 0 0 W' h h' (by omega) (by omega)
 rw [ldB_same] at cLd
 have HCK := Lib.hid (fun (hz : balE b = 0) W' (hb : Below w.heap.size w W') => rcheckPlan_any b l x A c W' (hl.below hb) (hr.below hb) hPL hIL (hNP.mono (by omega)) hEV (by have := Zmo hz; omega) (by omega) hxc)
 have hCSN := fun (v u : Value) (b1 b2 : Nat) W' (h : OwRR b1 W' v (x.map (pnet l))) (h' : OwRR b2 W' u (x.map (pnet l))) => sameNets_any (x.map (pnet l)) (x.map (pnet l)) W' h h' (by rw [List.length_map]; omega) (by rw [List.length_map]; omega)
 rw [decide_eq_true (rfl : x.map (pnet l) = x.map (pnet l))] at hCSN
 rw [e1] at cLr
 rw [e2] at cLn
 subst e3
 obtain ⟨is, his⟩ : ∃ z, rnI l x = z := ⟨_, rfl⟩
 rw [his] at cNr e4 e5
 have hCA : cpaE b l x = balE b := by
  rw [HCA.out, hBO]; by_cases h : balE b = 0 <;> simp [Z17, h]
 rw [hCA] at HCP
 have HE6 := Lib.hid e6
 have HE4 := Lib.hid e4
 have HE5 := Lib.hid e5
 clear e1 e2 e4 e5 e6 his hNE hNL hBO hPL hPc hIL hNP hEV HCA HBO HNE HE hCA hpi hpc cPl cPi hxc
 obtain ⟨T, hT⟩ : ∃ z, balE b = z := ⟨_, rfl⟩
 rw [hT] at cBa
 have HT := Lib.hid hT
 clear hT
 go_wp2_with fail
 refine (cBa _).mono ?_
 rintro e w18 ⟨rfl, hb18⟩
 replace hB := hB.below (show Below _ _ w18 by (repeat first|exact J0|assumption|(apply J1;assumption)|apply J2|apply J3|apply J4))
 replace fhB := hB.facts
 have hbw18 := Z08 hb18 hbw17
 have hb1518 := Z08 hb18 hb1517
 clear hb16 hb17 hb18 hb1517 hbw16 hbw17
 go_upto_if 78 with fail
 go_cut [15] from 79 (fun s wx => s = .int .i64 T ∧ w18 = wx)
 case first =>
  by_cases hz : T = 0
  ·subst hz
   go_wp2_with fail; go_meet; case rel => exact ⟨rfl, rfl⟩
  ·have t4 : (T == 0) = false := by simp [hz]
   clear hz; go_wp2_with fail; go_meet; case rel => exact ⟨rfl, rfl⟩
 case rest =>
 obtain ⟨rfl, hwc⟩ := hcut
 subst hwc
 go_upto_if 81 with fail
 go_cut [15] from 82 (fun s wx => s = .int .i64 CP ∧ Below w18.heap.size w18 wx)
 case first =>
  by_cases hz : T = 0
  ·subst hz
   have hcp : fitE b l x = CP := by rw [← HE6.out, HCP.out, if_pos HT.out]
   have cCk := HCK.out HT.out
   simp only [sV] at cCk; rw [hcp] at cCk; clear hcp HCP HCK HE6 HT; go_wp2_with fail; refine (cCk _ hbw18).mono ?_
   rintro e w19 ⟨rfl, hb19⟩; go_wp2_with fail; go_meet; case rel => exact ⟨rfl, hb19⟩
  ·have t4 : (T == 0) = false := by simp [hz]
   have hcp : T = CP := by rw [← HE6.out, HCP.out, if_neg (by rw [HT.out]; exact hz), HT.out]
   subst hcp; clear hz HCP HCK HE6 HT; go_wp2_with fail; go_meet; case rel => exact ⟨rfl, Z03⟩
 case rest =>
  obtain ⟨rfl, hbc⟩ := hcut; obtain ⟨w19, rfl⟩ : ∃ x, x = wc := ⟨_, rfl⟩
  have hbw19 := Z08 hbc hbw18
  have hO20 := (hO15.below hb1518).below hbc
  have hM20 := (hM15.below hb1518).below hbc
  clear hbc hbw18 hb1518 hO15 hM15 HCP HCK HE6 HT hB fhB; cases is
  ·have e4 := HE4.out
   have e5 := HE5.out
   simp only [Bool.false_eq_true, if_false] at e4 e5; subst e4 e5; obtain ⟨A15, c15, rfl⟩ := hM20.none_; go_wp2_with fail; refine (cNr _ hbw19).mono ?_
   rintro e w20 ⟨v20, rfl, hN20, hb20⟩; have hbw20 := Z08 hb20 hbw19
   obtain ⟨us, hTu, hRu⟩ := id hN20
   obtain ⟨A20, c20, rfl⟩ := hTu.shape; clear hTu hRu; have hO21 := hO20.below hb20
   clear hM20 hN20 hO20 hb20; go_wp2_with fail; refine (cLr _ hbw20).mono ?_
   rintro e w22 ⟨v22, rfl, hO22, hb22⟩; have hbw22 := Z08 hb22 hbw20
   obtain ⟨A22, c22, rfl⟩ := hO22.shape; obtain ⟨_, _, he6, _, _, r6⟩ := (hO21.below hb22).rd Zj7
   obtain ⟨rfl, rfl⟩ : A6 = _ ∧ c6 = _ := by simpa using he6
   obtain ⟨_, _, he22, _, _, r22⟩ := hO22.rd Zj7
   obtain ⟨rfl, rfl⟩ : A22 = _ ∧ c22 = _ := by simpa using he22
   clear hO21 hO22 he6 he22 hb22 hbw20; go_wp2_with fail; refine (cLd _ _ _ _ _ r6 r22).mono ?_
   rintro e w23 ⟨rfl, hb23⟩; go_wp2_with fail; refine (cLn _ (Z08 hb23 hbw22)).mono ?_
   rintro e w24 ⟨rfl, hb24⟩; go_wp2; go_ret; exact ⟨rfl, Z08 hb24 (Z08 hb23 hbw22)⟩
  ·have e4 := HE4.out
   have e5 := HE5.out
   simp only [if_true] at e4 e5; subst e4 e5; obtain ⟨ts, hT, hR⟩ := id hM20
   obtain ⟨A15, c15, rfl⟩ := hT.shape; clear hT hR; go_wp2_with fail; refine (cNr _ hbw19).mono ?_
   rintro e w20 ⟨v20, rfl, hN20, hb20⟩; have hbw20 := Z08 hb20 hbw19
   obtain ⟨us, hTu, hRu⟩ := id hN20
   obtain ⟨A20, c20, rfl⟩ := hTu.shape; clear hTu hRu; go_wp2_with fail; refine (hCSN _ _ _ _ _ (hM20.below hb20) hN20).mono ?_
   rintro e w21 ⟨rfl, hb21⟩; have hbw21 := Z08 hb21 hbw20
   have hO21 := (hO20.below hb20).below hb21
   clear hM20 hN20 hO20 hb20 hb21 hbw20; go_wp2_with fail; refine (cLr _ hbw21).mono ?_
   rintro e w22 ⟨v22, rfl, hO22, hb22⟩; have hbw22 := Z08 hb22 hbw21
   obtain ⟨A22, c22, rfl⟩ := hO22.shape; obtain ⟨_, _, he6, _, _, r6⟩ := (hO21.below hb22).rd Zj7
   obtain ⟨rfl, rfl⟩ : A6 = _ ∧ c6 = _ := by simpa using he6
   obtain ⟨_, _, he22, _, _, r22⟩ := hO22.rd Zj7
   obtain ⟨rfl, rfl⟩ : A22 = _ ∧ c22 = _ := by simpa using he22
   clear hO21 hO22 he6 he22 hb22 hbw21; go_wp2_with fail; refine (cLd _ _ _ _ _ r6 r22).mono ?_
   rintro e w23 ⟨rfl, hb23⟩; go_wp2_with fail; refine (cLn _ (Z08 hb23 hbw22)).mono ?_
   rintro e w24 ⟨rfl, hb24⟩; go_wp2; go_ret; exact ⟨rfl, Z08 hb24 (Z08 hb23 hbw22)⟩
end Go.Proofs.YtpcgeihemkhkjaaGreatDoor

/- BalePrints, walked. Conditions: the variables are laid. -/
import Derived.Test.YtgndakgggfbanaaGreatDoorR42
import Derived.Test.YtgndakgggfbanaaGreatDoorR46
import Derived.Test.YtgndakgggfbanaaGreatDoorR45
namespace Go.Proofs.YtgndakgggfbanaaGreatDoor
open Go.RowKit Go.ChangeMaps
set_option maxHeartbeats 4000000
set_option maxRecDepth 100000
attribute [local go_sem] Oper.semAt_some
theorem prnB_short {l : List Pan} (hnm : ∀ p ∈ l, p.1.length ≤ 60) : ∀ {x : List Plc}, (∀ o ∈ x, (0 ≤ o.1 ∧ o.1 < (l.length : Int)) ∧ atE_ o.2.2 = 0) → (prnB l x).length ≤ 100 * x.length
 | [], _ => by simp [prnB]
 | o :: r, h => by
  have h1 := prnB_short hnm (x := r) fun z hz => h z (List.mem_cons_of_mem _ hz)
  obtain ⟨hr, ha⟩ := h o (List.mem_cons_self ..)
  have hin := atE_in ha
  have hk : o.1.toNat < l.length := by omega
  have hn : (l.getD o.1.toNat noPan).1.length ≤ 60 := by
   rw [getD_at hk]
   exact hnm _ (List.getElem_mem hk)
  have h2 := Lib.itoa_length_le o.2.2 (by omega) (by omega)
  have h3 : (dirS o.2.1).length ≤ 4 := by cases o.2.1 <;> decide
  unfold prnB plnS1 at h1 ⊢
  rw [List.flatMap_cons, List.length_append]
  simp only [List.length_append, List.length_cons, List.length_nil]
  omega
theorem balePrints_any {v1 v2 : Value} (l : List Pan) (x : List Plc) (s : Str) (w : World) (hl : SlP w v1 l) (hn : ∀ p ∈ l, p.1.length ≤ maxLen) (hx : Sl plc 3 w v2 x) (hs : s.length ≤ maxLen) (hLay : LayB w) :
  Calls Tryz.prog 6 #[v1, v2, .string ⟨s.toArray⟩] w (RV w (.bool true)) := by
 have cAw := fun W' (hb : Below w.heap.size w W') => awake5_any W' (hLay.below hb)
 have cVa := fun W' (hb : Below w.heap.size w W') => l5valid_any l 4 W' (hl.below hb) hn
 obtain ⟨A, c, rfl, hlc, hcm, hr⟩ := hx
 have hln : ∃ A c, v1 = .slice A l.length c := by
  obtain ⟨xs, ⟨A, c, rfl, _⟩, hx⟩ := hl
  exact ⟨A, c, by rw [hx.len]⟩
 obtain ⟨A1, c1, rfl⟩ := hln
 have cPl := fun W' (hb : Below w.heap.size w W') => rcheckPlaces_any x l.length A c W' (hr.below hb)
 obtain ⟨q, hq⟩ : ∃ q, vldP l 4 = q := ⟨_, rfl⟩
 rw [hq] at cVa
 obtain ⟨E, hE⟩ : ∃ q, plcE l.length x = q := ⟨_, rfl⟩
 rw [hE] at cPl
 unfold maxLen at hs
 cases q
 ·clear hq hE hl hr
  go_enter Tryz.func6, Tryz.ntmps6
  go_wp2_with fail
  refine (cAw _ (by (repeat first|exact J0|assumption|(apply J1;assumption)|apply J2|apply J3|apply J4))).mono ?_
  rintro e w1 ⟨rfl, hb1⟩
  go_wp2_with fail
  refine (cVa _ (by (repeat first|exact J0|assumption|(apply J1;assumption)|apply J2|apply J3|apply J4))).mono ?_
  rintro e w2 ⟨rfl, hb2⟩
  go_wp2_with fail
  refine (cAw _ (by (repeat first|exact J0|assumption|(apply J1;assumption)|apply J2|apply J3|apply J4))).mono ?_
  rintro e w9 ⟨rfl, hb9⟩
  go_wp2
  go_ret
  exact ⟨rfl, by (repeat first|exact J0|assumption|(apply J1;assumption)|apply J2|apply J3|apply J4)⟩
 have hv : (l.length ≤ 4) ∧ shortPs l 4 8 = true ∧ pieE l = 0 := by
  unfold vldP at hq
  simp only [Bool.and_eq_true, decide_eq_true_eq] at hq
  exact ⟨by omega, hq.2.1, hq.2.2⟩
 clear hq hn
 by_cases h8 : 8 < x.length
 ·have t1 : (8 < (x.length : Int)) = True := eq_true (by omega)
  clear h8 hE hl hr hv
  go_enter Tryz.func6, Tryz.ntmps6
  go_wp2_with fail
  refine (cAw _ (by (repeat first|exact J0|assumption|(apply J1;assumption)|apply J2|apply J3|apply J4))).mono ?_
  rintro e w1 ⟨rfl, hb1⟩
  go_wp2_with fail
  refine (cVa _ (by (repeat first|exact J0|assumption|(apply J1;assumption)|apply J2|apply J3|apply J4))).mono ?_
  rintro e w2 ⟨rfl, hb2⟩
  go_wp2_with fail
  refine (cAw _ (by (repeat first|exact J0|assumption|(apply J1;assumption)|apply J2|apply J3|apply J4))).mono ?_
  rintro e w9 ⟨rfl, hb9⟩
  go_wp2
  go_ret
  exact ⟨rfl, by (repeat first|exact J0|assumption|(apply J1;assumption)|apply J2|apply J3|apply J4)⟩
 have t1 : (8 < (x.length : Int)) = False := eq_false (by omega)
 by_cases hz : E = 0
 case neg =>
  have t2 : (E != 0) = true := by simp [hz]
  clear h8 hE hl hr hv hz
  go_enter Tryz.func6, Tryz.ntmps6
  go_wp2_with fail
  refine (cAw _ (by (repeat first|exact J0|assumption|(apply J1;assumption)|apply J2|apply J3|apply J4))).mono ?_
  rintro e w1 ⟨rfl, hb1⟩
  go_wp2_with fail
  refine (cVa _ (by (repeat first|exact J0|assumption|(apply J1;assumption)|apply J2|apply J3|apply J4))).mono ?_
  rintro e w2 ⟨rfl, hb2⟩
  go_wp2_with fail
  refine (cPl _ (by (repeat first|exact J0|assumption|(apply J1;assumption)|apply J2|apply J3|apply J4))).mono ?_
  rintro e w3 ⟨rfl, hb3⟩
  go_wp2_with fail
  refine (cAw _ (by (repeat first|exact J0|assumption|(apply J1;assumption)|apply J2|apply J3|apply J4))).mono ?_
  rintro e w9 ⟨rfl, hb9⟩
  go_wp2
  go_ret
  exact ⟨rfl, by (repeat first|exact J0|assumption|(apply J1;assumption)|apply J2|apply J3|apply J4)⟩
 have t2 : (E != 0) = false := by simp [hz]
 by_cases h4 : 400 < s.length
 ·have t3 : (400 < (s.length : Int)) = True := eq_true (by omega)
  clear h8 hE hl hr hv hz h4
  go_enter Tryz.func6, Tryz.ntmps6
  go_wp2_with fail
  refine (cAw _ (by (repeat first|exact J0|assumption|(apply J1;assumption)|apply J2|apply J3|apply J4))).mono ?_
  rintro e w1 ⟨rfl, hb1⟩
  go_wp2_with fail
  refine (cVa _ (by (repeat first|exact J0|assumption|(apply J1;assumption)|apply J2|apply J3|apply J4))).mono ?_
  rintro e w2 ⟨rfl, hb2⟩
  go_wp2_with fail
  refine (cPl _ (by (repeat first|exact J0|assumption|(apply J1;assumption)|apply J2|apply J3|apply J4))).mono ?_
  rintro e w3 ⟨rfl, hb3⟩
  go_wp2_with fail
  refine (cAw _ (by (repeat first|exact J0|assumption|(apply J1;assumption)|apply J2|apply J3|apply J4))).mono ?_
  rintro e w9 ⟨rfl, hb9⟩
  go_wp2
  go_ret
  exact ⟨rfl, by (repeat first|exact J0|assumption|(apply J1;assumption)|apply J2|apply J3|apply J4)⟩
 have t3 : (400 < (s.length : Int)) = False := eq_false (by omega)
 obtain ⟨hl4, hsh, hpi⟩ := hv
 obtain ⟨_, _, hsp⟩ := shortPs_in hsh
 have hpz : plcE l.length x = 0 := by rw [hE, hz]
 have hnm60 : ∀ p ∈ l, p.1.length ≤ 60 := fun p hp => (shortP_words (hsp p hp)).1
 have hnm : ∀ p ∈ l, p.1.length ≤ 1000000 := fun p hp => by have := hnm60 p hp; omega
 have hwl : ∀ p ∈ l, p.2.2.1.length ≤ 100000 ∧ p.2.2.2.length ≤ 100000 := fun p hp => by
  obtain ⟨_, ⟨h1, _⟩, h2, _⟩ := shortP_words (hsp p hp)
  omega
 have hrs := print_parse hpi hpz
 have hpl := prnB_short hnm60 (plc_ok hpz).2
 have hb0 : bothE l x = 0 := by unfold bothE; rw [if_pos hpi]; exact hpz
 have cGi := fun W' (hb : Below w.heap.size w W') => l5given_any l W' (hl.below hb) (by omega) hwl
 have cPn := fun W' (hb : Below w.heap.size w W') => l5plan_any x A c W' (hr.below hb) (by omega)
 have cPr := fun (v u : Value) W' (hL : LayB W') (h : SlP W' v l) (h' : SlL W' u x) => apiPrintB_any l x W' hL h h' hnm (by omega) (by omega)
 have hpr : prnR l x = prnB l x := by unfold prnR; rw [if_pos hb0]
 rw [hpr, hb0] at cPr
 have hp1 : paeB l (prnB l x) = (x, 0, 0) := by
  have h9 : ¬ 4096 < (prnB l x).length := by omega
  have : parE0 l (prnB l x) = 0 := by
   unfold parE0
   rw [hpi]
   simp [firstI, whenI, h9]
  unfold paeB
  rw [if_pos this, hrs]
 have cPa := fun (v : Value) W' (hL : LayB W') (h : SlP W' v l) => apiParseB_any l (prnB l x) W' hL h hnm (by omega) (by omega)
 rw [hp1] at cPa
 have cPb := fun (v : Value) W' (hL : LayB W') (h : SlP W' v l) => apiParseB_any l s W' hL h hnm (by omega) (by omega)
 have hp2 : paeB l s = prsB l s := by
  have h9 : ¬ 4096 < s.length := by omega
  have : parE0 l s = 0 := by
   unfold parE0
   rw [hpi]
   simp [firstI, whenI, h9]
  unfold paeB
  rw [if_pos this]
 rw [hp2] at cPb
 have HB := Lib.hid (fun (z : List Plc) (k : Int) (h : prsB l s = (z, k, 0)) => parse_print (by omega) h)
 have HPZ := Lib.hid (fun (z : List Plc) (hz0 : plcE l.length z = 0) (hzs : prnB l z = s) (v u : Value) W' (hL : LayB W') (h : SlP W' v l) (h' : SlL W' u z) => show Calls Tryz.prog 26 #[v, u] W' (RV W' (.tuple #[.string ⟨s.toArray⟩, .int .i64 0])) from by
  have hzl : z.length ≤ 16 := by
   unfold plcE at hz0
   split at hz0
   ·cases hz0
   ·omega
  have hbz : bothE l z = 0 := by unfold bothE; rw [if_pos hpi]; exact hz0
  have := apiPrintB_any l z W' hL h h' hnm (by omega) (by omega)
  rwa [hbz, show prnR l z = s by unfold prnR; rw [if_pos hbz]; exact hzs] at this)
 have cPs := fun (A' : Option Addr) (c' : Nat) W' (h : Rd plc 3 W' A' x) => l5places_any x A' c' W' h (by omega)
 have cSm := fun (A' : Option Addr) (c' : Nat) W' (h : Rd plc 3 W' A' x) (hb : Below w.heap.size w W') => samePlan_any x x A' A c' c W' h (hr.below hb) (by omega) (by omega)
 rw [decide_eq_true (rfl : x = x)] at cSm
 obtain ⟨T, hT⟩ : ∃ T, prnB l x = T := ⟨_, rfl⟩
 rw [hT] at cPr cPa
 obtain ⟨⟨z, k, e3⟩, hpz3⟩ : ∃ y, prsB l s = y := ⟨_, rfl⟩
 rw [hpz3] at cPb HB
 have HB2 : Hid (e3 = 0 → prnB l z = s ∧ plcE l.length z = 0) := fun h => by subst h; exact HB.out z k rfl
 unfold sV at cPr cPa cPb
 clear h8 hE hl hr hz h4 hl4 hsh hsp hpz hnm60 hnm hwl hrs hpl hb0 hpi hpr hp1 hp2 hT hpz3 HB hs
 go_enter Tryz.func6, Tryz.ntmps6
 go_wp2_with fail
 refine (cAw _ (by (repeat first|exact J0|assumption|(apply J1;assumption)|apply J2|apply J3|apply J4))).mono ?_
 rintro e w1 ⟨rfl, hb1⟩
 go_wp2_with fail
 refine (cVa _ (by (repeat first|exact J0|assumption|(apply J1;assumption)|apply J2|apply J3|apply J4))).mono ?_
 rintro e w2 ⟨rfl, hb2⟩
 go_wp2_with fail
 refine (cPl _ (by (repeat first|exact J0|assumption|(apply J1;assumption)|apply J2|apply J3|apply J4))).mono ?_
 rintro e w3 ⟨rfl, hb3⟩
 have hbw3 : Below w.heap.size w w3 := by (repeat first|exact J0|assumption|(apply J1;assumption)|apply J2|apply J3|apply J4)
 clear hb1 hb2 hb3
 go_wp2_with fail
 refine (cGi _ (by (repeat first|exact J0|assumption|(apply J1;assumption)|apply J2|apply J3|apply J4))).mono ?_
 rintro e w4 ⟨v4, rfl, hS4, hb4⟩
 go_wp2_with fail
 refine (cPn _ (by (repeat first|exact J0|assumption|(apply J1;assumption)|apply J2|apply J3|apply J4))).mono ?_
 rintro e w5 ⟨v5, rfl, hO5, hb5⟩
 go_wp2_with fail
 refine (cPr _ _ _ (hLay.below (by (repeat first|exact J0|assumption|(apply J1;assumption)|apply J2|apply J3|apply J4))) (hS4.below hb5) (hO5.rd plc_len)).mono ?_
 rintro e w6 ⟨rfl, hb6⟩
 go_wp2_with fail
 refine (cGi _ (by (repeat first|exact J0|assumption|(apply J1;assumption)|apply J2|apply J3|apply J4))).mono ?_
 rintro e w7 ⟨v7, rfl, hS7, hb7⟩
 go_wp2_with fail
 refine (cPa _ _ (hLay.below (by (repeat first|exact J0|assumption|(apply J1;assumption)|apply J2|apply J3|apply J4))) hS7).mono ?_
 rintro e w8 ⟨v8, rfl, hO8, hb8⟩
 obtain ⟨A8, c8, rfl⟩ := hO8.shape
 obtain ⟨_, _, he8, _, _, r8⟩ := hO8.rd plc_len
 obtain ⟨rfl, rfl⟩ : A8 = _ ∧ c8 = _ := by simpa using he8
 go_wp2_with fail
 refine (cPs _ _ _ r8).mono ?_
 rintro e w9 ⟨v9, rfl, hO9, hb9⟩
 obtain ⟨A9, c9, rfl⟩ := hO9.shape
 obtain ⟨_, _, he9, _, _, r9⟩ := hO9.rd plc_len
 obtain ⟨rfl, rfl⟩ : A9 = _ ∧ c9 = _ := by simpa using he9
 go_wp2_with fail
 refine (cSm _ _ _ r9 (by (repeat first|exact J0|assumption|(apply J1;assumption)|apply J2|apply J3|apply J4))).mono ?_
 rintro e w10 ⟨rfl, hb10⟩
 have hbw10 : Below w.heap.size w w10 := by (repeat first|exact J0|assumption|(apply J1;assumption)|apply J2|apply J3|apply J4)
 clear hb4 hb5 hb6 hb7 hb8 hb9 hb10 hS4 hO5 hS7 hO8 hO9 r8 r9 hbw3
 go_wp2_with fail
 refine (cGi _ (by (repeat first|exact J0|assumption|(apply J1;assumption)|apply J2|apply J3|apply J4))).mono ?_
 rintro e w11 ⟨v11, rfl, hS11, hb11⟩
 go_wp2_with fail
 refine (cPb _ _ (hLay.below (by (repeat first|exact J0|assumption|(apply J1;assumption)|apply J2|apply J3|apply J4))) hS11).mono ?_
 rintro e w12 ⟨v12, rfl, hO12, hb12⟩
 by_cases hz : e3 = 0
 ·have u1 : (e3 != 0) = false := by simp [hz]
  obtain ⟨hy1, hy2⟩ := HB2.out hz
  have cPz := HPZ.out z hy2 hy1
  clear hz hy1 hy2 HB2 HPZ
  go_wp2_with fail
  refine (cGi _ (by (repeat first|exact J0|assumption|(apply J1;assumption)|apply J2|apply J3|apply J4))).mono ?_
  rintro e w13 ⟨v13, rfl, hS13, hb13⟩
  go_wp2_with fail
  refine (cPz _ _ _ (hLay.below (by (repeat first|exact J0|assumption|(apply J1;assumption)|apply J2|apply J3|apply J4))) hS13 ((hO12.rd plc_len).below hb13)).mono ?_
  rintro e w14 ⟨rfl, hb14⟩
  go_wp2
  go_ret
  exact ⟨rfl, by (repeat first|exact J0|assumption|(apply J1;assumption)|apply J2|apply J3|apply J4)⟩
 ·have u1 : (e3 != 0) = true := by simp [hz]
  clear hz HB2 HPZ
  go_wp2
  go_ret
  exact ⟨rfl, by (repeat first|exact J0|assumption|(apply J1;assumption)|apply J2|apply J3|apply J4)⟩
end Go.Proofs.YtgndakgggfbanaaGreatDoor

/- BaleChecks, walked. Conditions: the variables are laid. -/
import Derived.Test.YtgndakgggfbanaaGreatDoorR42
import Derived.Test.YtgndakgggfbanaaGreatDoorR44
import Derived.Test.YtgndakgggfbanaaGreatDoorR45
namespace Go.Proofs.YtgndakgggfbanaaGreatDoor
open Go.RowKit Go.ChangeMaps
set_option maxHeartbeats 4000000
set_option maxRecDepth 100000
attribute [local go_sem] Oper.semAt_some
theorem shoB_in {l : List Bal} {k : Int} (h : shoB l k = true) : l.length ≤ 18 ∧ ((l.length : Int) ≤ k ∨ 16 < l.length) ∧ ∀ b ∈ l, b.1.length ≤ 60 := by
 unfold shoB shoX at h
 simp only [Bool.and_eq_true, Bool.not_eq_true', Bool.or_eq_false_iff, Bool.and_eq_false_iff, decide_eq_false_iff_not, List.all_eq_true] at h
 obtain ⟨⟨h1, h2⟩, h3⟩ := h
 exact ⟨by omega, by omega, fun b hb => by have := h3 b hb; simpa [nm60] using this⟩
theorem baleChecks_any {v1 v2 : Value} (b : Bal) (l : List Bal) (x : List Pan) (w : World) (z0 : b.1.length ≤ maxLen) (hl : Sl blc 3 w v1 l) (_hn1 : ∀ b ∈ l, b.1.length ≤ maxLen) (hx : SlP w v2 x) (hn2 : ∀ p ∈ x, p.1.length ≤ maxLen) (hLay : LayB w) :
  Calls Tryz.prog 3 #[.agg #[sV b.1, .int .i64 b.2.1, .int .i64 b.2.2], v1, v2] w (RV w (.bool true)) := by
 have cAw := fun W' (hb : Below w.heap.size w W') => awake5_any W' (hLay.below hb)
 obtain ⟨A, c, rfl, _, _, hr⟩ := hl
 have cSt := fun W' (hb : Below w.heap.size w W') => shortStock_any l 6 A c W' (hr.below hb)
 have cSh := fun W' (hb : Below w.heap.size w W') => l5short_any x 4 W' (hx.below hb) hn2
 obtain ⟨q1, hq1⟩ : ∃ q, shoB l 6 = q := ⟨_, rfl⟩
 obtain ⟨q2, hq2⟩ : ∃ q, shortPs x 4 8 = q := ⟨_, rfl⟩
 rw [hq1] at cSt
 rw [hq2] at cSh
 unfold sV
 have hB := Blk.new w 23 #[.string ⟨b.1.toArray⟩, .int .i64 b.2.1, .int .i64 b.2.2]
 unfold maxLen at z0
 clear _hn1 hn2
 by_cases h60 : 60 < b.1.length
 ·have t1 : (60 < (b.1.length : Int)) = True := eq_true (by omega)
  clear h60 hq1 hq2
  go_enter Tryz.func3, Tryz.ntmps3
  go_wp2_with fail
  refine (cAw _ (by (repeat first|exact J0|assumption|(apply J1;assumption)|apply J2|apply J3|apply J4))).mono ?_
  rintro e w1 ⟨rfl, hb1⟩
  have fB1 := (hB.below hb1).facts
  go_wp2_with fail
  refine (cAw _ (by (repeat first|exact J0|assumption|(apply J1;assumption)|apply J2|apply J3|apply J4))).mono ?_
  rintro e w2 ⟨rfl, hb2⟩
  go_wp2
  go_ret
  exact ⟨rfl, by (repeat first|exact J0|assumption|(apply J1;assumption)|apply J2|apply J3|apply J4)⟩
 ·have t1 : (60 < (b.1.length : Int)) = False := eq_false (by omega)
  cases q1
  ·clear h60 hq1 hq2
   go_enter Tryz.func3, Tryz.ntmps3
   go_wp2_with fail
   refine (cAw _ (by (repeat first|exact J0|assumption|(apply J1;assumption)|apply J2|apply J3|apply J4))).mono ?_
   rintro e w1 ⟨rfl, hb1⟩
   have fB1 := (hB.below hb1).facts
   go_wp2_with fail
   refine (cSt _ (by (repeat first|exact J0|assumption|(apply J1;assumption)|apply J2|apply J3|apply J4))).mono ?_
   rintro e w2 ⟨rfl, hb2⟩
   go_wp2_with fail
   refine (cAw _ (by (repeat first|exact J0|assumption|(apply J1;assumption)|apply J2|apply J3|apply J4))).mono ?_
   rintro e w3 ⟨rfl, hb3⟩
   go_wp2
   go_ret
   exact ⟨rfl, by (repeat first|exact J0|assumption|(apply J1;assumption)|apply J2|apply J3|apply J4)⟩
  cases q2
  ·clear h60 hq1 hq2
   go_enter Tryz.func3, Tryz.ntmps3
   go_wp2_with fail
   refine (cAw _ (by (repeat first|exact J0|assumption|(apply J1;assumption)|apply J2|apply J3|apply J4))).mono ?_
   rintro e w1 ⟨rfl, hb1⟩
   have fB1 := (hB.below hb1).facts
   go_wp2_with fail
   refine (cSt _ (by (repeat first|exact J0|assumption|(apply J1;assumption)|apply J2|apply J3|apply J4))).mono ?_
   rintro e w2 ⟨rfl, hb2⟩
   go_wp2_with fail
   refine (cSh _ (by (repeat first|exact J0|assumption|(apply J1;assumption)|apply J2|apply J3|apply J4))).mono ?_
   rintro e w3 ⟨rfl, hb3⟩
   go_wp2_with fail
   refine (cAw _ (by (repeat first|exact J0|assumption|(apply J1;assumption)|apply J2|apply J3|apply J4))).mono ?_
   rintro e w4 ⟨rfl, hb4⟩
   go_wp2
   go_ret
   exact ⟨rfl, by (repeat first|exact J0|assumption|(apply J1;assumption)|apply J2|apply J3|apply J4)⟩
  obtain ⟨hl18, _, hl60⟩ := shoB_in hq1
  obtain ⟨hx18, _, hxs⟩ := shortPs_in hq2
  have hnb : b.1.length ≤ 1000000 := by omega
  have hsn : ∀ b ∈ l, b.1.length ≤ 1000000 := fun b hb => by have := hl60 b hb; omega
  have hnm : ∀ p ∈ x, p.1.length ≤ 1000000 := fun p hp => by have := (shortP_words (hxs p hp)).1; omega
  have hwd : ∀ p ∈ x, (∀ e ∈ p.2.2.1, e.1.length ≤ 1000000) ∧ ∀ e ∈ p.2.2.2, e.1.length ≤ 1000000 := fun p hp => by
   obtain ⟨_, ⟨_, h1⟩, _, h2⟩ := shortP_words (hxs p hp)
   exact ⟨fun e he => by have := h1 e he; omega, fun e he => by have := h2 e he; omega⟩
  have hwl : ∀ p ∈ x, p.2.2.1.length ≤ 100000 ∧ p.2.2.2.length ≤ 100000 := fun p hp => by
   obtain ⟨_, ⟨h1, _⟩, h2, _⟩ := shortP_words (hxs p hp)
   omega
  have cB1 := fun W' => checkBale_any b hnb W'
  have cB2 := fun W' => rcheckBale_any b hnb W'
  have cSk := fun W' (hb : Below w.heap.size w W') => l5stock_any l A c W' (hr.below hb) (by omega)
  have cK1 := fun A' c' W' h => checkStock_any (A := A') (c := c') l W' h hsn (by omega)
  have cK2 := fun W' (hb : Below w.heap.size w W') => rcheckStock_any l A c W' (hr.below hb) hsn (by omega)
  have cGi := fun W' (hb : Below w.heap.size w W') => l5given_any x W' (hx.below hb) (by omega) hwl
  have cP1 := fun (v : Value) W' h => checkPieces_any (v := v) x W' h hnm (by omega)
  have cP2 := fun W' (hb : Below w.heap.size w W') => rcheckPieces_any x W' (hx.below hb) hnm hwd (by omega)
  obtain ⟨E1, hE1⟩ : ∃ z, balE b = z := ⟨_, rfl⟩
  obtain ⟨E2, hE2⟩ : ∃ z, stoE l = z := ⟨_, rfl⟩
  obtain ⟨E3, hE3⟩ : ∃ z, pieE x = z := ⟨_, rfl⟩
  rw [hE1] at cB1 cB2
  rw [hE2] at cK1 cK2
  rw [hE3] at cP1 cP2
  unfold sV at cB1 cB2
  clear h60 hq1 hq2 hE1 hE2 hE3 hl18 hl60 hx18 hxs hnb hsn hnm hwd hwl z0
  have u1 : (E1 == E1) = true := beq_self_eq_true _
  have u2 : (E2 == E2) = true := beq_self_eq_true _
  have u3 : (E3 == E3) = true := beq_self_eq_true _
  go_enter Tryz.func3, Tryz.ntmps3
  go_wp2_with fail
  refine (cAw _ (by (repeat first|exact J0|assumption|(apply J1;assumption)|apply J2|apply J3|apply J4))).mono ?_
  rintro e w1 ⟨rfl, hb1⟩
  have fB1 := (hB.below hb1).facts
  go_wp2_with fail
  refine (cSt _ (by (repeat first|exact J0|assumption|(apply J1;assumption)|apply J2|apply J3|apply J4))).mono ?_
  rintro e w2 ⟨rfl, hb2⟩
  go_wp2_with fail
  refine (cSh _ (by (repeat first|exact J0|assumption|(apply J1;assumption)|apply J2|apply J3|apply J4))).mono ?_
  rintro e w3 ⟨rfl, hb3⟩
  have hB3 := ((hB.below hb1).below hb2).below hb3
  have fB3 := hB3.facts
  have hbw3 : Below w.heap.size w w3 := by (repeat first|exact J0|assumption|(apply J1;assumption)|apply J2|apply J3|apply J4)
  clear hb1 hb2 hb3 fB1 hB
  go_upto_region 3 with fail
  refine wp_region_ords [0, 2] [(1, false), (3, false), (4, false), (5, false), (6, true), (9, true), (7, false), (8, false), (10, false), (11, false), (12, false), (13, false), (14, true), (17, true), (15, false), (16, false)] [18, 19, 20, 21] (by kernel_rfl) (by kernel_rfl) (fun d _ _ _ _ h => by cases d <;> exact h) ?_
  simp only [List.map_cons, List.map_nil, List.getD_cons_zero, List.getD_cons_succ]
  repeat (go_big_quiet_step (fail))
  refine wpQuiet_nil ?_
  refine wpMid_run rfl (fun K hK => ?_)
  go_simp
  refine (cB1 _).mono ?_
  rintro e w4 ⟨rfl, hb4⟩
  refine hK _ _ (by (repeat first|exact J0|assumption|(apply J1;assumption)|apply J2|apply J3|apply J4)) ?_
  clear hK K
  refine wpMid_run rfl (fun K hK => ?_)
  go_simp
  refine (cB2 _).mono ?_
  rintro e w5 ⟨rfl, hb5⟩
  refine hK _ _ (by (repeat first|exact J0|assumption|(apply J1;assumption)|apply J2|apply J3|apply J4)) ?_
  clear hK K
  refine wpMid_run rfl (fun K hK => ?_)
  go_simp
  refine hK _ _ (by (repeat first|exact J0|assumption|(apply J1;assumption)|apply J2|apply J3|apply J4)) ?_
  clear hK K
  refine wpMid_run rfl (fun K hK => ?_)
  go_simp
  refine hK _ _ (by (repeat first|exact J0|assumption|(apply J1;assumption)|apply J2|apply J3|apply J4)) ?_
  clear hK K
  refine wpMid_take rfl ?_
  intro K hK
  go_big_quiet_op
  go_big_quiet_on
  refine wpMid_take rfl ?_
  intro K hK
  go_big_quiet_op
  go_big_quiet_on
  refine wpMid_run rfl (fun K hK => ?_)
  go_simp
  refine (cSk _ (by (repeat first|exact J0|assumption|(apply J1;assumption)|apply J2|apply J3|apply J4))).mono ?_
  rintro e w6 ⟨v6, rfl, hO6, hb6⟩
  refine hK _ _ (by (repeat first|exact J0|assumption|(apply J1;assumption)|apply J2|apply J3|apply J4)) ?_
  clear hK K
  obtain ⟨A6, c6, rfl⟩ := hO6.shape
  obtain ⟨_, _, he6, _, _, r6⟩ := hO6.rd blc_len
  obtain ⟨rfl, rfl⟩ : A6 = _ ∧ c6 = _ := by simpa using he6
  refine wpMid_run rfl (fun K hK => ?_)
  go_simp
  refine (cK1 _ _ _ r6).mono ?_
  rintro e w7 ⟨rfl, hb7⟩
  refine hK _ _ (by (repeat first|exact J0|assumption|(apply J1;assumption)|apply J2|apply J3|apply J4)) ?_
  clear hK K
  refine wpMid_run rfl (fun K hK => ?_)
  go_simp
  refine (cK2 _ (by (repeat first|exact J0|assumption|(apply J1;assumption)|apply J2|apply J3|apply J4))).mono ?_
  rintro e w8 ⟨rfl, hb8⟩
  refine hK _ _ (by (repeat first|exact J0|assumption|(apply J1;assumption)|apply J2|apply J3|apply J4)) ?_
  clear hK K
  refine wpMid_run rfl (fun K hK => ?_)
  go_simp
  refine hK _ _ (by (repeat first|exact J0|assumption|(apply J1;assumption)|apply J2|apply J3|apply J4)) ?_
  clear hK K
  refine wpMid_run rfl (fun K hK => ?_)
  go_simp
  refine hK _ _ (by (repeat first|exact J0|assumption|(apply J1;assumption)|apply J2|apply J3|apply J4)) ?_
  clear hK K
  refine wpMid_run rfl (fun K hK => ?_)
  go_simp
  refine hK _ _ (by (repeat first|exact J0|assumption|(apply J1;assumption)|apply J2|apply J3|apply J4)) ?_
  clear hK K
  refine wpMid_take rfl ?_
  intro K hK
  go_big_quiet_op
  go_big_quiet_on
  refine wpMid_take rfl ?_
  intro K hK
  go_big_quiet_op
  go_big_quiet_on
  refine wpMid_run rfl (fun K hK => ?_)
  go_simp
  refine (cGi _ (by (repeat first|exact J0|assumption|(apply J1;assumption)|apply J2|apply J3|apply J4))).mono ?_
  rintro e w9 ⟨v9, rfl, hS9, hb9⟩
  refine hK _ _ (by (repeat first|exact J0|assumption|(apply J1;assumption)|apply J2|apply J3|apply J4)) ?_
  clear hK K
  refine wpMid_run rfl (fun K hK => ?_)
  go_simp
  refine (cP1 _ _ hS9).mono ?_
  rintro e w10 ⟨rfl, hb10⟩
  refine hK _ _ (by (repeat first|exact J0|assumption|(apply J1;assumption)|apply J2|apply J3|apply J4)) ?_
  clear hK K
  refine wpMid_nil ?_
  go_wp2_with fail
  refine (cP2 _ (by (repeat first|exact J0|assumption|(apply J1;assumption)|apply J2|apply J3|apply J4))).mono ?_
  rintro e w11 ⟨rfl, hb11⟩
  go_wp2
  go_ret
  exact ⟨rfl, by (repeat first|exact J0|assumption|(apply J1;assumption)|apply J2|apply J3|apply J4)⟩
end Go.Proofs.YtgndakgggfbanaaGreatDoor

/- Length, CheckPlan, bars of plans, walked. Conditions: bounds. -/
import Derived.Test.YtgndakgggfbanaaGreatDoorR29
import Derived.Test.YtgndakgggfbanaaGreatDoorR26
import Derived.Test.YtgndakgggfbanaaGreatDoorR27
import Derived.Test.YtgndakgggfbanaaGreatDoorR14
import Derived.Test.YtgndakgggfbanaaGreatDoorR23
import Derived.Lib.AtoiTie
import Derived.Test.YtgndakgggfbanaaGreatDoorR10
import Derived.Lib.SplitLaws
import Derived.Lib.IndexBytes
import Derived.Lib.IndexMore
import Derived.Test.YtgndakgggfbanaaGreatDoorR24
import Derived.Test.YtgndakgggfbanaaGreatDoorR20
import Derived.Test.YtgndakgggfbanaaGreatDoorR11
namespace Go.Proofs.YtgndakgggfbanaaGreatDoor
open Go.RowKit Go.ChangeMaps
set_option maxHeartbeats 4000000
set_option maxRecDepth 100000
attribute [local go_sem] Oper.semAt_some
theorem both_eq (l : List Pan) (plan : List Plc) : (if pieE l = 0 then plcE l.length plan else pieE l) = bothE l plan := rfl
theorem apiLength_any {v u : Value} (l : List Pan) (plan : List Plc) (w : World) (h : SlP w v l) (hp : SlL w u plan) (hnm : ∀ p ∈ l, p.1.length ≤ 1000000) (hll : l.length ≤ 100000) (hpl : plan.length ≤ 100000) :
  Calls Tryz.prog 33 #[v, u] w (RV w (.tuple #[.int .i64 (onlyN (bothE l plan) (lenP l plan)), .int .i64 (bothE l plan)])) := by
 have hc := fun W (hb : Below w.heap.size w W) => checkBoth_any l plan W (h.below hb) (hp.below hb) hnm hll hpl
 rw [both_eq] at hc
 by_cases hE : bothE l plan = 0
 ·obtain ⟨hPL, hl16, hp16, hIL, hNP, hEV⟩ := both_ok hnm hE
  have hm := fun W (hb : Below w.heap.size w W) => mappedW_any l W (h.below hb) hl16 hPL
  have hle := fun W va vp ha hp' => length_any (va := va) (vp := vp) l plan W ha hp' hPL hIL (hNP.mono (by omega)) (by omega)
  have HLE := Lib.hid hle
  have HS : Hid (onlyN (bothE l plan) (lenP l plan) = lenP l plan) := by unfold Hid onlyN; rw [if_pos hE]
  rw [HS.out, hE]
  rw [hE] at hc
  obtain ⟨N, hN⟩ : ∃ N, lenP l plan = N := ⟨_, rfl⟩
  rw [hN] at HLE ⊢
  have HP : Hid (SlL w u plan) := hp
  obtain ⟨xs, ⟨A, c, rfl, _, _, _⟩, _⟩ := h
  obtain ⟨B, d, rfl, _, _, hr⟩ := hp
  clear hE hPL hIL hNP hEV hle hN HS
  go_enter Tryz.func33, Tryz.ntmps33
  go_wp2_with fail
  refine (hc _ (by (repeat first|exact J0|assumption|(apply J1;assumption)|apply J2|apply J3|apply J4))).mono ?_
  rintro e w2 ⟨rfl, hb2⟩
  go_wp2_with fail
  refine (hm _ (by (repeat first|exact J0|assumption|(apply J1;assumption)|apply J2|apply J3|apply J4))).mono ?_
  rintro e w3 ⟨va, rfl, hWa, hb3⟩
  obtain ⟨Aa, ca, rfl⟩ := hWa.shape
  have hbw3 : Below w.heap.size w w3 := by (repeat first|exact J0|assumption|(apply J1;assumption)|apply J2|apply J3|apply J4)
  clear hc hm hb2 hb3
  go_wp2_with fail
  refine (HLE.out _ _ _ hWa (HP.out.below hbw3)).mono ?_
  rintro e w4 ⟨rfl, hb4⟩
  go_wp2
  refine bodyPost_ret (v := .tuple #[.int .i64 N, .int .i64 0]) (by simp [results, Tryz.results33, go_sem]) rfl ?_
  exact ⟨rfl, by (repeat first|exact J0|assumption|(apply J1;assumption)|apply J2|apply J3|apply J4)⟩
 ·have t0 : (bothE l plan != 0) = true := by simp [hE]
  have HS : Hid (onlyN (bothE l plan) (lenP l plan) = 0) := by unfold Hid onlyN; rw [if_neg hE]
  rw [HS.out]
  obtain ⟨E, hEE⟩ : ∃ E, bothE l plan = E := ⟨_, rfl⟩
  rw [hEE] at hc t0 ⊢
  obtain ⟨xs, ⟨A, c, rfl, _, _, _⟩, _⟩ := h
  obtain ⟨B, d, rfl, _, _, hr⟩ := hp
  clear hE hEE
  go_enter Tryz.func33, Tryz.ntmps33
  go_wp2_with fail
  refine (hc _ (by (repeat first|exact J0|assumption|(apply J1;assumption)|apply J2|apply J3|apply J4))).mono ?_
  rintro e w2 ⟨rfl, hb2⟩
  go_wp2
  refine bodyPost_ret (v := .tuple #[.int .i64 0, .int .i64 E]) (by simp [results, Tryz.results33, go_sem]) rfl ?_
  exact ⟨rfl, by (repeat first|exact J0|assumption|(apply J1;assumption)|apply J2|apply J3|apply J4)⟩
def cpaE (b : Bal) (l : List Pan) (plan : List Plc) : Int := firstI [balE b, bothE l plan]
def cpnE (b : Bal) (l : List Pan) (plan : List Plc) : Int := if cpaE b l plan = 0 then fitE b l plan else cpaE b l plan
theorem bal_ok {b : Bal} (h : balE b = 0) : (1 ≤ b.2.1 ∧ b.2.1 ≤ 256) ∧ 1 ≤ b.2.2 ∧ b.2.2 ≤ 2000 := by
 unfold balE at h
 obtain ⟨_, h⟩ := firstI_cons0 h
 obtain ⟨h1, h⟩ := firstI_cons0 h
 obtain ⟨h2, _⟩ := firstI_cons0 h
 exact ⟨withinI_zero h1, withinI_zero h2⟩
theorem cpa_ok {b : Bal} {l : List Pan} {plan : List Plc} (h : cpaE b l plan = 0) : balE b = 0 ∧ bothE l plan = 0 := firstI_zero h
theorem apiCheckPlan_any {v u : Value} (b : Bal) (l : List Pan) (plan : List Plc) (w : World) (hbn : b.1.length ≤ 1000000) (h : SlP w v l) (hp : SlL w u plan) (hnm : ∀ p ∈ l, p.1.length ≤ 1000000) (hll : l.length ≤ 100000) (hpl : plan.length ≤ 100000) :
  Calls Tryz.prog 24 #[.agg #[sV b.1, .int .i64 b.2.1, .int .i64 b.2.2], v, u] w (RV w (.int .i64 (cpnE b l plan))) := by
 have hcb := fun W => checkBale_any b hbn W
 have hc := fun W (hb : Below w.heap.size w W) => checkBoth_any l plan W (h.below hb) (hp.below hb) hnm hll hpl
 rw [both_eq] at hc
 have hf2 : ∀ A c' W, Rd ic 1 W A [balE b, bothE l plan] → Calls Tryz.prog 44 #[.slice A 2 c'] W (RV W (.int .i64 (cpaE b l plan))) := fun A c' W hr => bfirst_any [balE b, bothE l plan] A c' W (by simp [maxLen]) hr
 by_cases hE : cpaE b l plan = 0
 ·obtain ⟨hB0, hE0⟩ := cpa_ok hE
  obtain ⟨hPL, hl16, hp16, hIL, hNP, hEV⟩ := both_ok hnm hE0
  have hbb := bal_ok hB0
  have hm := fun W (hb : Below w.heap.size w W) => mappedW_any l W (h.below hb) hl16 hPL
  have HFT := Lib.hid (fun W va vp ha hp' => fits_any (va := va) (vp := vp) b l plan W ha hp' hPL hIL (hNP.mono (by omega)) (by omega) ⟨by omega, by omega⟩)
  have HS : Hid (cpnE b l plan = fitE b l plan) := by unfold Hid cpnE; rw [if_pos hE]
  rw [HS.out]
  rw [hE] at hf2
  obtain ⟨N, hN⟩ : ∃ N, fitE b l plan = N := ⟨_, rfl⟩
  rw [hN] at HFT ⊢
  obtain ⟨E1, hE1⟩ : ∃ E, balE b = E := ⟨_, rfl⟩
  obtain ⟨E2, hE2⟩ : ∃ E, bothE l plan = E := ⟨_, rfl⟩
  rw [hE1] at hcb hf2
  rw [hE2] at hc hf2
  have HP : Hid (SlL w u plan) := hp
  obtain ⟨xs, ⟨A, c, rfl, _, _, _⟩, _⟩ := h
  obtain ⟨B, d, rfl, _, _, hr⟩ := hp
  obtain ⟨nm, br, bl⟩ := b
  unfold sV at hcb HFT ⊢
  simp only at hcb HFT
  have hK := Blk.new w 31 #[.string ⟨nm.toArray⟩, .int .i64 br, .int .i64 bl]
  have fhK := hK.facts
  clear hE hE0 hB0 hPL hIL hNP hEV hN HS hE1 hE2 hbb
  go_enter Tryz.func24, Tryz.ntmps24
  go_wp2_with fail
  refine (hcb _).mono ?_
  rintro e w2 ⟨rfl, hb2⟩
  replace hK := hK.below (show Below _ _ w2 by (repeat first|exact J0|assumption|(apply J1;assumption)|apply J2|apply J3|apply J4))
  replace fhK := hK.facts
  go_wp2_with fail
  refine (hc _ (by (repeat first|exact J0|assumption|(apply J1;assumption)|apply J2|apply J3|apply J4))).mono ?_
  rintro e w3 ⟨rfl, hb3⟩
  replace hK := hK.below (show Below _ _ w3 by (repeat first|exact J0|assumption|(apply J1;assumption)|apply J2|apply J3|apply J4))
  replace fhK := hK.facts
  go_wp2_with fail
  go_must (refine (hf2 _ _ _ (Rd.ints2 (by simp) (by go_simp) (by go_simp))).mono ?_)
  rintro e w4 ⟨rfl, hb4⟩
  have hK4 := hK.below (show Below _ _ w4 by (repeat first|exact J0|assumption|(apply J1;assumption)|apply J2|apply J3|apply J4))
  have hbw4 : Below w.heap.size w w4 := by (repeat first|exact J0|assumption|(apply J1;assumption)|apply J2|apply J3|apply J4)
  have fK4 := hK4.facts
  clear hcb hc hf2 hb2 hb3 hb4 hK fhK
  go_upto_region 4 with fail
  refine wp_region_ords [0, 1, 3] [(2, false)] [4, 5] (by kernel_rfl) (by kernel_rfl) (fun d _ _ _ _ h => by cases d <;> exact h) ?_
  simp only [List.map_cons, List.map_nil, List.getD_cons_zero, List.getD_cons_succ]
  repeat (go_big_quiet_step (fail))
  refine wpQuiet_nil ?_
  refine wpMid_run rfl (fun K hK => ?_)
  go_simp
  refine (hm _ (by (repeat first|exact J0|assumption|(apply J1;assumption)|apply J2|apply J3|apply J4))).mono ?_
  rintro e w5 ⟨va, rfl, hWa, hb5⟩
  refine hK _ _ (by (repeat first|exact J0|assumption|(apply J1;assumption)|apply J2|apply J3|apply J4)) ?_
  clear hK K
  have hK4_w5 := hK4.below (show Below _ _ w5 by (repeat first|exact J0|assumption|(apply J1;assumption)|apply J2|apply J3|apply J4))
  have fhK4_w5 := hK4_w5.facts
  obtain ⟨Aa, ca, rfl⟩ := hWa.shape
  refine wpMid_nil ?_
  go_wp2_with fail
  refine (HFT.out _ _ _ hWa (HP.out.below (by (repeat first|exact J0|assumption|(apply J1;assumption)|apply J2|apply J3|apply J4)))).mono ?_
  rintro e w6 ⟨rfl, hb6⟩
  go_wp2
  go_ret
  exact ⟨rfl, by (repeat first|exact J0|assumption|(apply J1;assumption)|apply J2|apply J3|apply J4)⟩
 ·have t0 : (cpaE b l plan != 0) = true := by simp [hE]
  have HS : Hid (cpnE b l plan = cpaE b l plan) := by unfold Hid cpnE; rw [if_neg hE]
  rw [HS.out]
  obtain ⟨E, hEE⟩ : ∃ E, cpaE b l plan = E := ⟨_, rfl⟩
  rw [hEE] at hf2 t0 ⊢
  obtain ⟨E1, hE1⟩ : ∃ E, balE b = E := ⟨_, rfl⟩
  obtain ⟨E2, hE2⟩ : ∃ E, bothE l plan = E := ⟨_, rfl⟩
  rw [hE1] at hcb hf2
  rw [hE2] at hc hf2
  obtain ⟨xs, ⟨A, c, rfl, _, _, _⟩, _⟩ := h
  obtain ⟨B, d, rfl, _, _, hr⟩ := hp
  obtain ⟨nm, br, bl⟩ := b
  unfold sV at hcb ⊢
  simp only at hcb
  have hK := Blk.new w 31 #[.string ⟨nm.toArray⟩, .int .i64 br, .int .i64 bl]
  have fhK := hK.facts
  clear hE hEE hE1 hE2 HS
  go_enter Tryz.func24, Tryz.ntmps24
  go_wp2_with fail
  refine (hcb _).mono ?_
  rintro e w2 ⟨rfl, hb2⟩
  replace hK := hK.below (show Below _ _ w2 by (repeat first|exact J0|assumption|(apply J1;assumption)|apply J2|apply J3|apply J4))
  replace fhK := hK.facts
  go_wp2_with fail
  refine (hc _ (by (repeat first|exact J0|assumption|(apply J1;assumption)|apply J2|apply J3|apply J4))).mono ?_
  rintro e w3 ⟨rfl, hb3⟩
  replace hK := hK.below (show Below _ _ w3 by (repeat first|exact J0|assumption|(apply J1;assumption)|apply J2|apply J3|apply J4))
  replace fhK := hK.facts
  go_wp2_with fail
  go_must (refine (hf2 _ _ _ (Rd.ints2 (by simp) (by go_simp) (by go_simp))).mono ?_)
  rintro e w4 ⟨rfl, hb4⟩
  go_wp2
  go_ret
  exact ⟨rfl, by (repeat first|exact J0|assumption|(apply J1;assumption)|apply J2|apply J3|apply J4)⟩
def usF (l : List Pan) (plan : List Plc) (k : Nat) : Int := (plan.take k).foldl (fun m x => m + ((netL (pcP l x)).length : Int)) 0
theorem usF_succ (l : List Pan) {plan : List Plc} {k : Nat} (hk : k < plan.length) : usF l plan (k + 1) = usF l plan k + ((netL (pcP l plan[k])).length : Int) := by
 unfold usF
 rw [List.take_succ_eq_append_getElem hk, List.foldl_append]
 rfl
theorem net_few {p : Pan} (h : panE p = 0) (hn : netErr p = 0) : (netL p).length ≤ 4096 := by
 unfold netErr at hn
 rw [if_pos h] at hn
 unfold whenI at hn
 split at hn
 ·cases hn
 ·rename_i hh
  simpa using hh
theorem few_at {l : List Pan} (h : PieL l) {o : Plc} (ho : InP l o) : (netL (pcP l o)).length ≤ 4096 := by
 obtain ⟨n, t, a⟩ := o
 obtain ⟨k, hk0, hk⟩ := ho.nat
 simp only at hk0
 subst hk0
 rw [pcP_at hk]
 have hp := h _ (List.getElem_mem hk)
 cases t
 ·exact net_few hp.er hp.nt
 ·exact net_few hp.te hp.tn
theorem usF_near {l : List Pan} (h : PieL l) {plan : List Plc} (hi : InL l plan) (k : Nat) (hk : k ≤ plan.length) : 0 ≤ usF l plan k ∧ usF l plan k ≤ 4096 * (k : Int) := by
 induction k with
 | zero => unfold usF; simp
 | succ k ih =>
  have h1 := ih (by omega)
  rw [usF_succ l (by omega : k < plan.length)]
  have h2 := few_at h (hi _ (List.getElem_mem (by omega : k < plan.length)))
  omega
theorem lenP_near {l : List Pan} (h : PieL l) {plan : List Plc} (hi : InL l plan) (hn : NearPl plan 2000000000) : 0 ≤ lenP l plan ∧ lenP l plan ≤ 1000002500 := by
 have := moF_near h hi hn plan.length (Nat.le_refl _)
 have e : lenP l plan = (moF l plan plan.length + 1) / 2 := by unfold lenP mostE moF; rw [List.take_length]
 omega
theorem bars2_any {v u : Value} (b : Bal) (l : List Pan) (plan : List Plc) (w : World) (h : SlP w v l) (hp : SlL w u plan) (hPL : PieL l) (hl16 : l.length ≤ 16) (hp16 : plan.length ≤ 16) (hIL : InL l plan) (hNP : NearPl plan 100000) (hbr : -1000000 ≤ b.2.1 ∧ b.2.1 ≤ 1000000) :
  Calls Tryz.prog 84 #[.agg #[sV b.1, .int .i64 b.2.1, .int .i64 b.2.2], v, u] w (RV w (.tuple #[.int .i64 (usedP l plan), .int .i64 (2 * lenP l plan * b.2.1)])) := by
 have hm := fun W (hb : Below w.heap.size w W) => mappedW_any l W (h.below hb) hl16 hPL
 have HLE := Lib.hid (fun W va vp ha hp' => length_any (va := va) (vp := vp) l plan W ha hp' hPL hIL (hNP.mono (by omega)) (by omega))
 have HF := Lib.hid (fun k hk' => usF_near hPL hIL k hk')
 have HS := Lib.hid (fun k hk' => usF_succ l (plan := plan) (k := k) hk')
 have HR : Hid (usedP l plan = usF l plan plan.length) := by unfold Hid usedP usF; rw [List.take_length]
 have HFW := Lib.hid (fun o (ho : o ∈ plan) => few_at hPL (hIL o ho))
 have HLN := Lib.hid (lenP_near hPL hIL (hNP.mono (by omega)))
 have HI := Lib.hid hIL
 obtain ⟨N, hN⟩ : ∃ N, lenP l plan = N := ⟨_, rfl⟩
 rw [hN] at HLE HLN ⊢
 rw [HR.out]
 have HP : Hid (SlL w u plan) := hp
 obtain ⟨xs, ⟨A, c, rfl, _, _, _⟩, _⟩ := h
 obtain ⟨B, d, rfl, _, _, hr⟩ := hp
 obtain ⟨nm, br, bl⟩ := b
 unfold sV
 simp only at hbr ⊢
 have hK := Blk.new w 31 #[.string ⟨nm.toArray⟩, .int .i64 br, .int .i64 bl]
 have fhK := hK.facts
 clear hPL hIL hNP hN HR
 go_enter Tryz.func84, Tryz.ntmps84
 go_wp2_with fail
 refine (hm _ (by (repeat first|exact J0|assumption|(apply J1;assumption)|apply J2|apply J3|apply J4))).mono ?_
 rintro e w3 ⟨va, rfl, hWa, hb3⟩
 replace hK := hK.below (show Below _ _ w3 by (repeat first|exact J0|assumption|(apply J1;assumption)|apply J2|apply J3|apply J4))
 replace fhK := hK.facts
 obtain ⟨Aa, ca, rfl⟩ := hWa.shape
 have hbw3 : Below w.heap.size w w3 := by (repeat first|exact J0|assumption|(apply J1;assumption)|apply J2|apply J3|apply J4)
 clear hm hb3
 go_wp2
 go_loopw [6, 15] (fun m i wr => ∃ k : Nat, k ≤ plan.length ∧ i = .int .i64 k ∧ m = .int .i64 (usF l plan k) ∧ Below w3.heap.size w3 wr) (fun _ i _ => plan.length - (intOf i).toNat)
 case atStart => exact ⟨0, Nat.zero_le _, rfl, rfl, bl_refl⟩
 case round =>
  obtain ⟨k, hk, rfl, rfl, hbk⟩ := hrel
  obtain ⟨wo, rfl⟩ : ∃ x, x = wr := ⟨_, rfl⟩
  have hbw := bl_then hbk hbw3
  have hfk := HF.out k hk
  by_cases hlt : k < plan.length
  ·obtain ⟨b, off, rfl, hb, c0, c1, c2⟩ := (hr.below hbw).plc hlt
   have ho := HI.out _ (List.getElem_mem hlt)
   have hfw := HFW.out _ (List.getElem_mem hlt)
   have HSk := Lib.hid (HS.out k hlt)
   obtain ⟨⟨n, u, f⟩, hoo⟩ : ∃ o, plan[k] = o := ⟨_, rfl⟩
   rw [hoo] at ho hfw c0 c1 c2 HSk
   obtain ⟨ko, hko0, hko⟩ := ho.nat
   simp only at c0 c1 c2 hko0
   subst hko0
   have hX := Blk.new wo 59 #[.int .i64 ko, .bool u, .int .i64 f]
   have hbx : Below w3.heap.size w3 (wo.alloc (.cells #[.int .i64 ko, .bool u, .int .i64 f] 59)) := bl_alloc hbk _
   go_upto_region 5 with fail
   obtain ⟨wx, hwx⟩ : ∃ X, wo.alloc (.cells #[.int .i64 ko, .bool u, .int .i64 f] 59) = X := ⟨_, rfl⟩
   obtain ⟨gx, hgx⟩ : ∃ X, wo.heap.size = X := ⟨_, rfl⟩
   rw [hwx] at hbx
   rw [hwx, hgx] at hX
   rw [hwx, hgx]
   clear hwx hgx c0 c1 c2 hb
   obtain ⟨bA, oA, p0, p5, q0, q5, r0, r5, p1, p2, p6, p7, q1, q2, q6, q7, r2, r7, p3, p4, q3, q4, hAA, hbAx, ⟨e0, e1, e2, e3, e4, e5, e6, e7⟩, hat2, hrr, hnt⟩ := hWa.look hko u f hbx
   subst hAA
   obtain ⟨P, hP⟩ : ∃ P, pcP l ((ko : Int), u, f) = P := ⟨_, rfl⟩
   rw [hP] at hat2 HSk hfw
   obtain ⟨F, hFF⟩ : ∃ F, usF l plan k = F := ⟨_, rfl⟩
   rw [hFF] at HSk hfk ⊢
   obtain ⟨⟨E1, E2⟩, hEE⟩ : ∃ F, endsP P = F := ⟨_, rfl⟩
   rw [hEE] at hat2
   simp only at hat2
   have fX := hX.facts
   clear hP hFF hEE hrr hnt
   refine wp_region_ords [0, 1, 2, 3, 4, 5, 6] [(7, false), (8, false), (9, false)] [10, 11] (by kernel_rfl) (by kernel_rfl) (fun d _ _ _ _ h => by cases d <;> exact h) ?_
   simp only [List.map_cons, List.map_nil, List.getD_cons_zero, List.getD_cons_succ]
   repeat (go_big_quiet_step (fail))
   refine wpQuiet_nil ?_
   refine wpMid_run rfl (fun K hK => ?_)
   go_simp
   refine (hat2 _).mono ?_
   rintro e w7 ⟨rfl, hb7⟩
   refine hK _ _ (by (repeat first|exact J0|assumption|(apply J1;assumption)|apply J2|apply J3|apply J4)) ?_
   clear hK K
   refine wpMid_run rfl (fun K hK => ?_)
   go_simp
   refine hK _ _ (by (repeat first|exact J0|assumption|(apply J1;assumption)|apply J2|apply J3|apply J4)) ?_
   clear hK K
   refine wpMid_run rfl (fun K hK => ?_)
   go_simp
   refine hK _ _ (by (repeat first|exact J0|assumption|(apply J1;assumption)|apply J2|apply J3|apply J4)) ?_
   clear hK K
   refine wpMid_nil ?_
   have hbx7 : Below w3.heap.size w3 w7 := bl_then (show Below wx.heap.size wx w7 by (repeat first|exact J0|assumption|(apply J1;assumption)|apply J2|apply J3|apply J4)) hbx
   clear hbx hb7 fX hX hat2 e0 e1 e2 e3 e4 e5 e6 e7
   go_wp2
   go_roundw
   case rel => exact ⟨k + 1, by omega, by go_num, by rw [HSk.out], hbx7⟩
   case measure => simp [intOf]; omega
  ·obtain rfl : k = plan.length := by omega
   obtain ⟨F, hFF⟩ : ∃ F, usF l plan plan.length = F := ⟨_, rfl⟩
   rw [hFF] at hfk ⊢
   have hKo := hK.below hbk
   have fKo := hKo.facts
   have hln := HLN.out
   have hmul1 : 2 * N * br ≤ 2 * N * 1000000 := Int.mul_le_mul_of_nonneg_left hbr.2 (by omega)
   have hmul2 : 2 * N * (-1000000) ≤ 2 * N * br := Int.mul_le_mul_of_nonneg_left hbr.1 (by omega)
   have hmul : -2000005000000000 ≤ 2 * N * br ∧ 2 * N * br ≤ 2000005000000000 := by omega
   clear hmul1 hmul2
   go_upto_region 7 with fail
   refine wp_region_ords [0, 1, 2, 5, 6] [(3, false), (4, true), (7, true), (8, false)] [9] (by kernel_rfl) (by kernel_rfl) (fun d _ _ _ _ h => by cases d <;> exact h) ?_
   simp only [List.map_cons, List.map_nil, List.getD_cons_zero, List.getD_cons_succ]
   repeat (go_big_quiet_step (fail))
   refine wpQuiet_nil ?_
   refine wpMid_run rfl (fun K hK => ?_)
   go_simp
   refine (HLE.out _ _ _ (hWa.below (bl_drew hbk)) (HP.out.below (bl_drew hbw))).mono ?_
   rintro e w7 ⟨rfl, hb7⟩
   refine hK _ _ (by (repeat first|exact J0|assumption|(apply J1;assumption)|apply J2|apply J3|apply J4)) ?_
   clear hK K
   refine wpMid_take rfl ?_
   intro K hK
   go_big_quiet_op
   go_big_quiet_on
   refine wpMid_take rfl ?_
   intro K hK
   go_big_quiet_op
   go_big_quiet_on
   refine wpMid_run rfl (fun K hK => ?_)
   go_simp
   refine hK _ _ (by (repeat first|exact J0|assumption|(apply J1;assumption)|apply J2|apply J3|apply J4)) ?_
   clear hK K
   refine wpMid_nil ?_
   have hbw7 : Below w.heap.size w w7 := bl_then hb7 (bl_drew hbw)
   go_wp2
   refine bodyPost_ret (v := .tuple #[.int .i64 F, .int .i64 (2 * N * br)]) (by simp [results, Tryz.results84, go_sem]) rfl ?_
   exact ⟨by rw [hFF], hbw7⟩
@[go_sem] theorem eqn_none (n c : Nat) (w : World) : (binOp .eql 60 (.slice none n c) (.slice none 0 0)).run Tryz.prog w = .ok (.bool true) w := by kernel_rfl
@[go_sem] theorem eqn_some (a : Addr) (n c : Nat) (w : World) : (binOp .eql 60 (.slice (some a) n c) (.slice none 0 0)).run Tryz.prog w = .ok (.bool false) w := by kernel_rfl
@[go_sem] theorem nen_some (a : Addr) (n c : Nat) (w : World) : (binOp .neq 60 (.slice (some a) n c) (.slice none 0 0)).run Tryz.prog w = .ok (.bool true) w := by kernel_rfl
@[go_sem] theorem nen_none (n c : Nat) (w : World) : (binOp .neq 60 (.slice none n c) (.slice none 0 0)).run Tryz.prog w = .ok (.bool false) w := by kernel_rfl
theorem clonePl_any {v : Value} (p : List Plc) (w : World) (h : SlL w v p) (hl : p.length ≤ 100000) : Calls Tryz.prog 89 #[v] w (RG plc 3 59 w p) := by
 have h0 := h
 obtain ⟨A, c, rfl, hlc, hcm, hr⟩ := h
 cases A with
 | none =>
  obtain rfl : p = [] := by
   cases p with
   | nil => rfl
   | cons x r => obtain ⟨_, _, e, _⟩ := hr 0 x rfl; cases e
  go_enter Tryz.func89, Tryz.ntmps89
  go_wp2
  go_ret
  exact ⟨_, rfl, Own.nil_, bl_refl⟩
 | some a =>
  have hE := Own.empty plc 3 w 59
  have hal : Below w.heap.size w (w.alloc (.cells #[] 59)) := bl_alloc bl_refl _
  have h1 := h0.below hal
  clear h0 hr hlc hcm
  go_enter Tryz.func89, Tryz.ntmps89
  go_wp2_with (at_builtin; refine wpList_app rfl plc_elem plc_len plc_one _ _ rfl w.heap.size _ _ [] p rfl rfl hE h1 (by simp [maxLen]; omega) (by simp; omega) (by simp) ?_; intro v3 w3 hu3 hgr3)
  have hb3 : Below w.heap.size w w3 := bl_grown hgr3 hal (fun j e => (hE.lt j e).1)
  rw [List.nil_append] at hu3
  go_wp2
  go_ret
  exact ⟨_, rfl, hu3, hb3⟩
def RowsP (base : Nat) (w : World) : List SlV → List (List Plc) → Prop
 | [], [] => True
 | t :: ts, L :: Ls => Own plc 3 base 59 w (slV t) L ∧ RowsP base w ts Ls
 | _, _ => False
theorem RowsP.len {base : Nat} {w : World} : ∀ {ts : List SlV} {Ls : List (List Plc)}, RowsP base w ts Ls → ts.length = Ls.length
 | [], [], _ => rfl
 | _ :: _, _ :: _, h => by simp [RowsP.len h.2]
 | [], _ :: _, h => h.elim
 | _ :: _, [], h => h.elim
theorem RowsP.map_ {base base' : Nat} {w w' : World} (hm : ∀ v L, Own plc 3 base 59 w v L → Own plc 3 base' 59 w' v L) : ∀ {ts : List SlV} {Ls : List (List Plc)}, RowsP base w ts Ls → RowsP base' w' ts Ls
 | [], [], _ => trivial
 | _ :: _, _ :: _, h => ⟨hm _ _ h.1, h.2.map_ hm⟩
 | [], _ :: _, h => h.elim
 | _ :: _, [], h => h.elim
theorem RowsP.get {base : Nat} {w : World} : ∀ {ts : List SlV} {Ls : List (List Plc)} {i : Nat}, RowsP base w ts Ls → (hi : i < ts.length) → (hj : i < Ls.length) → Own plc 3 base 59 w (slV ts[i]) Ls[i]
 | _ :: _, _ :: _, 0, h, _, _ => h.1
 | _ :: _, _ :: _, i + 1, h, hi, hj => by
  simp only [List.getElem_cons_succ]
  exact h.2.get _ _
 | [], _, _, _, hi, _ => by simp at hi
 | _ :: _, [], _, h, _, _ => h.elim
theorem RowsP.set {base : Nat} {w : World} {t : SlV} {L : List Plc} (ht : Own plc 3 base 59 w (slV t) L) : ∀ {ts : List SlV} {Ls : List (List Plc)} (i : Nat), RowsP base w ts Ls → RowsP base w (ts.set i t) (Ls.set i L)
 | [], [], _, _ => trivial
 | _ :: _, _ :: _, 0, h => ⟨ht, h.2⟩
 | _ :: _, _ :: _, i + 1, h => ⟨h.1, h.2.set ht i⟩
 | [], _ :: _, _, h => h.elim
 | _ :: _, [], _, h => h.elim
theorem RowsP.nils {base : Nat} {w : World} : ∀ n : Nat, RowsP base w (List.replicate n (none, 0, 0)) (List.replicate n [])
 | 0 => trivial
 | n + 1 => ⟨Own.nil_, RowsP.nils n⟩
def PlsR (w : World) : List SlV → List (List Plc) → Prop
 | [], [] => True
 | t :: ts, L :: Ls => SlL w (slV t) L ∧ PlsR w ts Ls
 | _, _ => False
theorem RowsP.read {base : Nat} {w : World} : ∀ {ts : List SlV} {Ls : List (List Plc)}, RowsP base w ts Ls → PlsR w ts Ls
 | [], [], _ => trivial
 | _ :: _, _ :: _, h => ⟨h.1.rd plc_len, h.2.read⟩
 | [], _ :: _, h => h.elim
 | _ :: _, [], h => h.elim
def SlPP (w : World) (v : Value) (ps : List (List Plc)) : Prop := ∃ ts, Sl rc 1 w v ts ∧ PlsR w ts ps
theorem sto_ok {l : List Bal} (h : stoE l = 0) : l.length ≤ 16 ∧ ∀ b ∈ l, balE b = 0 := by
  unfold stoE at h
  split at h
  · omega
  · have key : ∀ (r done : List Bal), stoG done r = 0 → ∀ b ∈ r, balE b = 0 := by
      intro r
      induction r with
      | nil => intro _ _ b hb; cases hb
      | cons q t ih =>
        intro done hg b hb
        rw [stoG] at hg
        split at hg
        · rename_i h0
          rcases List.mem_cons.1 hb with rfl | hb
          · exact (firstI_zero h0).1
          · exact ih _ hg b hb
        · rename_i h0
          exact absurd hg h0
    exact ⟨by omega, key l [] h⟩
def paaE (stock : List Bal) (l : List Pan) : Int := firstI [stoE stock, pieE l]
def pakE (stock : List Bal) (l : List Pan) : Int := if paaE stock l ≠ 0 then paaE stock l else if (packP stock l).isNone then 23 else 0
def pakL (stock : List Bal) (l : List Pan) : List (List Plc) := if pakE stock l = 0 then (packP stock l).getD [] else []
theorem packG_none (stock : List Bal) (l : List Pan) : ∀ r : List Nat, r.foldl (packG stock l) none = none
 | [] => rfl
 | _ :: r => packG_none stock l r
theorem packP_at {stock : List Bal} {l : List Pan} {ps : List (List Plc)} {k : Nat} (hk : k < l.length) : ((List.range l.length).drop k).foldl (packG stock l) (some ps) = ((List.range l.length).drop (k + 1)).foldl (packG stock l) (putB l k stock ps) := by
 rw [List.drop_eq_getElem_cons (by simpa using hk), List.foldl_cons, List.getElem_range]
 rfl
theorem putB_at {l : List Pan} {i : Nat} {stock : List Bal} {ps : List (List Plc)} {j : Nat} (hj : j < stock.length) (hp : j < ps.length) :
  putB l i (stock.drop j) (ps.drop j) = match onB stock[j] l ps[j] i with | some q => some (q :: ps.drop (j + 1)) | none => (putB l i (stock.drop (j + 1)) (ps.drop (j + 1))).map fun r => ps[j] :: r := by
 rw [List.drop_eq_getElem_cons hj, List.drop_eq_getElem_cons hp, putB] <;> rfl
def PkOk (l : List Pan) (k : Nat) (ps : List (List Plc)) : Prop := ∀ p ∈ ps, InL l p ∧ NearPl p (5000 + 200003 * (k : Int)) ∧ p.length ≤ k
theorem PkOk.cand {l : List Pan} {k : Nat} {p : List Plc} (hP : PieL l) (h : InL l p ∧ NearPl p (5000 + 200003 * (k : Int)) ∧ p.length ≤ k) (hk : k < l.length) (t : Bool) : InL l (candP l p k t) ∧ NearPl (candP l p k t) (5000 + 200003 * ((k + 1 : Nat) : Int)) ∧ (candP l p k t).length ≤ k + 1 := by
 obtain ⟨h1, h2, h3⟩ := h
 have hx : InP l ((k : Int), t, 0) := ⟨by simp only; omega, by simp only; omega⟩
 have hf := nxF_near hP hx h1 (by omega : (5000 : Int) ≤ 5000 + 200003 * (k : Int)) h2 p.length (Nat.le_refl _)
 rw [nxF_all] at hf
 unfold candP
 refine ⟨fun o ho => ?_, fun o ho => ?_, by rw [List.length_append]; simp; exact h3⟩
 ·rcases List.mem_append.1 ho with ho | ho
  ·exact h1 o ho
  ·obtain rfl := List.mem_singleton.1 ho
   exact hx
 ·rcases List.mem_append.1 ho with ho | ho
  ·have := h2 o ho
   push_cast
   omega
  ·obtain rfl := List.mem_singleton.1 ho
   unfold nextP
   simp only
   push_cast
   omega
theorem PkOk.step {l : List Pan} {k : Nat} {ps : List (List Plc)} (h : PkOk l k ps) : PkOk l (k + 1) ps := fun p hp => by
 obtain ⟨h1, h2, h3⟩ := h p hp
 exact ⟨h1, h2.mono (by push_cast; omega), by omega⟩
theorem PkOk.set {l : List Pan} {k : Nat} {ps : List (List Plc)} (h : PkOk l k ps) (j : Nat) {q : List Plc} (hq : InL l q ∧ NearPl q (5000 + 200003 * (k : Int)) ∧ q.length ≤ k) : PkOk l k (ps.set j q) := fun p hp => by
 rcases List.mem_or_eq_of_mem_set hp with hp | rfl
 ·exact h p hp
 ·exact hq
def bstO (b : Bal) (l : List Pan) (p : List Plc) (i : Nat) : Nat → Option (List Plc)
 | 0 => none
 | 1 => if fitE b l (candP l p i false) = 0 then some (candP l p i false) else none
 | _ => onB b l p i
theorem bstO_two (b : Bal) (l : List Pan) (p : List Plc) (i : Nat) : bstO b l p i 2 = if fitE b l (candP l p i true) = 0 ∧ (∀ q, bstO b l p i 1 = some q → lenP l (candP l p i true) < lenP l q) then some (candP l p i true) else bstO b l p i 1 := by
 show onB b l p i = _
 unfold onB bstO
 by_cases h1 : fitE b l (candP l p i true) = 0
 ·by_cases h2 : fitE b l (candP l p i false) = 0
  ·by_cases h3 : lenP l (candP l p i true) < lenP l (candP l p i false)
   ·rw [if_pos ⟨h1, .inr h3⟩, if_pos h2, if_pos ⟨h1, fun q hq => by cases hq; exact h3⟩]
   ·rw [if_neg (fun h => by rcases h.2 with h | h; exact h h2; exact h3 h), if_pos h2, if_neg (fun h => h3 (h.2 _ rfl))]
    rfl
  ·rw [if_pos ⟨h1, .inl h2⟩, if_neg h2, if_pos ⟨h1, fun q hq => by cases hq⟩]
 ·simp only [h1, false_and, if_false]
end Go.Proofs.YtgndakgggfbanaaGreatDoor
namespace Go.Proofs.YtgndakgggfbanaaGreatDoor
open Go.RowKit Go.ChangeMaps
set_option maxHeartbeats 4000000
set_option maxRecDepth 100000
def upI (n d : Int) : Int := (n + d - 1) / d
def barsP (l : List Pan) : Int := (l.map fun p => ((netL p).length : Int)).sum
def widP (p : Pan) : Int := upI ((endsP p).2 - (endsP p).1) 2
def widsP (l : List Pan) : Int := l.foldl (fun m p => max m (widP p)) 0
def boundP (b : Bal) (l : List Pan) : Int × Int := (upI (barsP l) (2 * b.2.1), widsP l)
def yldP (u w : Int) : Int × Int := (u / Int.gcd u w, w / Int.gcd u w)
def highP (l : List Pan) : Int := l.foldl (fun m p => max m (heightP p)) 1
theorem high_ge (l : List Pan) : 1 ≤ highP l ∧ ∀ p ∈ l, heightP p ≤ highP l := by
 have key : ∀ (r : List Pan) (m : Int), m ≤ r.foldl (fun m p => max m (heightP p)) m ∧ ∀ p ∈ r, heightP p ≤ r.foldl (fun m p => max m (heightP p)) m := by
  intro r
  induction r with
  | nil => intro m; exact ⟨Int.le_refl _, fun p hp => by cases hp⟩
  | cons q t ih =>
   intro m
   obtain ⟨a, b⟩ := ih (max m (heightP q))
   rw [List.foldl_cons]
   refine ⟨by omega, fun p hp => ?_⟩
   rcases List.mem_cons.1 hp with rfl | hp
   ·omega
   ·exact b p hp
 exact key l 1
theorem high_le {l : List Pan} (h : Pcs l) : highP l ≤ 16 := by
 have key : ∀ (r : List Pan) (m : Int), m ≤ 16 → (∀ p ∈ r, heightP p ≤ 16) → r.foldl (fun m p => max m (heightP p)) m ≤ 16 := by
  intro r
  induction r with
  | nil => intro m hm _; exact hm
  | cons q t ih =>
   intro m hm hr
   have := hr q (List.mem_cons_self ..)
   exact ih _ (by show max m (heightP q) ≤ 16; omega) fun p hp => hr p (List.mem_cons_of_mem _ hp)
 exact key l 1 (by omega) fun p hp => by have := (h p hp).1.high; omega
theorem pc_high {l : List Pan} (h : Pcs l) {x : Plc} (hx : InP l x) : ((stP l x).length : Int) ≤ highP l := by
 obtain ⟨p, hp, e⟩ := pc_cases hx
 obtain ⟨h1, h2, h3⟩ := h p hp
 have h4 := (high_ge l).2 p hp
 have h5 := h1.ok.high
 have : heightP (pcP l x) = heightP p := by
  rw [e]
  split
  ·exact trn_high h1.ok
  ·rfl
 unfold stP
 rw [strips_len, this]
 omega
theorem two_fit {b : Bal} {l : List Pan} (h : Pcs l) (hl : l.length = 2) (hb : 16 ≤ b.2.1) (g : Int) (hg : -400 ≤ g ∧ g ≤ 2000) (hn : 4000 ≤ 2 * b.2.2) :
  fitE b l [(0, false, 1000), (1, false, 1000 + g)] = if gapB (stP l (0, false, 1000)) (stP l (1, false, 1000 + g)) ≤ g then 0 else 16 := by
 have i0 : InP l (0, false, 1000) := by unfold InP; simp only; omega
 have i1 : InP l (1, false, 1000 + g) := by unfold InP; simp only; omega
 have hh := high_le h
 have o : ∀ x : Plc, InP l x → 500 ≤ x.2.2 ∧ x.2.2 ≤ 3100 → outB b l x = false := fun x hx ha => by
  have e := h.ends hx
  have q := pc_high h hx
  unfold outB
  simp only [Bool.or_eq_false_iff, decide_eq_false_iff_not]
  omega
 have o0 := o _ i0 (by simp only; omega)
 have o1 := o _ i1 (by simp only; omega)
 have c0 : crsB l [] (0, false, 1000) = false := rfl
 unfold fitE
 rw [fitG, o0, if_neg (by simp), c0, if_neg (by simp), fitG, o1, if_neg (by simp)]
 unfold crsB
 simp only [List.nil_append, List.any_cons, List.any_nil, Bool.or_false, decide_eq_true_eq]
 rw [show (1000 : Int) + g - 1000 = g by omega]
 by_cases hc : gapB (stP l (0, false, 1000)) (stP l (1, false, 1000 + g)) ≤ g
 ·rw [if_pos hc, if_neg (by omega), fitG]
 ·rw [if_neg hc, if_pos (by omega)]
theorem dig_val {d : Nat} (h : d < 10) : Lib.digitVal (UInt8.ofNat (48 + d)) = some d := by
 have h1 : (UInt8.ofNat (48 + d)).toNat = 48 + d := by rw [UInt8.toNat_ofNat']; omega
 unfold Lib.digitVal
 rw [h1, if_pos (by omega)]
 congr 1
 omega
theorem decFrom_app : ∀ (l r : Str) (a n : Nat), Lib.decFrom a l = some n → Lib.decFrom a (l ++ r) = Lib.decFrom n r
 | [], r, a, n, h => by
  obtain rfl : a = n := by simpa [Lib.decFrom] using h
  rfl
 | b :: l, r, a, n, h => by
  rw [Lib.decFrom] at h
  rw [List.cons_append, Lib.decFrom]
  cases hd : Lib.digitVal b with
  | none => rw [hd] at h; cases h
  | some d => rw [hd] at h; exact decFrom_app l r _ n h
theorem decFrom_dec (u : Nat) : Lib.decFrom 0 (Lib.decDigits u) = some u := by
 induction u using Nat.strongRecOn with
 | ind u ih =>
  rw [Lib.decDigits]
  split
  ·rename_i h
   simp only [Lib.decFrom, dig_val h]
   simp
  ·rename_i h
   rw [decFrom_app _ _ _ _ (ih (u / 10) (by omega)), Lib.decFrom, dig_val (Nat.mod_lt _ (by decide))]
   simp only [Lib.decFrom, Option.some.injEq]
   omega
theorem dec_ne (u : Nat) : Lib.decDigits u ≠ [] := by
 intro e
 have h1 := Lib.decDigits_length u
 have h2 := Lib.nDigits_pos u
 rw [e] at h1
 simp at h1
 omega
theorem decNat_dec (u : Nat) : Lib.decNat (Lib.decDigits u) = some u := by
 unfold Lib.decNat
 rw [if_neg (by rw [List.isEmpty_iff]; exact dec_ne u), decFrom_dec]
theorem dec_digit (u : Nat) {c : UInt8} (hc : c ∈ Lib.decDigits u) : 48 ≤ c.toNat ∧ c.toNat ≤ 57 := by
 obtain ⟨k, hk, rfl⟩ := List.getElem_of_mem hc
 obtain ⟨d, hd⟩ := Lib.digit_of_decFrom _ 0 u (decFrom_dec u) k _ (List.getElem?_eq_getElem hk)
 unfold Lib.digitVal at hd
 split at hd
 ·assumption
 ·cases hd
theorem itoa_byte {n : Int} {c : UInt8} (hc : c ∈ Lib.itoa n) : c.toNat = 45 ∨ (48 ≤ c.toNat ∧ c.toNat ≤ 57) := by
 unfold Lib.itoa at hc
 split at hc
 ·rcases List.mem_cons.1 hc with rfl | hc
  ·exact .inl rfl
  ·exact .inr (dec_digit _ hc)
 ·exact .inr (dec_digit _ hc)
theorem itoa_no {n : Int} {c : UInt8} (h : c.toNat ≠ 45 ∧ (c.toNat < 48 ∨ 57 < c.toNat)) : c ∉ Lib.itoa n := fun hc => by
 have := itoa_byte hc
 omega
theorem atoi_itoa (n : Int) : Lib.atoi (Lib.itoa n) = some n := by
 unfold Lib.itoa
 split
 ·rw [Lib.atoi, if_pos (by decide), decNat_dec]
  simp only [Option.map_some, Option.some.injEq]
  omega
 ·cases hd : Lib.decDigits n.toNat with
  | nil => exact absurd hd (dec_ne _)
  | cons b r =>
   have hb := dec_digit n.toNat (c := b) (by rw [hd]; exact List.mem_cons_self)
   have h1 : (b == 45) = false := beq_false_of_ne (fun e => by subst e; revert hb; decide)
   have h2 : (b == 43) = false := beq_false_of_ne (fun e => by subst e; revert hb; decide)
   rw [Lib.atoi, h1, h2, ← hd, decNat_dec]
   simp only [Bool.false_eq_true, if_false, Option.map_some, Option.some.injEq]
   omega
theorem nDigits_le : ∀ (k u : Nat), u < 10 ^ (k + 1) → Lib.nDigits u ≤ k + 1
 | 0, u, h => by rw [Lib.nDigits_small (by simpa using h)]; exact Nat.le_refl _
 | k + 1, u, h => by
  by_cases h1 : u < 10
  ·rw [Lib.nDigits_small h1]; omega
  ·rw [Lib.nDigits_big h1]
   have := nDigits_le k (u / 10) (by rw [Nat.pow_succ] at h; omega)
   omega
theorem itoa_len {n : Int} (h : -999999 ≤ n ∧ n ≤ 999999) : (Lib.itoa n).length ≤ 7 := by
 unfold Lib.itoa
 split
 ·have := nDigits_le 5 n.natAbs (by omega)
  rw [List.length_cons, Lib.decDigits_length]; omega
 ·have := nDigits_le 5 n.toNat (by omega)
  rw [Lib.decDigits_length]; omega
theorem atoiAll_itoa {n : Int} (h : -999999 ≤ n ∧ n ≤ 999999) : Lib.atoiAll (Lib.itoa n) = .ok n := by
 have := itoa_len h
 rw [Lib.atoiAll_short _ (by omega), atoi_itoa]
 rfl
theorem intR_itoa {n : Int} (h : -999999 ≤ n ∧ n ≤ 999999) : intR (Lib.itoa n) = (n, true) := by
 have hw : wrap64 (-n) = -n := IntWalk.wrap64_in _ (by omega)
 unfold intR
 rw [atoiAll_itoa h]
 simp only [hw, Prod.mk.injEq, Bool.and_eq_true, decide_eq_true_eq, true_and]
 omega
theorem intR_true {s : Str} (h : (intR s).2 = true) : Lib.itoa (intR s).1 = s := by
 unfold intR at h ⊢
 split at h
 ·rename_i n hn
  simp only [Bool.and_eq_true, decide_eq_true_eq] at h
  exact h.1
 ·cases h
 ·cases h
def splS : Str → List Str
 | [] => [[]]
 | c :: r => if c = 32 then [] :: splS r else match splS r with
  | [] => [[c]]
  | w :: ws => (c :: w) :: ws
def joinS : List Str → Str
 | [] => []
 | [w] => w
 | w :: ws => w ++ 32 :: joinS ws
theorem splS_ne : ∀ s : Str, splS s ≠ []
 | [] => by simp [splS]
 | c :: r => by
  rw [splS]
  split
  ·simp
  ·split <;> simp
theorem splS_none : ∀ {s : Str}, 32 ∉ s → splS s = [s]
 | [], _ => rfl
 | c :: r, h => by
  rw [splS, if_neg (fun e => h (by rw [e]; exact List.mem_cons_self)), splS_none fun e => h (List.mem_cons_of_mem _ e)]
theorem splS_app : ∀ {a : Str} (b : Str), 32 ∉ a → splS (a ++ 32 :: b) = a :: splS b
 | [], b, _ => by rw [List.nil_append, splS, if_pos rfl]
 | c :: r, b, h => by
  rw [List.cons_append, splS, if_neg (fun e => h (by rw [e]; exact List.mem_cons_self)), splS_app b fun e => h (List.mem_cons_of_mem _ e)]
theorem join_cons (w : Str) {ws : List Str} (h : ws ≠ []) : joinS (w :: ws) = w ++ 32 :: joinS ws := by
 cases ws with
 | nil => exact absurd rfl h
 | cons x r => rfl
theorem join_splS : ∀ s : Str, joinS (splS s) = s
 | [] => rfl
 | c :: r => by
  have ih := join_splS r
  rw [splS]
  split
  ·rename_i h
   rw [join_cons _ (splS_ne r), ih, h]; rfl
  ·split
   ·rename_i h; exact absurd h (splS_ne r)
   ·rename_i w ws h
    rw [h] at ih
    cases ws with
    | nil => rw [show joinS [w] = w from rfl] at ih; rw [show joinS [c :: w] = c :: w from rfl, ih]
    | cons x q =>
     rw [join_cons _ (by simp)] at ih ⊢
     rw [List.cons_append, ih]
theorem split_ix {l : Str} {c : UInt8} {k : Nat} (h : Lib.indexByte l c = (k : Int)) : l = l.take k ++ c :: l.drop (k + 1) ∧ c ∉ l.take k := by
 induction l generalizing k with
 | nil => simp [Lib.indexByte] at h
 | cons b r ih =>
  rw [Lib.indexByte] at h
  by_cases hb : b = c
  ·subst hb
   rw [if_pos (by simp)] at h
   obtain rfl : k = 0 := by omega
   simp
  ·have hge := Lib.indexByte_ge r c
   rw [if_neg (by simpa using hb)] at h
   split at h
   ·omega
   ·rename_i h1
    have h1' : ¬ Lib.indexByte r c = -1 := by simpa using h1
    obtain ⟨j, hj⟩ : ∃ j : Nat, Lib.indexByte r c = (j : Int) := ⟨(Lib.indexByte r c).toNat, by omega⟩
    obtain rfl : k = j + 1 := by omega
    obtain ⟨e1, e2⟩ := ih hj
    refine ⟨by simpa using e1, ?_⟩
    rw [List.take_succ_cons, List.mem_cons]
    rintro (rfl | h2)
    ·exact hb rfl
    ·exact e2 h2
theorem miss_ix {l : Str} {c : UInt8} (h : Lib.indexByte l c = -1) : c ∉ l := by
 induction l with
 | nil => simp
 | cons b r ih =>
  have hge := Lib.indexByte_ge r c
  rw [Lib.indexByte] at h
  by_cases hb : b = c
  ·rw [if_pos (by simpa using hb)] at h; omega
  ·rw [if_neg (by simpa using hb)] at h
   have h1 : Lib.indexByte r c = -1 := by
    split at h
    ·rename_i h2; simpa using h2
    ·omega
   rw [List.mem_cons]
   rintro (rfl | h2)
   ·exact hb rfl
   ·exact ih h1 h2
theorem splitB_spl : ∀ (k : Nat) (s : Str), s.count 32 ≤ k → (Lib.splitB ⟨#[32]⟩ 0 k ⟨s.toArray⟩).map (fun b => b.data.toList) = splS s
 | 0, s, h => by
  rw [Lib.splitB_zero, splS_none (fun hm => by have := List.count_pos_iff.2 hm; omega)]
  rfl
 | k + 1, s, h => by
  have hix : Lib.indexB ⟨s.toArray⟩ ⟨#[32]⟩ = Lib.indexByte s 32 := Lib.index_one s 32
  have hge := Lib.indexByte_ge s 32
  by_cases h1 : Lib.indexByte s 32 = -1
  ·rw [Lib.splitB_miss _ _ _ _ (by rw [hix, h1]), splS_none (miss_ix h1)]
   rfl
  ·obtain ⟨j, hj⟩ : ∃ j : Nat, Lib.indexByte s 32 = (j : Int) := ⟨(Lib.indexByte s 32).toNat, by omega⟩
   obtain ⟨e1, e2⟩ := split_ix hj
   have e3 : splS s = s.take j :: splS (s.drop (j + 1)) := by
    conv => lhs; rw [e1]
    exact splS_app _ e2
   have hd : (s.drop (j + 1)).count 32 ≤ k := by
    have : s.count 32 = (s.take j).count 32 + ((s.drop (j + 1)).count 32 + 1) := by
     conv => lhs; rw [e1]
     rw [List.count_append, List.count_cons_self]
    omega
   have hx : ({ data := s.toArray } : ByteArray).extract (j + 1) ({ data := s.toArray } : ByteArray).size = ⟨(s.drop (j + 1)).toArray⟩ := by
    rw [ByteArray.extract_mk]
    congr 1
    apply Array.ext'
    simp [ByteArray.size]
    rw [List.take_of_length_le (by simp)]
   have ht : (({ data := s.toArray } : ByteArray).extract 0 j).data.toList = s.take j := by
    rw [ByteArray.extract_mk]
    simp
   rw [Lib.splitB, if_neg (by rw [hix, hj]; simp), hix, hj, Int.toNat_natCast, List.map_cons, Nat.add_zero, ht, show (⟨#[32]⟩ : ByteArray).size = 1 from rfl, hx, splitB_spl k _ hd, e3]
theorem wordsL_spl (s : Str) : wordsL s = splS s := by
 unfold wordsL
 exact splitB_spl _ s (by rw [show Lib.countB ⟨s.toArray⟩ ⟨#[32]⟩ = Lib.count s [32] from rfl, Lib.count_one]; exact Nat.le_refl _)
theorem lines_app : ∀ {r : Str} (s : Str), 10 ∉ r → linesL (r ++ 10 :: s) = (r ++ [10]) :: linesL s
 | [], s, _ => by rw [List.nil_append, linesL, if_pos rfl]; rfl
 | c :: r, s, h => by
  rw [List.cons_append, linesL, if_neg (fun e => h (by rw [e]; exact List.mem_cons_self)), lines_app s fun e => h (List.mem_cons_of_mem _ e)]
  rfl
theorem lines_flat : ∀ s : Str, (linesL s).flatten = s
 | [] => rfl
 | c :: r => by
  have ih := lines_flat r
  rw [linesL]
  split
  ·rename_i h
   rw [List.flatten_cons, ih, h]; rfl
  ·split
   ·rename_i h
    rw [h] at ih
    simp at ih
    subst ih
    rfl
   ·rename_i l ls h
    rw [h] at ih
    rw [List.flatten_cons] at ih ⊢
    rw [List.cons_append, ih]
end Go.Proofs.YtgndakgggfbanaaGreatDoor
namespace Go.Proofs.YtgndakgggfbanaaGreatDoor
open Go.RowKit Go.ChangeMaps
set_option maxHeartbeats 4000000
set_option maxRecDepth 100000
attribute [local go_sem] Oper.semAt_some
theorem Blk.setA {W : World} {g g' i : Nat} {t : TypeId} {cs : Array Value} {u : Value} (h : Blk W g t cs) (hne : g ≠ g') : Blk (W.setCell ⟨g', i, none⟩ u) g t cs := (Below.heap_setCell W ⟨g', i, none⟩ u g hne).trans h
theorem below_setA {w W : World} {n0 g i : Nat} {u : Value} (hb : Below n0 w W) (h : n0 ≤ g) : Below n0 w (W.setCell ⟨g, i, none⟩ u) :=
 hb.trans ⟨rfl, rfl, rfl, by simp [World.setCell], fun k hk => Below.heap_setCell W ⟨g, i, none⟩ u k (show k ≠ g by omega)⟩
end Go.Proofs.YtgndakgggfbanaaGreatDoor
namespace Go.Proofs.YtgndakgggfbanaaGreatDoor
open Go.RowKit Go.ChangeMaps
set_option maxHeartbeats 4000000
set_option maxRecDepth 100000
theorem okC_no {i n : Nat} (h : okC i n = true) : n ≠ 32 ∧ n ≠ 10 := by
 unfold okC letC at h
 simp only [Bool.or_eq_true, Bool.and_eq_true, decide_eq_true_eq] at h
 omega
theorem nmF_no : ∀ (s : Str) (i : Nat), nmF i s = true → ∀ c ∈ s, c.toNat ≠ 32 ∧ c.toNat ≠ 10
 | [], _, _, c, hc => by cases hc
 | b :: r, i, h, c, hc => by
  unfold nmF at h
  rw [Bool.and_eq_true] at h
  rcases List.mem_cons.1 hc with rfl | hc
  ·exact okC_no h.1
  ·exact nmF_no r (i + 1) h.2 c hc
structure Wd (s : Str) : Prop where
 ne : s ≠ []
 sp : 32 ∉ s
 nl : 10 ∉ s
theorem name_wd {s : Str} (h : nameR s = true) : Wd s := by
 unfold nameR at h
 simp only [Bool.and_eq_true, decide_eq_true_eq] at h
 obtain ⟨h1, _, h3⟩ := h
 refine ⟨fun e => h1 (by rw [e]; rfl), fun hc => ?_, fun hc => ?_⟩
 ·exact (nmF_no s 0 h3 _ hc).1 rfl
 ·exact (nmF_no s 0 h3 _ hc).2 rfl
theorem num_wd (n : Int) : Wd (Lib.itoa n) := by
 refine ⟨?_, itoa_no (by decide), itoa_no (by decide)⟩
 unfold Lib.itoa
 split
 ·simp
 ·exact dec_ne _
def dirS (t : Bool) : Str := if t then [100, 111, 119, 110] else [117, 112]
def plnS1 (l : List Pan) (x : Plc) : Str := (l.getD x.1.toNat noPan).1 ++ 32 :: (dirS x.2.1 ++ 32 :: Lib.itoa x.2.2)
def prnB (l : List Pan) (plan : List Plc) : Str := plan.flatMap fun x => plnS1 l x ++ [10]
def idxS (l : List Pan) (nm : Str) (a : Option Nat) (i : Nat) : Option Nat := if (l.getD i noPan).1 = nm then some i else a
def idxP (l : List Pan) (nm : Str) : Option Nat := (List.range l.length).foldl (idxS l nm) none
def linE (l : List Pan) (W : List Str) (out : List Plc) : Int :=
 if W.length = 3 ∧ W.getD 0 [] ≠ [] ∧ (W.getD 1 [] = dirS false ∨ W.getD 1 [] = dirS true) ∧ (intR (W.getD 2 [])).2 = true then
  firstI [whenI (idxP l (W.getD 0 [])).isNone 10, whenI (out.any fun o => decide (o.1 = (((idxP l (W.getD 0 [])).getD 0 : Nat) : Int))) 9, atE_ (intR (W.getD 2 [])).1]
 else 25
def linP (l : List Pan) (W : List Str) : Plc := ((((idxP l (W.getD 0 [])).getD 0 : Nat) : Int), decide (W.getD 1 [] = dirS true), (intR (W.getD 2 [])).1)
def nlB (x : Str) : Bool := decide (x.getLast? = some 10)
def lnE (l : List Pan) (x : Str) (out : List Plc) : Int := if nlB x = true then linE l (splS x.dropLast) out else 25
def prsL (l : List Pan) : List Str → List Plc → Nat → List Plc × Int × Int
 | [], out, _ => (out, 0, 0)
 | x :: r, out, i => if lnE l x out = 0 then prsL l r (out ++ [linP l (splS x.dropLast)]) (i + 1) else ([], (i : Int), lnE l x out)
def prsB (l : List Pan) (s : Str) : List Plc × Int × Int := prsL l (linesL s) [] 0
def NmU (l : List Pan) : Prop := (l.map (·.1)).Nodup
theorem pie_names {l : List Pan} (h : pieE l = 0) : NmU l ∧ l.length ≤ 16 ∧ ∀ p ∈ l, panE p = 0 := by
 have key : ∀ (r done : List Pan), (done.map (·.1)).Nodup → pieG done r = 0 → ((done ++ r).map (·.1)).Nodup ∧ ∀ p ∈ r, panE p = 0 := by
  intro r
  induction r with
  | nil => intro done hd _; rw [List.append_nil]; exact ⟨hd, fun p hp => by cases hp⟩
  | cons q t ih =>
   intro done hd h
   rw [pieG] at h
   split at h
   ·rename_i hc
    unfold pieE1 at hc
    simp only [firstI] at hc
    split at hc
    ·rename_i h1
     split at hc
     ·rename_i h2
      have ha : agnB done q.1 = false := by
       unfold whenI at h2
       split at h2
       ·omega
       ·rename_i z; simpa using z
      have hd2 : ((done ++ [q]).map (·.1)).Nodup := by
       rw [List.map_append, List.nodup_append]
       refine ⟨hd, by simp, fun a ha' b hb e => ?_⟩
       simp only [List.map_cons, List.map_nil, List.mem_singleton] at hb
       subst hb
       subst e
       obtain ⟨z, hz, e⟩ := List.mem_map.1 ha'
       unfold agnB at ha
       rw [List.any_eq_false] at ha
       exact ha z hz (by rw [e]; simp)
      obtain ⟨k1, k2⟩ := ih (done ++ [q]) hd2 h
      rw [List.append_assoc] at k1
      refine ⟨k1, fun p hp => ?_⟩
      rcases List.mem_cons.1 hp with rfl | hp
      ·exact h1
      ·exact k2 p hp
     ·rename_i h2; exact absurd hc h2
    ·rename_i h1; exact absurd hc h1
   ·rename_i hc; exact absurd h hc
 unfold pieE at h
 split at h
 ·cases h
 ·obtain ⟨k1, k2⟩ := key l [] List.nodup_nil h
  exact ⟨k1, by omega, k2⟩
theorem idx_fold (l : List Pan) (nm : Str) : ∀ n, n ≤ l.length → (∀ i, (List.range n).foldl (idxS l nm) none = some i → i < n ∧ (l.getD i noPan).1 = nm) ∧ ((List.range n).foldl (idxS l nm) none = none → ∀ i, i < n → (l.getD i noPan).1 ≠ nm)
 | 0, _ => ⟨fun i h => (by cases h), fun _ i hi => absurd hi (by omega)⟩
 | n + 1, hn => by
  obtain ⟨h1, h2⟩ := idx_fold l nm n (by omega)
  rw [List.range_succ, List.foldl_append, List.foldl_cons, List.foldl_nil]
  unfold idxS
  constructor
  ·intro i h
   split at h
   ·rename_i hc
    injection h with h
    subst h
    exact ⟨by omega, hc⟩
   ·have := h1 i h
    exact ⟨by omega, this.2⟩
  ·intro h i hi
   split at h
   ·cases h
   ·rename_i hc
    by_cases e : i = n
    ·subst e; exact hc
    ·exact h2 h i (by omega)
theorem getD_at {l : List Pan} {i : Nat} (hi : i < l.length) : l.getD i noPan = l[i] := by rw [List.getD_eq_getElem?_getD, List.getElem?_eq_getElem hi]; rfl
theorem idx_some {l : List Pan} {nm : Str} {i : Nat} (h : idxP l nm = some i) : i < l.length ∧ (l.getD i noPan).1 = nm := (idx_fold l nm l.length (Nat.le_refl _)).1 i h
theorem idx_at {l : List Pan} (hU : NmU l) {i : Nat} (hi : i < l.length) : idxP l (l.getD i noPan).1 = some i := by
 obtain ⟨h1, h2⟩ := idx_fold l (l.getD i noPan).1 l.length (Nat.le_refl _)
 cases e : idxP l (l.getD i noPan).1 with
 | none => exact absurd rfl (h2 e i hi)
 | some k =>
  obtain ⟨hk, hn⟩ := h1 k e
  rw [getD_at hk, getD_at hi] at hn
  congr 1
  refine Classical.byContradiction fun hne => ?_
  have hU := hU
  unfold NmU at hU
  have := (List.getElem_inj (xs := l.map (·.1)) (i := k) (j := i) (h₀ := by simpa using hk) (h₁ := by simpa using hi) hU).1 (by simpa using hn)
  exact hne this
theorem nl_app (a : Str) : nlB (a ++ [10]) = true ∧ (a ++ [10]).dropLast = a := by
 unfold nlB
 simp
theorem nl_some {x : Str} (h : nlB x = true) : x = x.dropLast ++ [10] := by
 unfold nlB at h
 rw [decide_eq_true_eq] at h
 have hne : x ≠ [] := fun e => by rw [e] at h; cases h
 have e := List.dropLast_concat_getLast hne
 rw [List.getLast?_eq_some_getLast hne] at h
 injection h with h
 rw [h] at e
 exact e.symm
theorem dir_wd (t : Bool) : Wd (dirS t) := by
 cases t
 ·exact ⟨by decide, by decide, by decide⟩
 ·exact ⟨by decide, by decide, by decide⟩
theorem dir_of (t : Bool) : (dirS t = dirS false ∨ dirS t = dirS true) ∧ decide (dirS t = dirS true) = t := by
 cases t
 ·exact ⟨.inl rfl, by decide⟩
 ·exact ⟨.inr rfl, by decide⟩
theorem plcG_ok {n : Nat} : ∀ (r done : List Plc), (idsP done).Nodup → plcG n done r = 0 → (idsP (done ++ r)).Nodup ∧ ∀ x ∈ r, (0 ≤ x.1 ∧ x.1 < (n : Int)) ∧ atE_ x.2.2 = 0
 | [], done, hd, _ => by rw [List.append_nil]; exact ⟨hd, fun x hx => by cases hx⟩
 | x :: r, done, hd, h => by
  rw [plcG] at h
  split at h
  ·rename_i hc
   unfold plcE1 at hc
   simp only [firstI] at hc
   split at hc
   ·rename_i h1
    split at hc
    ·rename_i h2
     split at hc
     ·rename_i h3
      have h1 : 0 ≤ x.1 ∧ x.1 < (n : Int) := by
       unfold whenI at h1
       split at h1
       ·omega
       ·rename_i z
        simp only [Bool.or_eq_true, decide_eq_true_eq, not_or] at z
        omega
      have h2 : (done.any fun o => decide (o.1 = x.1)) = false := by
       unfold whenI at h2
       split at h2
       ·omega
       ·rename_i z; exact Bool.eq_false_iff.2 z
      have hd2 : (idsP (done ++ [x])).Nodup := by
       unfold idsP
       rw [List.map_append, List.nodup_append]
       refine ⟨hd, by simp, fun a ha b hb e => ?_⟩
       simp only [List.map_cons, List.map_nil, List.mem_singleton] at hb
       obtain ⟨o, ho, rfl⟩ := List.mem_map.1 ha
       rw [List.any_eq_false] at h2
       exact h2 o ho (by rw [decide_eq_true_eq, e, hb])
      obtain ⟨k1, k2⟩ := plcG_ok r (done ++ [x]) hd2 h
      rw [List.append_assoc] at k1
      refine ⟨k1, fun y hy => ?_⟩
      rcases List.mem_cons.1 hy with rfl | hy
      ·exact ⟨h1, h3⟩
      ·exact k2 y hy
     ·rename_i h3; exact absurd hc h3
    ·rename_i h2; exact absurd hc h2
   ·rename_i h1; exact absurd hc h1
  ·rename_i hc; exact absurd h hc
theorem plc_ok {n : Nat} {p : List Plc} (h : plcE n p = 0) : (idsP p).Nodup ∧ ∀ x ∈ p, (0 ≤ x.1 ∧ x.1 < (n : Int)) ∧ atE_ x.2.2 = 0 := by
 unfold plcE at h
 split at h
 ·cases h
 ·exact plcG_ok p [] (by simp [idsP]) h
theorem atE_in {a : Int} (h : atE_ a = 0) : -100000 ≤ a ∧ a ≤ 100000 ∧ a % 2 = 0 := by
 unfold atE_ at h
 simp only [firstI] at h
 split at h
 ·rename_i h1
  split at h
  ·rename_i h2
   unfold withinI whenI at h1
   unfold whenI at h2
   split at h1
   ·omega
   ·split at h2
    ·omega
    ·rename_i q1 q2
     simp only [Bool.or_eq_true, decide_eq_true_eq, not_or] at q1
     simp only [decide_eq_true_eq] at q2
     omega
  ·rename_i h2; exact absurd h h2
 ·rename_i h1; exact absurd h h1
theorem lin_back {l : List Pan} (hU : NmU l) (hv : ∀ p ∈ l, panE p = 0) {out : List Plc} {x : Plc} (hx : 0 ≤ x.1 ∧ x.1 < (l.length : Int)) (ha : atE_ x.2.2 = 0) (hn : (out.any fun o => decide (o.1 = x.1)) = false) :
    10 ∉ plnS1 l x ∧ linE l (splS (plnS1 l x)) out = 0 ∧ linP l (splS (plnS1 l x)) = x := by
  obtain ⟨i, hi⟩ : ∃ i : Nat, x.1 = (i : Int) := ⟨x.1.toNat, by omega⟩
  have hil : i < l.length := by omega
  have hw := name_wd (panE_zero (hv _ (List.getElem_mem hil))).name
  rw [← getD_at hil] at hw
  have hd := dir_wd x.2.1
  have hnum := num_wd x.2.2
  have hat := atE_in ha
  have e : splS (plnS1 l x) = [(l.getD i noPan).1, dirS x.2.1, Lib.itoa x.2.2] := by
    unfold plnS1
    rw [hi, Int.toNat_natCast, splS_app _ hw.sp, splS_app _ hd.sp, splS_none hnum.sp]
  have hix := idx_at hU hil
  refine ⟨?_, ?_, ?_⟩
  · unfold plnS1
    rw [hi, Int.toNat_natCast]
    intro hc
    rcases List.mem_append.1 hc with hc | hc
    · exact hw.nl hc
    · rcases List.mem_cons.1 hc with hc | hc
      · cases hc
      · rcases List.mem_append.1 hc with hc | hc
        · exact hd.nl hc
        · rcases List.mem_cons.1 hc with hc | hc
          · cases hc
          · exact hnum.nl hc
  · rw [e]
    unfold linE
    simp only [List.getD_cons_zero, List.getD_cons_succ]
    rw [intR_itoa (by omega), if_pos ⟨rfl, hw.ne, (dir_of _).1, rfl⟩, hix]
    show firstI [whenI false 10, whenI (out.any fun o => decide (o.1 = (i : Int))) 9, atE_ x.2.2] = 0
    rw [hi] at hn
    rw [hn, ha]
    rfl
  · rw [e]
    unfold linP
    simp only [List.getD_cons_zero, List.getD_cons_succ]
    rw [intR_itoa (by omega), hix, (dir_of _).2]
    simp only [Option.getD_some]
    rw [← hi]
theorem prn_back {l : List Pan} (hU : NmU l) (hv : ∀ p ∈ l, panE p = 0) : ∀ (r out : List Plc) (i : Nat), (idsP (out ++ r)).Nodup → (∀ x ∈ r, (0 ≤ x.1 ∧ x.1 < (l.length : Int)) ∧ atE_ x.2.2 = 0) → prsL l (linesL (prnB l r)) out i = (out ++ r, 0, 0)
 | [], out, i, _, _ => by
  rw [List.append_nil]
  rfl
 | x :: r, out, i, hn, h => by
  have hx := h x (List.mem_cons_self ..)
  have ha : (out.any fun o => decide (o.1 = x.1)) = false := by
   rw [Bool.eq_false_iff]
   intro hc
   rw [List.any_eq_true] at hc
   obtain ⟨o, ho, e⟩ := hc
   rw [decide_eq_true_eq] at e
   unfold idsP at hn
   rw [List.map_append] at hn
   exact (List.nodup_append.1 hn).2.2 _ (List.mem_map_of_mem ho) _ (List.mem_map_of_mem (List.mem_cons_self ..)) e
  obtain ⟨b1, b2, b3⟩ := lin_back hU hv hx.1 hx.2 ha
  have e : prnB l (x :: r) = plnS1 l x ++ 10 :: prnB l r := by
   unfold prnB
   rw [List.flatMap_cons, List.append_assoc]
   rfl
  obtain ⟨c1, c2⟩ := nl_app (plnS1 l x)
  have b4 : lnE l (plnS1 l x ++ [10]) out = 0 := by
   unfold lnE
   rw [if_pos c1, c2]
   exact b2
  rw [e, lines_app _ b1, prsL, if_pos b4, c2, b3, prn_back hU hv r (out ++ [x]) (i + 1) (by rw [List.append_assoc]; exact hn) fun y hy => h y (List.mem_cons_of_mem _ hy), List.append_assoc]
  rfl
theorem print_parse {l : List Pan} (h : pieE l = 0) {plan : List Plc} (hp : plcE l.length plan = 0) : prsB l (prnB l plan) = (plan, 0, 0) := by
 obtain ⟨hU, _, hv⟩ := pie_names h
 obtain ⟨h1, h2⟩ := plc_ok hp
 exact prn_back hU hv plan [] 0 h1 h2
theorem lin_text {l : List Pan} {W : List Str} {out : List Plc} (h : linE l W out = 0) : plnS1 l (linP l W) = joinS W ∧ plcE1 l.length out (linP l W) = 0 := by
 unfold linE at h
 split at h
 ·rename_i hc
  obtain ⟨h3, h0, h1, h2⟩ := hc
  simp only [firstI] at h
  split at h
  ·rename_i q1
   split at h
   ·rename_i q2
    split at h
    ·rename_i q3
     match W, h3 with
     | [a, b, c], _ =>
      simp only [List.getD_cons_zero, List.getD_cons_succ] at h0 h1 h2 q1 q2 q3
      cases ei : idxP l a with
      | none => rw [ei] at q1; exact absurd q1 (by decide)
      | some k =>
       obtain ⟨k1, k2⟩ := idx_some ei
       have hdir : dirS (decide (b = dirS true)) = b := by
        rcases h1 with rfl | rfl
        ·decide
        ·decide
       refine ⟨?_, ?_⟩
       ·unfold plnS1 linP
        simp only [List.getD_cons_zero, List.getD_cons_succ]
        rw [ei]
        simp only [Option.getD_some]
        rw [Int.toNat_natCast, k2, hdir, intR_true h2]
        rfl
       ·rw [ei] at q2
        unfold plcE1 linP
        simp only [List.getD_cons_zero, List.getD_cons_succ]
        rw [ei]
        simp only [Option.getD_some] at q2 ⊢
        have r1 : whenI (decide ((k : Int) < 0) || decide ((l.length : Int) ≤ (k : Int))) 10 = 0 := by
         unfold whenI
         rw [if_neg]
         simp only [Bool.or_eq_true, decide_eq_true_eq, not_or]
         omega
        simp only [firstI]
        rw [if_pos r1, if_pos q2, if_pos q3]
    ·rename_i q3; exact absurd h q3
   ·rename_i q2; exact absurd h q2
  ·rename_i q1; exact absurd h q1
 ·cases h
theorem prs_back {l : List Pan} : ∀ (xs : List Str) (out : List Plc) (i : Nat) (z : List Plc) (k : Int), prsL l xs out i = (z, k, 0) → ∃ r, z = out ++ r ∧ prnB l r = xs.flatten ∧ plcG l.length out r = 0
 | [], out, i, z, k, h => by
  rw [prsL] at h
  injection h with h1 h2
  exact ⟨[], by rw [List.append_nil]; exact h1.symm, rfl, rfl⟩
 | x :: t, out, i, z, k, h => by
  rw [prsL] at h
  split at h
  ·rename_i hc
   obtain ⟨r, h1, h2, h3⟩ := prs_back t _ _ _ _ h
   unfold lnE at hc
   split at hc
   ·rename_i hn
    obtain ⟨c1, c2⟩ := lin_text hc
    refine ⟨linP l (splS x.dropLast) :: r, by rw [h1, List.append_assoc]; rfl, ?_, by rw [plcG, if_pos c2]; exact h3⟩
    have hx := nl_some hn
    unfold prnB at h2 ⊢
    rw [List.flatMap_cons, List.flatten_cons, h2, c1, join_splS, ← hx]
   ·cases hc
  ·rename_i hc
   injection h with _ h
   injection h with _ h
   exact absurd h hc
theorem parse_print {l : List Pan} (hl : l.length ≤ 16) {s : Str} {z : List Plc} {k : Int} (h : prsB l s = (z, k, 0)) : prnB l z = s ∧ plcE l.length z = 0 := by
 obtain ⟨r, h1, h2, h3⟩ := prs_back _ _ _ _ _ h
 rw [List.nil_append] at h1
 subst h1
 rw [lines_flat] at h2
 refine ⟨h2, ?_⟩
 obtain ⟨k1, k2⟩ := plcG_ok z [] (by simp [idsP]) h3
 have hle : (idsP z).length ≤ ((List.range l.length).map fun (i : Nat) => (i : Int)).length := length_le_of_sub k1 fun x hx => by
  obtain ⟨y, hy, rfl⟩ := List.mem_map.1 hx
  have := (k2 y hy).1
  exact List.mem_map.2 ⟨y.1.toNat, List.mem_range.2 (by omega), by omega⟩
 rw [List.length_map, List.length_range] at hle
 unfold idsP at hle
 rw [List.length_map] at hle
 unfold plcE
 rw [if_neg (by omega)]
 exact h3
end Go.Proofs.YtgndakgggfbanaaGreatDoor

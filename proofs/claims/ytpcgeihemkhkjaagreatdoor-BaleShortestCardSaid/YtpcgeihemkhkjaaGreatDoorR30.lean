/- Length, CheckPlan, bars of plans, walked. Conditions: bounds. -/
import Derived.Test.YtpcgeihemkhkjaaGreatDoorR29
import Derived.Test.YtpcgeihemkhkjaaGreatDoorR26
import Derived.Test.YtpcgeihemkhkjaaGreatDoorR27
import Derived.Test.YtpcgeihemkhkjaaGreatDoorR14
import Derived.Test.YtpcgeihemkhkjaaGreatDoorR23
import Derived.Lib.AtoiTie
import Derived.Test.YtpcgeihemkhkjaaGreatDoorR10
import Derived.Lib.SplitLaws
import Derived.Lib.IndexBytes
import Derived.Lib.IndexMore
import Derived.Test.YtpcgeihemkhkjaaGreatDoorR24
import Derived.Test.YtpcgeihemkhkjaaGreatDoorR20
import Derived.Test.YtpcgeihemkhkjaaGreatDoorR11
namespace Go.Proofs.YtpcgeihemkhkjaaGreatDoor
open Go.RowKit Go.ChangeMaps
set_option maxHeartbeats 4000000
set_option maxRecDepth 100000
attribute [local go_sem] Oper.semAt_some
theorem both_eq (l : List Pan) (plan : List Plc) : (if pieE l = 0 then plcE l.length plan else pieE l) = bothE l plan := rfl
theorem apiLength_any {v u : Value} (l : List Pan) (plan : List Plc) (w : World) (h : SlP w v l) (hp : SlL w u plan) (hnm : ∀ p ∈ l, p.1.length ≤ 1000000) (hll : l.length ≤ 100000) (hpl : plan.length ≤ 100000) :
  Calls Tryz.prog 16 #[v, u] w (RV w (.tuple #[.int .i64 (onlyN (bothE l plan) (lenP l plan)), .int .i64 (bothE l plan)])) := by
 have hc := fun W (hb : Below w.heap.size w W) => checkBoth_any l plan W (h.below hb) (hp.below hb) hnm hll hpl
 rw [both_eq] at hc
 by_cases hE : bothE l plan = 0
 ·obtain ⟨hPL, hl16, hp16, hIL, hNP, hEV⟩ := both_ok hnm hE
  have hm := fun W (hb : Below w.heap.size w W) => mappedW_any l W (h.below hb) hl16 hPL
  have hle := fun W va vp ha hp' => length_any (va := va) (vp := vp) l plan W ha hp' hPL hIL (hNP.mono (by omega)) (by omega)
  have HLE := Lib.hid hle
  have HS : Hid (onlyN (bothE l plan) (lenP l plan) = lenP l plan) := by unfold Hid onlyN; rw [if_pos hE]
  rw [HS.out, hE]
  rw [hE] at hc
  obtain ⟨N, hN⟩ : ∃ N, lenP l plan = N := ⟨_, rfl⟩
  rw [hN] at HLE ⊢
  have HP : Hid (SlL w u plan) := hp
  obtain ⟨xs, ⟨A, c, rfl, _, _, _⟩, _⟩ := h
  obtain ⟨B, d, rfl, _, _, hr⟩ := hp
  clear hE hPL hIL hNP hEV hle hN HS
  go_enter Tryz.func16, Tryz.ntmps16
  go_wp2_with fail
  refine (hc _ (by (repeat first|exact J0|assumption|(apply J1;assumption)|apply J2|apply J3|apply J4))).mono ?_
  rintro e w2 ⟨rfl, hb2⟩
  go_wp2_with fail
  refine (hm _ (by (repeat first|exact J0|assumption|(apply J1;assumption)|apply J2|apply J3|apply J4))).mono ?_
  rintro e w3 ⟨va, rfl, hWa, hb3⟩
  obtain ⟨Aa, ca, rfl⟩ := hWa.shape
  have hbw3 : Below w.heap.size w w3 := by (repeat first|exact J0|assumption|(apply J1;assumption)|apply J2|apply J3|apply J4)
  clear hc hm hb2 hb3
  go_wp2_with fail
  refine (HLE.out _ _ _ hWa (HP.out.below hbw3)).mono ?_
  rintro e w4 ⟨rfl, hb4⟩
  go_wp2
  refine bodyPost_ret (v := .tuple #[.int .i64 N, .int .i64 0]) (by simp [results, Tryz.results16, go_sem]) rfl ?_
  exact ⟨rfl, by (repeat first|exact J0|assumption|(apply J1;assumption)|apply J2|apply J3|apply J4)⟩
 ·have t0 : (bothE l plan != 0) = true := by simp [hE]
  have HS : Hid (onlyN (bothE l plan) (lenP l plan) = 0) := by unfold Hid onlyN; rw [if_neg hE]
  rw [HS.out]
  obtain ⟨E, hEE⟩ : ∃ E, bothE l plan = E := ⟨_, rfl⟩
  rw [hEE] at hc t0 ⊢
  obtain ⟨xs, ⟨A, c, rfl, _, _, _⟩, _⟩ := h
  obtain ⟨B, d, rfl, _, _, hr⟩ := hp
  clear hE hEE
  go_enter Tryz.func16, Tryz.ntmps16
  go_wp2_with fail
  refine (hc _ (by (repeat first|exact J0|assumption|(apply J1;assumption)|apply J2|apply J3|apply J4))).mono ?_
  rintro e w2 ⟨rfl, hb2⟩
  go_wp2
  refine bodyPost_ret (v := .tuple #[.int .i64 0, .int .i64 E]) (by simp [results, Tryz.results16, go_sem]) rfl ?_
  exact ⟨rfl, by (repeat first|exact J0|assumption|(apply J1;assumption)|apply J2|apply J3|apply J4)⟩
def cpaE (b : Bal) (l : List Pan) (plan : List Plc) : Int := firstI [balE b, bothE l plan]
def cpnE (b : Bal) (l : List Pan) (plan : List Plc) : Int := if cpaE b l plan = 0 then fitE b l plan else cpaE b l plan
theorem bal_ok {b : Bal} (h : balE b = 0) : (1 ≤ b.2.1 ∧ b.2.1 ≤ 256) ∧ 1 ≤ b.2.2 ∧ b.2.2 ≤ 2000 := by
 unfold balE at h
 obtain ⟨_, h⟩ := firstI_cons0 h
 obtain ⟨h1, h⟩ := firstI_cons0 h
 obtain ⟨h2, _⟩ := firstI_cons0 h
 exact ⟨withinI_zero h1, withinI_zero h2⟩
theorem cpa_ok {b : Bal} {l : List Pan} {plan : List Plc} (h : cpaE b l plan = 0) : balE b = 0 ∧ bothE l plan = 0 := firstI_zero h
theorem apiCheckPlan_any {v u : Value} (b : Bal) (l : List Pan) (plan : List Plc) (w : World) (hbn : b.1.length ≤ 1000000) (h : SlP w v l) (hp : SlL w u plan) (hnm : ∀ p ∈ l, p.1.length ≤ 1000000) (hll : l.length ≤ 100000) (hpl : plan.length ≤ 100000) :
  Calls Tryz.prog 15 #[.agg #[sV b.1, .int .i64 b.2.1, .int .i64 b.2.2], v, u] w (RV w (.int .i64 (cpnE b l plan))) := by
 have hcb := fun W => checkBale_any b hbn W
 have hc := fun W (hb : Below w.heap.size w W) => checkBoth_any l plan W (h.below hb) (hp.below hb) hnm hll hpl
 rw [both_eq] at hc
 have hf2 : ∀ A c' W, Rd ic 1 W A [balE b, bothE l plan] → Calls Tryz.prog 56 #[.slice A 2 c'] W (RV W (.int .i64 (cpaE b l plan))) := fun A c' W hr => bfirst_any [balE b, bothE l plan] A c' W (by simp [maxLen]) hr
 by_cases hE : cpaE b l plan = 0
 ·obtain ⟨hB0, hE0⟩ := cpa_ok hE
  obtain ⟨hPL, hl16, hp16, hIL, hNP, hEV⟩ := both_ok hnm hE0
  have hbb := bal_ok hB0
  have hm := fun W (hb : Below w.heap.size w W) => mappedW_any l W (h.below hb) hl16 hPL
  have HFT := Lib.hid (fun W va vp ha hp' => fits_any (va := va) (vp := vp) b l plan W ha hp' hPL hIL (hNP.mono (by omega)) (by omega) ⟨by omega, by omega⟩)
  have HS : Hid (cpnE b l plan = fitE b l plan) := by unfold Hid cpnE; rw [if_pos hE]
  rw [HS.out]
  rw [hE] at hf2
  obtain ⟨N, hN⟩ : ∃ N, fitE b l plan = N := ⟨_, rfl⟩
  rw [hN] at HFT ⊢
  obtain ⟨E1, hE1⟩ : ∃ E, balE b = E := ⟨_, rfl⟩
  obtain ⟨E2, hE2⟩ : ∃ E, bothE l plan = E := ⟨_, rfl⟩
  rw [hE1] at hcb hf2
  rw [hE2] at hc hf2
  have HP : Hid (SlL w u plan) := hp
  obtain ⟨xs, ⟨A, c, rfl, _, _, _⟩, _⟩ := h
  obtain ⟨B, d, rfl, _, _, hr⟩ := hp
  obtain ⟨nm, br, bl⟩ := b
  unfold sV at hcb HFT ⊢
  simp only at hcb HFT
  have hK := Blk.new w 27 #[.string ⟨nm.toArray⟩, .int .i64 br, .int .i64 bl]
  have fhK := hK.facts
  clear hE hE0 hB0 hPL hIL hNP hEV hN HS hE1 hE2 hbb
  go_enter Tryz.func15, Tryz.ntmps15
  go_wp2_with fail
  refine (hcb _).mono ?_
  rintro e w2 ⟨rfl, hb2⟩
  replace hK := hK.below (show Below _ _ w2 by (repeat first|exact J0|assumption|(apply J1;assumption)|apply J2|apply J3|apply J4))
  replace fhK := hK.facts
  go_wp2_with fail
  refine (hc _ (by (repeat first|exact J0|assumption|(apply J1;assumption)|apply J2|apply J3|apply J4))).mono ?_
  rintro e w3 ⟨rfl, hb3⟩
  replace hK := hK.below (show Below _ _ w3 by (repeat first|exact J0|assumption|(apply J1;assumption)|apply J2|apply J3|apply J4))
  replace fhK := hK.facts
  go_wp2_with fail
  go_must (refine (hf2 _ _ _ (Rd.ints2 (by simp) (by go_simp) (by go_simp))).mono ?_)
  rintro e w4 ⟨rfl, hb4⟩
  have hK4 := hK.below (show Below _ _ w4 by (repeat first|exact J0|assumption|(apply J1;assumption)|apply J2|apply J3|apply J4))
  have hbw4 : Below w.heap.size w w4 := by (repeat first|exact J0|assumption|(apply J1;assumption)|apply J2|apply J3|apply J4)
  have fK4 := hK4.facts
  clear hcb hc hf2 hb2 hb3 hb4 hK fhK
  go_upto_region 4 with fail
  refine wp_region_ords [0, 1, 3] [(2, false)] [4, 5] (by kernel_rfl) (by kernel_rfl) (fun d _ _ _ _ h => by cases d <;> exact h) ?_
  simp only [List.map_cons, List.map_nil, List.getD_cons_zero, List.getD_cons_succ]
  repeat (go_big_quiet_step (fail))
  refine wpQuiet_nil ?_
  refine wpMid_run rfl (fun K hK => ?_)
  go_simp
  refine (hm _ (by (repeat first|exact J0|assumption|(apply J1;assumption)|apply J2|apply J3|apply J4))).mono ?_
  rintro e w5 ⟨va, rfl, hWa, hb5⟩
  refine hK _ _ (by (repeat first|exact J0|assumption|(apply J1;assumption)|apply J2|apply J3|apply J4)) ?_
  clear hK K
  have hK4_w5 := hK4.below (show Below _ _ w5 by (repeat first|exact J0|assumption|(apply J1;assumption)|apply J2|apply J3|apply J4))
  have fhK4_w5 := hK4_w5.facts
  obtain ⟨Aa, ca, rfl⟩ := hWa.shape
  refine wpMid_nil ?_
  go_wp2_with fail
  refine (HFT.out _ _ _ hWa (HP.out.below (by (repeat first|exact J0|assumption|(apply J1;assumption)|apply J2|apply J3|apply J4)))).mono ?_
  rintro e w6 ⟨rfl, hb6⟩
  go_wp2
  go_ret
  exact ⟨rfl, by (repeat first|exact J0|assumption|(apply J1;assumption)|apply J2|apply J3|apply J4)⟩
 ·have t0 : (cpaE b l plan != 0) = true := by simp [hE]
  have HS : Hid (cpnE b l plan = cpaE b l plan) := by unfold Hid cpnE; rw [if_neg hE]
  rw [HS.out]
  obtain ⟨E, hEE⟩ : ∃ E, cpaE b l plan = E := ⟨_, rfl⟩
  rw [hEE] at hf2 t0 ⊢
  obtain ⟨E1, hE1⟩ : ∃ E, balE b = E := ⟨_, rfl⟩
  obtain ⟨E2, hE2⟩ : ∃ E, bothE l plan = E := ⟨_, rfl⟩
  rw [hE1] at hcb hf2
  rw [hE2] at hc hf2
  obtain ⟨xs, ⟨A, c, rfl, _, _, _⟩, _⟩ := h
  obtain ⟨B, d, rfl, _, _, hr⟩ := hp
  obtain ⟨nm, br, bl⟩ := b
  unfold sV at hcb ⊢
  simp only at hcb
  have hK := Blk.new w 27 #[.string ⟨nm.toArray⟩, .int .i64 br, .int .i64 bl]
  have fhK := hK.facts
  clear hE hEE hE1 hE2 HS
  go_enter Tryz.func15, Tryz.ntmps15
  go_wp2_with fail
  refine (hcb _).mono ?_
  rintro e w2 ⟨rfl, hb2⟩
  replace hK := hK.below (show Below _ _ w2 by (repeat first|exact J0|assumption|(apply J1;assumption)|apply J2|apply J3|apply J4))
  replace fhK := hK.facts
  go_wp2_with fail
  refine (hc _ (by (repeat first|exact J0|assumption|(apply J1;assumption)|apply J2|apply J3|apply J4))).mono ?_
  rintro e w3 ⟨rfl, hb3⟩
  replace hK := hK.below (show Below _ _ w3 by (repeat first|exact J0|assumption|(apply J1;assumption)|apply J2|apply J3|apply J4))
  replace fhK := hK.facts
  go_wp2_with fail
  go_must (refine (hf2 _ _ _ (Rd.ints2 (by simp) (by go_simp) (by go_simp))).mono ?_)
  rintro e w4 ⟨rfl, hb4⟩
  go_wp2
  go_ret
  exact ⟨rfl, by (repeat first|exact J0|assumption|(apply J1;assumption)|apply J2|apply J3|apply J4)⟩
def usF (l : List Pan) (plan : List Plc) (k : Nat) : Int := (plan.take k).foldl (fun m x => m + ((netL (pcP l x)).length : Int)) 0
theorem usF_succ (l : List Pan) {plan : List Plc} {k : Nat} (hk : k < plan.length) : usF l plan (k + 1) = usF l plan k + ((netL (pcP l plan[k])).length : Int) := by
 unfold usF
 rw [List.take_succ_eq_append_getElem hk, List.foldl_append]
 rfl
theorem net_few {p : Pan} (h : panE p = 0) (hn : netErr p = 0) : (netL p).length ≤ 4096 := by
 unfold netErr at hn
 rw [if_pos h] at hn
 unfold whenI at hn
 split at hn
 ·cases hn
 ·rename_i hh
  simpa using hh
theorem few_at {l : List Pan} (h : PieL l) {o : Plc} (ho : InP l o) : (netL (pcP l o)).length ≤ 4096 := by
 obtain ⟨n, t, a⟩ := o
 obtain ⟨k, hk0, hk⟩ := ho.nat
 simp only at hk0
 subst hk0
 rw [pcP_at hk]
 have hp := h _ (List.getElem_mem hk)
 cases t
 ·exact net_few hp.er hp.nt
 ·exact net_few hp.te hp.tn
theorem usF_near {l : List Pan} (h : PieL l) {plan : List Plc} (hi : InL l plan) (k : Nat) (hk : k ≤ plan.length) : 0 ≤ usF l plan k ∧ usF l plan k ≤ 4096 * (k : Int) := by
 induction k with
 | zero => unfold usF; simp
 | succ k ih =>
  have h1 := ih (by omega)
  rw [usF_succ l (by omega : k < plan.length)]
  have h2 := few_at h (hi _ (List.getElem_mem (by omega : k < plan.length)))
  omega
theorem lenP_near {l : List Pan} (h : PieL l) {plan : List Plc} (hi : InL l plan) (hn : NearPl plan 2000000000) : 0 ≤ lenP l plan ∧ lenP l plan ≤ 1000002500 := by
 have := moF_near h hi hn plan.length (Nat.le_refl _)
 have e : lenP l plan = (moF l plan plan.length + 1) / 2 := by unfold lenP mostE moF; rw [List.take_length]
 omega
theorem bars2_any {v u : Value} (b : Bal) (l : List Pan) (plan : List Plc) (w : World) (h : SlP w v l) (hp : SlL w u plan) (hPL : PieL l) (hl16 : l.length ≤ 16) (hp16 : plan.length ≤ 16) (hIL : InL l plan) (hNP : NearPl plan 100000) (hbr : -1000000 ≤ b.2.1 ∧ b.2.1 ≤ 1000000) :
  Calls Tryz.prog 90 #[.agg #[sV b.1, .int .i64 b.2.1, .int .i64 b.2.2], v, u] w (RV w (.tuple #[.int .i64 (usedP l plan), .int .i64 (2 * lenP l plan * b.2.1)])) := by
 have hm := fun W (hb : Below w.heap.size w W) => mappedW_any l W (h.below hb) hl16 hPL
 have HLE := Lib.hid (fun W va vp ha hp' => length_any (va := va) (vp := vp) l plan W ha hp' hPL hIL (hNP.mono (by omega)) (by omega))
 have HF := Lib.hid (fun k hk' => usF_near hPL hIL k hk')
 have HS := Lib.hid (fun k hk' => usF_succ l (plan := plan) (k := k) hk')
 have HR : Hid (usedP l plan = usF l plan plan.length) := by unfold Hid usedP usF; rw [List.take_length]
 have HFW := Lib.hid (fun o (ho : o ∈ plan) => few_at hPL (hIL o ho))
 have HLN := Lib.hid (lenP_near hPL hIL (hNP.mono (by omega)))
 have HI := Lib.hid hIL
 obtain ⟨N, hN⟩ : ∃ N, lenP l plan = N := ⟨_, rfl⟩
 rw [hN] at HLE HLN ⊢
 rw [HR.out]
 have HP : Hid (SlL w u plan) := hp
 obtain ⟨xs, ⟨A, c, rfl, _, _, _⟩, _⟩ := h
 obtain ⟨B, d, rfl, _, _, hr⟩ := hp
 obtain ⟨nm, br, bl⟩ := b
 unfold sV
 simp only at hbr ⊢
 have hK := Blk.new w 27 #[.string ⟨nm.toArray⟩, .int .i64 br, .int .i64 bl]
 have fhK := hK.facts
 clear hPL hIL hNP hN HR
 go_enter Tryz.func90, Tryz.ntmps90
 go_wp2_with fail
 refine (hm _ (by (repeat first|exact J0|assumption|(apply J1;assumption)|apply J2|apply J3|apply J4))).mono ?_
 rintro e w3 ⟨va, rfl, hWa, hb3⟩
 replace hK := hK.below (show Below _ _ w3 by (repeat first|exact J0|assumption|(apply J1;assumption)|apply J2|apply J3|apply J4))
 replace fhK := hK.facts
 obtain ⟨Aa, ca, rfl⟩ := hWa.shape
 have hbw3 : Below w.heap.size w w3 := by (repeat first|exact J0|assumption|(apply J1;assumption)|apply J2|apply J3|apply J4)
 clear hm hb3
 go_wp2
 go_loopw [6, 15] (fun m i wr => ∃ k : Nat, k ≤ plan.length ∧ i = .int .i64 k ∧ m = .int .i64 (usF l plan k) ∧ Below w3.heap.size w3 wr) (fun _ i _ => plan.length - (intOf i).toNat)
 case atStart => exact ⟨0, Nat.zero_le _, rfl, rfl, bl_refl⟩
 case round =>
  obtain ⟨k, hk, rfl, rfl, hbk⟩ := hrel
  obtain ⟨wo, rfl⟩ : ∃ x, x = wr := ⟨_, rfl⟩
  have hbw := bl_then hbk hbw3
  have hfk := HF.out k hk
  by_cases hlt : k < plan.length
  ·obtain ⟨b, off, rfl, hb, c0, c1, c2⟩ := (hr.below hbw).plc hlt
   have ho := HI.out _ (List.getElem_mem hlt)
   have hfw := HFW.out _ (List.getElem_mem hlt)
   have HSk := Lib.hid (HS.out k hlt)
   obtain ⟨⟨n, u, f⟩, hoo⟩ : ∃ o, plan[k] = o := ⟨_, rfl⟩
   rw [hoo] at ho hfw c0 c1 c2 HSk
   obtain ⟨ko, hko0, hko⟩ := ho.nat
   simp only at c0 c1 c2 hko0
   subst hko0
   have hX := Blk.new wo 100 #[.int .i64 ko, .bool u, .int .i64 f]
   have hbx : Below w3.heap.size w3 (wo.alloc (.cells #[.int .i64 ko, .bool u, .int .i64 f] 100)) := bl_alloc hbk _
   go_upto_region 5 with fail
   obtain ⟨wx, hwx⟩ : ∃ X, wo.alloc (.cells #[.int .i64 ko, .bool u, .int .i64 f] 100) = X := ⟨_, rfl⟩
   obtain ⟨gx, hgx⟩ : ∃ X, wo.heap.size = X := ⟨_, rfl⟩
   rw [hwx] at hbx
   rw [hwx, hgx] at hX
   rw [hwx, hgx]
   clear hwx hgx c0 c1 c2 hb
   obtain ⟨bA, oA, p0, p5, q0, q5, r0, r5, p1, p2, p6, p7, q1, q2, q6, q7, r2, r7, p3, p4, q3, q4, hAA, hbAx, ⟨e0, e1, e2, e3, e4, e5, e6, e7⟩, hat2, hrr, hnt⟩ := hWa.look hko u f hbx
   subst hAA
   obtain ⟨P, hP⟩ : ∃ P, pcP l ((ko : Int), u, f) = P := ⟨_, rfl⟩
   rw [hP] at hat2 HSk hfw
   obtain ⟨F, hFF⟩ : ∃ F, usF l plan k = F := ⟨_, rfl⟩
   rw [hFF] at HSk hfk ⊢
   obtain ⟨⟨E1, E2⟩, hEE⟩ : ∃ F, endsP P = F := ⟨_, rfl⟩
   rw [hEE] at hat2
   simp only at hat2
   have fX := hX.facts
   clear hP hFF hEE hrr hnt
   refine wp_region_ords [0, 1, 2, 3, 4, 5, 6] [(7, false), (8, false), (9, false)] [10, 11] (by kernel_rfl) (by kernel_rfl) (fun d _ _ _ _ h => by cases d <;> exact h) ?_
   simp only [List.map_cons, List.map_nil, List.getD_cons_zero, List.getD_cons_succ]
   repeat (go_big_quiet_step (fail))
   refine wpQuiet_nil ?_
   refine wpMid_run rfl (fun K hK => ?_)
   go_simp
   refine (hat2 _).mono ?_
   rintro e w7 ⟨rfl, hb7⟩
   refine hK _ _ (by (repeat first|exact J0|assumption|(apply J1;assumption)|apply J2|apply J3|apply J4)) ?_
   clear hK K
   refine wpMid_run rfl (fun K hK => ?_)
   go_simp
   refine hK _ _ (by (repeat first|exact J0|assumption|(apply J1;assumption)|apply J2|apply J3|apply J4)) ?_
   clear hK K
   refine wpMid_run rfl (fun K hK => ?_)
   go_simp
   refine hK _ _ (by (repeat first|exact J0|assumption|(apply J1;assumption)|apply J2|apply J3|apply J4)) ?_
   clear hK K
   refine wpMid_nil ?_
   have hbx7 : Below w3.heap.size w3 w7 := bl_then (show Below wx.heap.size wx w7 by (repeat first|exact J0|assumption|(apply J1;assumption)|apply J2|apply J3|apply J4)) hbx
   clear hbx hb7 fX hX hat2 e0 e1 e2 e3 e4 e5 e6 e7
   go_wp2
   go_roundw
   case rel => exact ⟨k + 1, by omega, by go_num, by rw [HSk.out], hbx7⟩
   case measure => simp [intOf]; omega
  ·obtain rfl : k = plan.length := by omega
   obtain ⟨F, hFF⟩ : ∃ F, usF l plan plan.length = F := ⟨_, rfl⟩
   rw [hFF] at hfk ⊢
   have hKo := hK.below hbk
   have fKo := hKo.facts
   have hln := HLN.out
   have hmul1 : 2 * N * br ≤ 2 * N * 1000000 := Int.mul_le_mul_of_nonneg_left hbr.2 (by omega)
   have hmul2 : 2 * N * (-1000000) ≤ 2 * N * br := Int.mul_le_mul_of_nonneg_left hbr.1 (by omega)
   have hmul : -2000005000000000 ≤ 2 * N * br ∧ 2 * N * br ≤ 2000005000000000 := by omega
   clear hmul1 hmul2
   go_upto_region 7 with fail
   refine wp_region_ords [0, 1, 2, 5, 6] [(3, false), (4, true), (7, true), (8, false)] [9] (by kernel_rfl) (by kernel_rfl) (fun d _ _ _ _ h => by cases d <;> exact h) ?_
   simp only [List.map_cons, List.map_nil, List.getD_cons_zero, List.getD_cons_succ]
   repeat (go_big_quiet_step (fail))
   refine wpQuiet_nil ?_
   refine wpMid_run rfl (fun K hK => ?_)
   go_simp
   refine (HLE.out _ _ _ (hWa.below (bl_drew hbk)) (HP.out.below (bl_drew hbw))).mono ?_
   rintro e w7 ⟨rfl, hb7⟩
   refine hK _ _ (by (repeat first|exact J0|assumption|(apply J1;assumption)|apply J2|apply J3|apply J4)) ?_
   clear hK K
   refine wpMid_take rfl ?_
   intro K hK
   go_big_quiet_op
   go_big_quiet_on
   refine wpMid_take rfl ?_
   intro K hK
   go_big_quiet_op
   go_big_quiet_on
   refine wpMid_run rfl (fun K hK => ?_)
   go_simp
   refine hK _ _ (by (repeat first|exact J0|assumption|(apply J1;assumption)|apply J2|apply J3|apply J4)) ?_
   clear hK K
   refine wpMid_nil ?_
   have hbw7 : Below w.heap.size w w7 := bl_then hb7 (bl_drew hbw)
   go_wp2
   refine bodyPost_ret (v := .tuple #[.int .i64 F, .int .i64 (2 * N * br)]) (by simp [results, Tryz.results90, go_sem]) rfl ?_
   exact ⟨by rw [hFF], hbw7⟩
@[go_sem] theorem eqn_none (n c : Nat) (w : World) : (binOp .eql 28 (.slice none n c) (.slice none 0 0)).run Tryz.prog w = .ok (.bool true) w := by kernel_rfl
@[go_sem] theorem eqn_some (a : Addr) (n c : Nat) (w : World) : (binOp .eql 28 (.slice (some a) n c) (.slice none 0 0)).run Tryz.prog w = .ok (.bool false) w := by kernel_rfl
@[go_sem] theorem nen_some (a : Addr) (n c : Nat) (w : World) : (binOp .neq 28 (.slice (some a) n c) (.slice none 0 0)).run Tryz.prog w = .ok (.bool true) w := by kernel_rfl
@[go_sem] theorem nen_none (n c : Nat) (w : World) : (binOp .neq 28 (.slice none n c) (.slice none 0 0)).run Tryz.prog w = .ok (.bool false) w := by kernel_rfl
theorem clonePl_any {v : Value} (p : List Plc) (w : World) (h : SlL w v p) (hl : p.length ≤ 100000) : Calls Tryz.prog 125 #[v] w (RG plc 3 100 w p) := by
 have h0 := h
 obtain ⟨A, c, rfl, hlc, hcm, hr⟩ := h
 cases A with
 | none =>
  obtain rfl : p = [] := by
   cases p with
   | nil => rfl
   | cons x r => obtain ⟨_, _, e, _⟩ := hr 0 x rfl; cases e
  go_enter Tryz.func125, Tryz.ntmps125
  go_wp2
  go_ret
  exact ⟨_, rfl, Own.nil_, bl_refl⟩
 | some a =>
  have hE := Own.empty plc 3 w 100
  have hal : Below w.heap.size w (w.alloc (.cells #[] 100)) := bl_alloc bl_refl _
  have h1 := h0.below hal
  clear h0 hr hlc hcm
  go_enter Tryz.func125, Tryz.ntmps125
  go_wp2_with (at_builtin; refine wpList_app rfl plc_elem plc_len plc_one _ _ rfl w.heap.size _ _ [] p rfl rfl hE h1 (by simp [maxLen]; omega) (by simp; omega) (by simp) ?_; intro v3 w3 hu3 hgr3)
  have hb3 : Below w.heap.size w w3 := bl_grown hgr3 hal (fun j e => (hE.lt j e).1)
  rw [List.nil_append] at hu3
  go_wp2
  go_ret
  exact ⟨_, rfl, hu3, hb3⟩
def RowsP (base : Nat) (w : World) : List SlV → List (List Plc) → Prop
 | [], [] => True
 | t :: ts, L :: Ls => Own plc 3 base 100 w (slV t) L ∧ RowsP base w ts Ls
 | _, _ => False
theorem RowsP.len {base : Nat} {w : World} : ∀ {ts : List SlV} {Ls : List (List Plc)}, RowsP base w ts Ls → ts.length = Ls.length
 | [], [], _ => rfl
 | _ :: _, _ :: _, h => by simp [RowsP.len h.2]
 | [], _ :: _, h => h.elim
 | _ :: _, [], h => h.elim
theorem RowsP.map_ {base base' : Nat} {w w' : World} (hm : ∀ v L, Own plc 3 base 100 w v L → Own plc 3 base' 100 w' v L) : ∀ {ts : List SlV} {Ls : List (List Plc)}, RowsP base w ts Ls → RowsP base' w' ts Ls
 | [], [], _ => trivial
 | _ :: _, _ :: _, h => ⟨hm _ _ h.1, h.2.map_ hm⟩
 | [], _ :: _, h => h.elim
 | _ :: _, [], h => h.elim
theorem RowsP.get {base : Nat} {w : World} : ∀ {ts : List SlV} {Ls : List (List Plc)} {i : Nat}, RowsP base w ts Ls → (hi : i < ts.length) → (hj : i < Ls.length) → Own plc 3 base 100 w (slV ts[i]) Ls[i]
 | _ :: _, _ :: _, 0, h, _, _ => h.1
 | _ :: _, _ :: _, i + 1, h, hi, hj => by
  simp only [List.getElem_cons_succ]
  exact h.2.get _ _
 | [], _, _, _, hi, _ => by simp at hi
 | _ :: _, [], _, h, _, _ => h.elim
theorem RowsP.set {base : Nat} {w : World} {t : SlV} {L : List Plc} (ht : Own plc 3 base 100 w (slV t) L) : ∀ {ts : List SlV} {Ls : List (List Plc)} (i : Nat), RowsP base w ts Ls → RowsP base w (ts.set i t) (Ls.set i L)
 | [], [], _, _ => trivial
 | _ :: _, _ :: _, 0, h => ⟨ht, h.2⟩
 | _ :: _, _ :: _, i + 1, h => ⟨h.1, h.2.set ht i⟩
 | [], _ :: _, _, h => h.elim
 | _ :: _, [], _, h => h.elim
theorem RowsP.nils {base : Nat} {w : World} : ∀ n : Nat, RowsP base w (List.replicate n (none, 0, 0)) (List.replicate n [])
 | 0 => trivial
 | n + 1 => ⟨Own.nil_, RowsP.nils n⟩
def PlsR (w : World) : List SlV → List (List Plc) → Prop
 | [], [] => True
 | t :: ts, L :: Ls => SlL w (slV t) L ∧ PlsR w ts Ls
 | _, _ => False
theorem RowsP.read {base : Nat} {w : World} : ∀ {ts : List SlV} {Ls : List (List Plc)}, RowsP base w ts Ls → PlsR w ts Ls
 | [], [], _ => trivial
 | _ :: _, _ :: _, h => ⟨h.1.rd plc_len, h.2.read⟩
 | [], _ :: _, h => h.elim
 | _ :: _, [], h => h.elim
def SlPP (w : World) (v : Value) (ps : List (List Plc)) : Prop := ∃ ts, Sl rc 1 w v ts ∧ PlsR w ts ps
theorem sto_ok {l : List Bal} (h : stoE l = 0) : l.length ≤ 16 ∧ ∀ b ∈ l, balE b = 0 := by
  unfold stoE at h
  split at h
  · omega
  · have key : ∀ (r done : List Bal), stoG done r = 0 → ∀ b ∈ r, balE b = 0 := by
      intro r
      induction r with
      | nil => intro _ _ b hb; cases hb
      | cons q t ih =>
        intro done hg b hb
        rw [stoG] at hg
        split at hg
        · rename_i h0
          rcases List.mem_cons.1 hb with rfl | hb
          · exact (firstI_zero h0).1
          · exact ih _ hg b hb
        · rename_i h0
          exact absurd hg h0
    exact ⟨by omega, key l [] h⟩
def paaE (stock : List Bal) (l : List Pan) : Int := firstI [stoE stock, pieE l]
def pakE (stock : List Bal) (l : List Pan) : Int := if paaE stock l ≠ 0 then paaE stock l else if (packP stock l).isNone then 23 else 0
def pakL (stock : List Bal) (l : List Pan) : List (List Plc) := if pakE stock l = 0 then (packP stock l).getD [] else []
theorem packG_none (stock : List Bal) (l : List Pan) : ∀ r : List Nat, r.foldl (packG stock l) none = none
 | [] => rfl
 | _ :: r => packG_none stock l r
theorem packP_at {stock : List Bal} {l : List Pan} {ps : List (List Plc)} {k : Nat} (hk : k < l.length) : ((List.range l.length).drop k).foldl (packG stock l) (some ps) = ((List.range l.length).drop (k + 1)).foldl (packG stock l) (putB l k stock ps) := by
 rw [List.drop_eq_getElem_cons (by simpa using hk), List.foldl_cons, List.getElem_range]
 rfl
theorem putB_at {l : List Pan} {i : Nat} {stock : List Bal} {ps : List (List Plc)} {j : Nat} (hj : j < stock.length) (hp : j < ps.length) :
  putB l i (stock.drop j) (ps.drop j) = match onB stock[j] l ps[j] i with | some q => some (q :: ps.drop (j + 1)) | none => (putB l i (stock.drop (j + 1)) (ps.drop (j + 1))).map fun r => ps[j] :: r := by
 rw [List.drop_eq_getElem_cons hj, List.drop_eq_getElem_cons hp, putB] <;> rfl
def PkOk (l : List Pan) (k : Nat) (ps : List (List Plc)) : Prop := ∀ p ∈ ps, InL l p ∧ NearPl p (5000 + 200003 * (k : Int)) ∧ p.length ≤ k
theorem PkOk.cand {l : List Pan} {k : Nat} {p : List Plc} (hP : PieL l) (h : InL l p ∧ NearPl p (5000 + 200003 * (k : Int)) ∧ p.length ≤ k) (hk : k < l.length) (t : Bool) : InL l (candP l p k t) ∧ NearPl (candP l p k t) (5000 + 200003 * ((k + 1 : Nat) : Int)) ∧ (candP l p k t).length ≤ k + 1 := by
 obtain ⟨h1, h2, h3⟩ := h
 have hx : InP l ((k : Int), t, 0) := ⟨by simp only; omega, by simp only; omega⟩
 have hf := nxF_near hP hx h1 (by omega : (5000 : Int) ≤ 5000 + 200003 * (k : Int)) h2 p.length (Nat.le_refl _)
 rw [nxF_all] at hf
 unfold candP
 refine ⟨fun o ho => ?_, fun o ho => ?_, by rw [List.length_append]; simp; exact h3⟩
 ·rcases List.mem_append.1 ho with ho | ho
  ·exact h1 o ho
  ·obtain rfl := List.mem_singleton.1 ho
   exact hx
 ·rcases List.mem_append.1 ho with ho | ho
  ·have := h2 o ho
   push_cast
   omega
  ·obtain rfl := List.mem_singleton.1 ho
   unfold nextP
   simp only
   push_cast
   omega
theorem PkOk.step {l : List Pan} {k : Nat} {ps : List (List Plc)} (h : PkOk l k ps) : PkOk l (k + 1) ps := fun p hp => by
 obtain ⟨h1, h2, h3⟩ := h p hp
 exact ⟨h1, h2.mono (by push_cast; omega), by omega⟩
theorem PkOk.set {l : List Pan} {k : Nat} {ps : List (List Plc)} (h : PkOk l k ps) (j : Nat) {q : List Plc} (hq : InL l q ∧ NearPl q (5000 + 200003 * (k : Int)) ∧ q.length ≤ k) : PkOk l k (ps.set j q) := fun p hp => by
 rcases List.mem_or_eq_of_mem_set hp with hp | rfl
 ·exact h p hp
 ·exact hq
def bstO (b : Bal) (l : List Pan) (p : List Plc) (i : Nat) : Nat → Option (List Plc)
 | 0 => none
 | 1 => if fitE b l (candP l p i false) = 0 then some (candP l p i false) else none
 | _ => onB b l p i
theorem bstO_two (b : Bal) (l : List Pan) (p : List Plc) (i : Nat) : bstO b l p i 2 = if fitE b l (candP l p i true) = 0 ∧ (∀ q, bstO b l p i 1 = some q → lenP l (candP l p i true) < lenP l q) then some (candP l p i true) else bstO b l p i 1 := by
 show onB b l p i = _
 unfold onB bstO
 by_cases h1 : fitE b l (candP l p i true) = 0
 ·by_cases h2 : fitE b l (candP l p i false) = 0
  ·by_cases h3 : lenP l (candP l p i true) < lenP l (candP l p i false)
   ·rw [if_pos ⟨h1, .inr h3⟩, if_pos h2, if_pos ⟨h1, fun q hq => by cases hq; exact h3⟩]
   ·rw [if_neg (fun h => by rcases h.2 with h | h; exact h h2; exact h3 h), if_pos h2, if_neg (fun h => h3 (h.2 _ rfl))]
    rfl
  ·rw [if_pos ⟨h1, .inl h2⟩, if_neg h2, if_pos ⟨h1, fun q hq => by cases hq⟩]
 ·simp only [h1, false_and, if_false]
end Go.Proofs.YtpcgeihemkhkjaaGreatDoor
namespace Go.Proofs.YtpcgeihemkhkjaaGreatDoor
open Go.RowKit Go.ChangeMaps
set_option maxHeartbeats 4000000
set_option maxRecDepth 100000
def upI (n d : Int) : Int := (n + d - 1) / d
theorem upI_le {n d c : Int} (hd : 0 < d) : upI n d ≤ c ↔ n ≤ c * d := by
 unfold upI
 constructor
 ·intro h
  have h1 : (n + d - 1) / d < c + 1 := by omega
  rw [Int.ediv_lt_iff_lt_mul hd, Int.add_mul, Int.one_mul] at h1
  omega
 ·intro h
  have : (n + d - 1) / d < c + 1 := by
   rw [Int.ediv_lt_iff_lt_mul hd, Int.add_mul, Int.one_mul]
   omega
  omega
def barI (l : List Pan) (i : Int) : Int := ((netL (l.getD i.toNat noPan)).length : Int)
def barsP (l : List Pan) : Int := (l.map fun p => ((netL p).length : Int)).sum
def widP (p : Pan) : Int := upI ((endsP p).2 - (endsP p).1) 2
def widsP (l : List Pan) : Int := l.foldl (fun m p => max m (widP p)) 0
def boundP (b : Bal) (l : List Pan) : Int × Int := (upI (barsP l) (2 * b.2.1), widsP l)
theorem used_piece {l : List Pan} (h : PcsV l) {x : Plc} (hx : InP l x) : ((netL (pcP l x)).length : Int) = barI l x.1 := by
 have hi : x.1.toNat < l.length := by unfold InP at hx; omega
 have e : l.getD x.1.toNat noPan = l[x.1.toNat] := by rw [List.getD_eq_getElem?_getD, List.getElem?_eq_getElem hi]; rfl
 obtain ⟨h2, h3⟩ := h _ (List.getElem_mem hi)
 unfold barI pcP
 rw [e]
 split
 ·rw [trn_len h2 (panE_zero h3).wid.2]
 ·rfl
theorem perm_sum {f : Int → Int} {a b : List Int} (h : a.Perm b) : (a.map f).sum = (b.map f).sum := by
 induction h with
 | nil => rfl
 | cons x _ ih => rw [List.map_cons, List.map_cons, List.sum_cons, List.sum_cons, ih]
 | swap x y l => simp only [List.map_cons, List.sum_cons]; omega
 | trans _ _ h1 h2 => rw [h1, h2]
theorem used_sum {l : List Pan} (h : PcsV l) : ∀ (plan : List Plc), (∀ x ∈ plan, InP l x) → usedP l plan = ((idsP plan).map (barI l)).sum := by
 intro plan hp
 have key : ∀ (r : List Plc) (m : Int), (∀ x ∈ r, InP l x) → r.foldl (fun m x => m + ((netL (pcP l x)).length : Int)) m = m + ((idsP r).map (barI l)).sum := by
  intro r
  induction r with
  | nil => intro m _; simp [idsP]
  | cons x t ih =>
   intro m hr
   rw [List.foldl_cons, ih _ fun y hy => hr y (List.mem_cons_of_mem _ hy), used_piece h (hr x (List.mem_cons_self ..))]
   unfold idsP
   rw [List.map_cons, List.map_cons, List.sum_cons]
   omega
 have := key plan 0 hp
 unfold usedP
 omega
def AllP (l : List Pan) (plan : List Plc) : Prop := (idsP plan).Perm ((List.range l.length).map fun (i : Nat) => (i : Int))
theorem AllP.in_ {l : List Pan} {plan : List Plc} (h : AllP l plan) : ∀ x ∈ plan, InP l x := by
 intro x hx
 have := h.mem_iff.1 (List.mem_map_of_mem (f := fun x : Plc => x.1) hx)
 rw [List.mem_map] at this
 obtain ⟨i, hi, e⟩ := this
 rw [List.mem_range] at hi
 unfold InP
 omega
theorem used_all {l : List Pan} (h : PcsV l) {plan : List Plc} (hp : AllP l plan) : usedP l plan = barsP l := by
 rw [used_sum h plan hp.in_, perm_sum hp]
 unfold barsP
 congr 1
 refine List.ext_getElem (by simp) fun i h1 h2 => ?_
 simp only [List.length_map, List.length_range] at h1
 simp only [List.getElem_map, List.getElem_range]
 unfold barI
 rw [Int.toNat_natCast, List.getD_eq_getElem?_getD, List.getElem?_eq_getElem h1]
 rfl
theorem net_some {p : Pan} (ok : PanOk p) : 1 ≤ (netL p).length := by
 have h := netL_two ok
 have hh := ok.high
 have hl := strips_len p
 have hs := strips_ok ok
 cases e : strips p with
 | nil => rw [e] at hl; simp only [List.length_nil] at hl; omega
 | cons s t =>
  have hw := (hs 0 (by rw [hl]; omega)).wide
  have key : ∀ (r : List Strp), (∀ s ∈ r, s.1 + 2 ≤ s.2.1 ∧ s.2.2.1 + 2 ≤ s.2.2.2) → 0 ≤ areaS r := by
   intro r
   induction r with
   | nil => intro _; simp [areaS]
   | cons z q ih =>
    intro hz
    have := ih fun y hy => hz y (List.mem_cons_of_mem _ hy)
    have := hz z (List.mem_cons_self ..)
    unfold areaS at *
    rw [List.map_cons, List.sum_cons]
    omega
  have hall : ∀ z ∈ strips p, z.1 + 2 ≤ z.2.1 ∧ z.2.2.1 + 2 ≤ z.2.2.2 := fun z hz => by
   obtain ⟨i, hi, rfl⟩ := List.mem_iff_getElem.1 hz
   exact (hs i hi).wide
  have k1 := key t fun z hz => hall z (by rw [e]; exact List.mem_cons_of_mem _ hz)
  have k2 := hall s (by rw [e]; exact List.mem_cons_self ..)
  rw [e] at h
  unfold areaS at h k1
  rw [List.map_cons, List.sum_cons] at h
  omega
theorem used_pos {l : List Pan} (h : PcsV l) {plan : List Plc} (hp : ∀ x ∈ plan, InP l x) (hne : plan ≠ []) : 1 ≤ usedP l plan := by
 rw [used_len]
 obtain ⟨x, t, rfl⟩ : ∃ x t, plan = x :: t := by
  cases plan with
  | nil => exact absurd rfl hne
  | cons x t => exact ⟨x, t, rfl⟩
 have := net_some (h.ok (hp x (List.mem_cons_self ..)))
 unfold allNp
 rw [List.flatMap_cons, List.length_append]
 unfold pnet
 rw [List.length_map]
 omega
theorem used_sheet {b : Bal} {l : List Pan} (h : PcsV l) {plan : List Plc} (hp : ∀ x ∈ plan, InP l x) (he : EvnP plan) (hf : fitE b l plan = 0) (hne : plan ≠ []) {r : Nat} (hr : ∀ x ∈ plan, (stP l x).length ≤ r) : usedP l plan ≤ lenP l plan * (2 * (r : Int)) := by
 have hu := used_pos h hp hne
 have hl := len_ge (l := l) (plan := plan)
 obtain ⟨c, hc⟩ : ∃ c : Nat, lenP l plan = (c : Int) := ⟨(lenP l plan).toNat, by omega⟩
 have hs := plan_sheet (c := c) (r := r) (fun x hx => h.ok (hp x hx)) he hf (by omega) hr
 have hn := plan_nodup (fun o x ho hx => h.min (hp o ho) (hp x hx)) he hf
 have hle := length_le_of_sub hn hs
 rw [used_len] at hu ⊢
 have hc1 : 1 ≤ c := by
  refine Classical.byContradiction fun hc0 => ?_
  obtain rfl : c = 0 := by omega
  obtain ⟨x, t, rfl⟩ : ∃ x t, plan = x :: t := by
   cases plan with
   | nil => exact absurd rfl hne
   | cons x t => exact ⟨x, t, rfl⟩
  have e1 := h.ends (hp x (List.mem_cons_self ..))
  have e2 := ((fitG_zero _ _).1 hf).1 x (List.mem_cons_self ..)
  unfold outB at e2
  simp only [Bool.or_eq_false_iff, decide_eq_false_iff_not] at e2
  have e3 := (most_ge (l := l) (plan := x :: t)).2 x (List.mem_cons_self ..)
  omega
 rw [sheet_len 0 0 hc1] at hle
 rw [hc]
 have : ((2 * c * r : Nat) : Int) = (c : Int) * (2 * (r : Int)) := by push_cast; rw [Int.mul_comm 2 (c : Int), Int.mul_assoc]
 omega
theorem turn_wid {p : Pan} (ok : PanOk p) (hb : Box p (-4096) 4096) : (endsP (trnP p)).2 - (endsP (trnP p)).1 = (endsP p).2 - (endsP p).1 := by
 have ht := topX_near ok true
 rw [ends_turn ok (fun x hx => by have := box_xs hb x hx; omega) (by omega)]
 simp only
 omega
theorem pc_wid {l : List Pan} (h : PcsV l) {x : Plc} (hx : InP l x) : widP (pcP l x) = widP (l.getD x.1.toNat noPan) := by
 have hi : x.1.toNat < l.length := by unfold InP at hx; omega
 have e : l.getD x.1.toNat noPan = l[x.1.toNat] := by rw [List.getD_eq_getElem?_getD, List.getElem?_eq_getElem hi]; rfl
 obtain ⟨h2, h3⟩ := h _ (List.getElem_mem hi)
 unfold widP pcP
 rw [e]
 split
 ·rw [turn_wid (panE_zero h2) (panE_zero h2).box]
 ·rfl
theorem wids_ge {l : List Pan} {c : Int} (h0 : 0 ≤ c) (h : ∀ p ∈ l, widP p ≤ c) : widsP l ≤ c := by
 have key : ∀ (r : List Pan) (m : Int), m ≤ c → (∀ p ∈ r, widP p ≤ c) → r.foldl (fun m p => max m (widP p)) m ≤ c := by
  intro r
  induction r with
  | nil => intro m hm _; exact hm
  | cons p t ih =>
   intro m hm hr
   have := hr p (List.mem_cons_self ..)
   exact ih _ (by show max m (widP p) ≤ c; omega) fun q hq => hr q (List.mem_cons_of_mem _ hq)
 exact key l 0 h0 h
theorem bound_le {b : Bal} {l : List Pan} (h : PcsV l) {plan : List Plc} (hp : AllP l plan) (he : EvnP plan) (hf : fitE b l plan = 0) (hne : plan ≠ []) (hb : 1 ≤ b.2.1) : (boundP b l).1 ≤ lenP l plan ∧ (boundP b l).2 ≤ lenP l plan := by
 have hl := len_ge (l := l) (plan := plan)
 have ho := ((fitG_zero _ _).1 hf).1
 constructor
 ·refine (upI_le (by omega)).2 ?_
  rw [← used_all h hp]
  have := used_sheet h hp.in_ he hf hne (r := b.2.1.toNat) fun x hx => by
   have := ho x hx
   unfold outB at this
   simp only [Bool.or_eq_false_iff, decide_eq_false_iff_not] at this
   omega
  rw [Int.toNat_of_nonneg (by omega)] at this
  exact this
 ·refine wids_ge hl.1 fun p hpl => ?_
  obtain ⟨i, hi, rfl⟩ := List.mem_iff_getElem.1 hpl
  have hm : (i : Int) ∈ idsP plan := hp.mem_iff.2 (List.mem_map_of_mem (f := fun (i : Nat) => (i : Int)) (List.mem_range.2 hi))
  obtain ⟨x, hx, e⟩ := List.mem_map.1 hm
  have hw := pc_wid h (hp.in_ x hx)
  rw [e, Int.toNat_natCast, List.getD_eq_getElem?_getD, List.getElem?_eq_getElem hi] at hw
  have hw : widP (pcP l x) = widP l[i] := hw
  rw [← hw]
  unfold widP
  refine (upI_le (by omega)).2 ?_
  have h1 := ho x hx
  unfold outB at h1
  simp only [Bool.or_eq_false_iff, decide_eq_false_iff_not] at h1
  have h2 := (most_ge (l := l) (plan := plan)).2 x hx
  omega
def yldP (u w : Int) : Int × Int := (u / Int.gcd u w, w / Int.gcd u w)
def highP (l : List Pan) : Int := l.foldl (fun m p => max m (heightP p)) 1
theorem high_ge (l : List Pan) : 1 ≤ highP l ∧ ∀ p ∈ l, heightP p ≤ highP l := by
 have key : ∀ (r : List Pan) (m : Int), m ≤ r.foldl (fun m p => max m (heightP p)) m ∧ ∀ p ∈ r, heightP p ≤ r.foldl (fun m p => max m (heightP p)) m := by
  intro r
  induction r with
  | nil => intro m; exact ⟨Int.le_refl _, fun p hp => by cases hp⟩
  | cons q t ih =>
   intro m
   obtain ⟨a, b⟩ := ih (max m (heightP q))
   rw [List.foldl_cons]
   refine ⟨by omega, fun p hp => ?_⟩
   rcases List.mem_cons.1 hp with rfl | hp
   ·omega
   ·exact b p hp
 exact key l 1
theorem high_le {l : List Pan} (h : Pcs l) : highP l ≤ 16 := by
 have key : ∀ (r : List Pan) (m : Int), m ≤ 16 → (∀ p ∈ r, heightP p ≤ 16) → r.foldl (fun m p => max m (heightP p)) m ≤ 16 := by
  intro r
  induction r with
  | nil => intro m hm _; exact hm
  | cons q t ih =>
   intro m hm hr
   have := hr q (List.mem_cons_self ..)
   exact ih _ (by show max m (heightP q) ≤ 16; omega) fun p hp => hr p (List.mem_cons_of_mem _ hp)
 exact key l 1 (by omega) fun p hp => by have := (h p hp).1.high; omega
theorem pc_high {l : List Pan} (h : Pcs l) {x : Plc} (hx : InP l x) : ((stP l x).length : Int) ≤ highP l := by
 obtain ⟨p, hp, e⟩ := pc_cases hx
 obtain ⟨h1, h2, h3⟩ := h p hp
 have h4 := (high_ge l).2 p hp
 have h5 := h1.ok.high
 have : heightP (pcP l x) = heightP p := by
  rw [e]
  split
  ·exact trn_high h1.ok
  ·rfl
 unfold stP
 rw [strips_len, this]
 omega
structure Ordr (l : List Pan) (o : List Plc) : Prop where
 all_ : AllP l o
 few : o.length ≤ 3
 ne : o ≠ []
theorem lay_all {l : List Pan} {o : List Plc} (h : AllP l o) : AllP l (layP l o) := by
 have e : idsP (layP l o) = idsP o := by
  have := congrArg (List.map (fun z : Int × Bool => z.1)) (layP_same l o)
  rw [List.map_map, List.map_map] at this
  exact this
 unfold AllP
 rw [e]
 exact h
theorem lay_ne {l : List Pan} {o : List Plc} (h : o ≠ []) : layP l o ≠ [] := by
 intro e
 have := layP_len l o
 rw [e] at this
 exact h (List.eq_nil_of_length_eq_zero this.symm)
theorem Ordr.len {l : List Pan} (h : Pcs l) {o : List Plc} (ho : Ordr l o) : 1 ≤ lenP l (layP l o) ∧ lenP l (layP l o) ≤ 200 := lay_len h ho.all_.in_ ho.ne ho.few
theorem Ordr.fits {l : List Pan} (h : Pcs l) {o : List Plc} (ho : Ordr l o) {b : Bal} (hb : highP l ≤ b.2.1) (hn : 0 ≤ b.2.2) : fitE b l (layP l o) = if lenP l (layP l o) ≤ b.2.2 then 0 else 32 :=
 lay_fit (fun x hx => by have := pc_high h (lay_in ho.all_.in_ x hx); omega) hn
theorem Ordr.places {l : List Pan} (h : Pcs l) {o : List Plc} (ho : Ordr l o) : plcE l.length (layP l o) = 0 := by
 have hf := ho.few
 refine plc_zero (by rw [layP_len]; omega) ?_ fun x hx => ⟨lay_in ho.all_.in_ x hx, ?_⟩
 ·have := lay_all ho.all_
  unfold AllP at this
  rw [this.nodup_iff]
  unfold List.Nodup
  rw [List.pairwise_map]
  exact List.nodup_range.imp fun {a b} h e => h (by omega)
 ·have hn := lay_near h o [] ho.all_.in_ (fun x hx => by cases hx) x hx
  simp only [List.length_nil] at hn
  exact atE_zero (by omega) (layP_even l o x hx)
theorem ordG_nodup (n : Nat) : ∀ (k : Nat) (begin_ o : List Plc), (idsP begin_).Nodup → o ∈ ordG n k begin_ → (idsP o).Nodup
 | 0, begin_, o, hb, h => by
  simp only [ordG, List.mem_singleton] at h
  rw [h]
  exact hb
 | k + 1, begin_, o, hb, h => by
  rw [ordG, List.mem_flatMap] at h
  obtain ⟨i, _, h⟩ := h
  split at h
  ·cases h
  ·rename_i hc
   have hn : ∀ t : Bool, (idsP (begin_ ++ [((i : Int), t, (0 : Int))])).Nodup := fun t => by
    unfold idsP
    rw [List.map_append, List.nodup_append]
    refine ⟨hb, by simp, fun a ha b hb' e => ?_⟩
    simp only [List.map_cons, List.map_nil, List.mem_singleton] at hb'
    obtain ⟨z, hz, rfl⟩ := List.mem_map.1 ha
    refine hc (List.any_eq_true.2 ⟨z, hz, ?_⟩)
    rw [decide_eq_true_eq, e, hb']
   rcases List.mem_append.1 h with h | h
   ·exact ordG_nodup n k _ o (hn false) h
   ·exact ordG_nodup n k _ o (hn true) h
theorem ord_all {l : List Pan} {o : List Plc} (h : o ∈ ordP l.length) : AllP l o := by
 have hn := ordG_nodup _ _ _ _ (by simp [idsP]) h
 obtain ⟨r, e0, hl, hx⟩ := ordG_in _ _ _ _ h
 rw [List.nil_append] at e0
 subst e0
 have hr : ((List.range l.length).map fun (i : Nat) => (i : Int)).Nodup := by
  unfold List.Nodup
  rw [List.pairwise_map]
  exact List.nodup_range.imp fun {a b} h e => h (by omega)
 have hsub : ∀ x ∈ idsP o, x ∈ (List.range l.length).map fun (i : Nat) => (i : Int) := fun x hxr => by
  obtain ⟨z, hz, rfl⟩ := List.mem_map.1 hxr
  obtain ⟨i, hi, e⟩ := hx z hz
  exact List.mem_map.2 ⟨i, List.mem_range.2 hi, e.symm⟩
 refine (List.perm_ext_iff_of_nodup hn hr).2 fun x => ⟨hsub x, fun hxi => Classical.byContradiction fun hc => ?_⟩
 have := length_le_of_sub (l := x :: idsP o) (D := (List.range l.length).map fun (i : Nat) => (i : Int)) (List.nodup_cons.2 ⟨hc, hn⟩) fun y hy => by
  rcases List.mem_cons.1 hy with rfl | hy
  ·exact hxi
  ·exact hsub y hy
 unfold idsP at this
 simp only [List.length_cons, List.length_map, List.length_range] at this
 omega
theorem ord_ordr {l : List Pan} (h3 : l.length ≤ 3) (hne : l ≠ []) {o : List Plc} (h : o ∈ ordP l.length) : Ordr l o := by
 have ha := ord_all h
 have hl : o.length = l.length := by
  have := ha.length_eq
  unfold idsP at this
  simpa using this
 refine ⟨ha, by omega, fun e => hne ?_⟩
 rw [e] at hl
 exact List.eq_nil_of_length_eq_zero hl.symm
theorem ord_mem {l : List Pan} {o : List Plc} (h : AllP l o) (hz : ∀ x ∈ o, x.2.2 = 0) : o ∈ ordP l.length := by
 have hl : o.length = l.length := by
  have := h.length_eq
  unfold idsP at this
  simpa using this
 have hn : (idsP o).Nodup := by
  rw [h.nodup_iff]
  unfold List.Nodup
  rw [List.pairwise_map]
  exact List.nodup_range.imp fun {a b} h e => h (by omega)
 have := ordG_mem l.length l.length [] o hl (fun x hx => ?_) (by rw [List.nil_append]; exact hn)
 ·rw [List.nil_append] at this
  exact this
 ·have hi := h.in_ x hx
  have hz := hz x hx
  unfold InP at hi
  refine ⟨x.1.toNat, by omega, ?_⟩
  refine Prod.ext (by simp only; omega) (Prod.ext rfl hz)
theorem ord_some (l : List Pan) : ∃ o, o ∈ ordP l.length := by
 refine ⟨(List.range l.length).map fun (i : Nat) => ((i : Int), false, (0 : Int)), ord_mem ?_ fun x hx => ?_⟩
 ·unfold AllP idsP
  rw [List.map_map]
  exact List.Perm.refl _
 ·obtain ⟨i, _, rfl⟩ := List.mem_map.1 hx
  rfl
structure Best (b : Bal) (l : List Pan) (x : List Plc) (n : Int) : Prop where
 is_ : bestP b l = some (x, n)
 laid : ∃ o, Ordr l o ∧ x = layP l o
 len : n = lenP l x
 fit : fitE b l x = 0
 least : ∀ o, o ∈ ordP l.length → n ≤ lenP l (layP l o)
theorem best_there {b : Bal} {l : List Pan} (h : Pcs l) (h3 : l.length ≤ 3) (hne : l ≠ []) (hb : 16 ≤ b.2.1 ∧ 200 ≤ b.2.2) : ∃ x n, Best b l x n := by
 have hh := high_le h
 have hf : ∀ o, o ∈ ordP l.length → fitE b l (layP l o) = 0 := fun o ho => by
  have h1 := ord_ordr h3 hne ho
  have h2 := h1.len h
  rw [h1.fits h (by omega) (by omega), if_pos (by omega)]
 cases e : bestP b l with
 | none =>
  obtain ⟨o, ho⟩ := ord_some l
  exact absurd (hf o ho) ((best_none b l _ _ e).2 o ho)
 | some z =>
  obtain ⟨x, n⟩ := z
  obtain ⟨h1, _, h2⟩ := best_fold b l _ _ _ _ e
  rcases h1 with h1 | ⟨o, ho, rfl, hn, hfit⟩
  ·cases h1
  ·exact ⟨_, n, e, ⟨o, ord_ordr h3 hne ho, rfl⟩, hn, hfit, fun o ho => h2 o ho (hf o ho)⟩
theorem best_again {b : Bal} {l : List Pan} (h : Pcs l) (h3 : l.length ≤ 3) (hne : l ≠ []) (hb : 16 ≤ b.2.1 ∧ 200 ≤ b.2.2) {x : List Plc} {n : Int} (hB : Best b l x n) (nm : List UInt8) (k : Int) (hk : 0 ≤ k) : (k = n → bestP (nm, b.2.1, k) l = some (x, n)) ∧ (k < n → bestP (nm, b.2.1, k) l = none) := by
 have hh := high_le h
 have hf : ∀ o, o ∈ ordP l.length → fitE b l (layP l o) = 0 := fun o ho => by
  have h1 := ord_ordr h3 hne ho
  have h2 := h1.len h
  rw [h1.fits h (by omega) (by omega), if_pos (by omega)]
 have hc : ∀ o, o ∈ ordP l.length → (fitE (nm, b.2.1, k) l (layP l o) = 0 ↔ lenP l (layP l o) ≤ k) := fun o ho => by
  have h1 := ord_ordr h3 hne ho
  rw [h1.fits h (by show highP l ≤ b.2.1; omega) hk]
  show (if lenP l (layP l o) ≤ k then (0 : Int) else 32) = 0 ↔ _
  split
  ·rename_i q; exact ⟨fun _ => q, fun _ => rfl⟩
  ·rename_i q; exact ⟨fun e => by omega, fun e => absurd e q⟩
 constructor
 ·intro e
  rw [best_same b (nm, b.2.1, k) l k (fun z hz => by rw [hB.is_] at hz; cases hz; exact e.symm) hf hc (by rw [hB.is_]; rfl), hB.is_]
 ·intro e
  cases q : bestP (nm, b.2.1, k) l with
  | none => rfl
  | some z =>
   exfalso
   obtain ⟨y, m⟩ := z
   obtain ⟨h1, _, _⟩ := best_fold _ l _ _ _ _ q
   rcases h1 with h1 | ⟨o, ho, rfl, hn, hfit⟩
   ·cases h1
   ·have := (hc o ho).1 hfit
    have := hB.least o ho
    omega
def splS : Str → List Str
 | [] => [[]]
 | c :: r => if c = 32 then [] :: splS r else match splS r with
  | [] => [[c]]
  | w :: ws => (c :: w) :: ws
theorem splS_none : ∀ {s : Str}, 32 ∉ s → splS s = [s]
 | [], _ => rfl
 | c :: r, h => by
  rw [splS, if_neg (fun e => h (by rw [e]; exact List.mem_cons_self)), splS_none fun e => h (List.mem_cons_of_mem _ e)]
theorem splS_app : ∀ {a : Str} (b : Str), 32 ∉ a → splS (a ++ 32 :: b) = a :: splS b
 | [], b, _ => by rw [List.nil_append, splS, if_pos rfl]
 | c :: r, b, h => by
  rw [List.cons_append, splS, if_neg (fun e => h (by rw [e]; exact List.mem_cons_self)), splS_app b fun e => h (List.mem_cons_of_mem _ e)]
theorem split_ix {l : Str} {c : UInt8} {k : Nat} (h : Lib.indexByte l c = (k : Int)) : l = l.take k ++ c :: l.drop (k + 1) ∧ c ∉ l.take k := by
 induction l generalizing k with
 | nil => simp [Lib.indexByte] at h
 | cons b r ih =>
  rw [Lib.indexByte] at h
  by_cases hb : b = c
  ·subst hb
   rw [if_pos (by simp)] at h
   obtain rfl : k = 0 := by omega
   simp
  ·have hge := Lib.indexByte_ge r c
   rw [if_neg (by simpa using hb)] at h
   split at h
   ·omega
   ·rename_i h1
    have h1' : ¬ Lib.indexByte r c = -1 := by simpa using h1
    obtain ⟨j, hj⟩ : ∃ j : Nat, Lib.indexByte r c = (j : Int) := ⟨(Lib.indexByte r c).toNat, by omega⟩
    obtain rfl : k = j + 1 := by omega
    obtain ⟨e1, e2⟩ := ih hj
    refine ⟨by simpa using e1, ?_⟩
    rw [List.take_succ_cons, List.mem_cons]
    rintro (rfl | h2)
    ·exact hb rfl
    ·exact e2 h2
theorem miss_ix {l : Str} {c : UInt8} (h : Lib.indexByte l c = -1) : c ∉ l := by
 induction l with
 | nil => simp
 | cons b r ih =>
  have hge := Lib.indexByte_ge r c
  rw [Lib.indexByte] at h
  by_cases hb : b = c
  ·rw [if_pos (by simpa using hb)] at h; omega
  ·rw [if_neg (by simpa using hb)] at h
   have h1 : Lib.indexByte r c = -1 := by
    split at h
    ·rename_i h2; simpa using h2
    ·omega
   rw [List.mem_cons]
   rintro (rfl | h2)
   ·exact hb rfl
   ·exact ih h1 h2
theorem splitB_spl : ∀ (k : Nat) (s : Str), s.count 32 ≤ k → (Lib.splitB ⟨#[32]⟩ 0 k ⟨s.toArray⟩).map (fun b => b.data.toList) = splS s
 | 0, s, h => by
  rw [Lib.splitB_zero, splS_none (fun hm => by have := List.count_pos_iff.2 hm; omega)]
  rfl
 | k + 1, s, h => by
  have hix : Lib.indexB ⟨s.toArray⟩ ⟨#[32]⟩ = Lib.indexByte s 32 := Lib.index_one s 32
  have hge := Lib.indexByte_ge s 32
  by_cases h1 : Lib.indexByte s 32 = -1
  ·rw [Lib.splitB_miss _ _ _ _ (by rw [hix, h1]), splS_none (miss_ix h1)]
   rfl
  ·obtain ⟨j, hj⟩ : ∃ j : Nat, Lib.indexByte s 32 = (j : Int) := ⟨(Lib.indexByte s 32).toNat, by omega⟩
   obtain ⟨e1, e2⟩ := split_ix hj
   have e3 : splS s = s.take j :: splS (s.drop (j + 1)) := by
    conv => lhs; rw [e1]
    exact splS_app _ e2
   have hd : (s.drop (j + 1)).count 32 ≤ k := by
    have : s.count 32 = (s.take j).count 32 + ((s.drop (j + 1)).count 32 + 1) := by
     conv => lhs; rw [e1]
     rw [List.count_append, List.count_cons_self]
    omega
   have hx : ({ data := s.toArray } : ByteArray).extract (j + 1) ({ data := s.toArray } : ByteArray).size = ⟨(s.drop (j + 1)).toArray⟩ := by
    rw [ByteArray.extract_mk]
    congr 1
    apply Array.ext'
    simp [ByteArray.size]
    rw [List.take_of_length_le (by simp)]
   have ht : (({ data := s.toArray } : ByteArray).extract 0 j).data.toList = s.take j := by
    rw [ByteArray.extract_mk]
    simp
   rw [Lib.splitB, if_neg (by rw [hix, hj]; simp), hix, hj, Int.toNat_natCast, List.map_cons, Nat.add_zero, ht, show (⟨#[32]⟩ : ByteArray).size = 1 from rfl, hx, splitB_spl k _ hd, e3]
theorem wordsL_spl (s : Str) : wordsL s = splS s := by
 unfold wordsL
 exact splitB_spl _ s (by rw [show Lib.countB ⟨s.toArray⟩ ⟨#[32]⟩ = Lib.count s [32] from rfl, Lib.count_one]; exact Nat.le_refl _)
theorem lines_app : ∀ {r : Str} (s : Str), 10 ∉ r → linesL (r ++ 10 :: s) = (r ++ [10]) :: linesL s
 | [], s, _ => by rw [List.nil_append, linesL, if_pos rfl]; rfl
 | c :: r, s, h => by
  rw [List.cons_append, linesL, if_neg (fun e => h (by rw [e]; exact List.mem_cons_self)), lines_app s fun e => h (List.mem_cons_of_mem _ e)]
  rfl
end Go.Proofs.YtpcgeihemkhkjaaGreatDoor
namespace Go.Proofs.YtpcgeihemkhkjaaGreatDoor
open Go.RowKit Go.ChangeMaps
set_option maxHeartbeats 4000000
set_option maxRecDepth 100000
attribute [local go_sem] Oper.semAt_some
theorem Blk.setA {W : World} {g g' i : Nat} {t : TypeId} {cs : Array Value} {u : Value} (h : Blk W g t cs) (hne : g ≠ g') : Blk (W.setCell ⟨g', i, none⟩ u) g t cs := (Below.heap_setCell W ⟨g', i, none⟩ u g hne).trans h
theorem below_setA {w W : World} {n0 g i : Nat} {u : Value} (hb : Below n0 w W) (h : n0 ≤ g) : Below n0 w (W.setCell ⟨g, i, none⟩ u) :=
 hb.trans ⟨rfl, rfl, rfl, by simp [World.setCell], fun k hk => Below.heap_setCell W ⟨g, i, none⟩ u k (show k ≠ g by omega)⟩
end Go.Proofs.YtpcgeihemkhkjaaGreatDoor
namespace Go.Proofs.YtpcgeihemkhkjaaGreatDoor
open Go.RowKit Go.ChangeMaps
set_option maxHeartbeats 4000000
set_option maxRecDepth 100000
def dirS (t : Bool) : Str := if t then [100, 111, 119, 110] else [117, 112]
def plnS1 (l : List Pan) (x : Plc) : Str := (l.getD x.1.toNat noPan).1 ++ 32 :: (dirS x.2.1 ++ 32 :: Lib.itoa x.2.2)
def prnB (l : List Pan) (plan : List Plc) : Str := plan.flatMap fun x => plnS1 l x ++ [10]
def idxS (l : List Pan) (nm : Str) (a : Option Nat) (i : Nat) : Option Nat := if (l.getD i noPan).1 = nm then some i else a
def idxP (l : List Pan) (nm : Str) : Option Nat := (List.range l.length).foldl (idxS l nm) none
def linE (l : List Pan) (W : List Str) (out : List Plc) : Int :=
 if W.length = 3 ∧ W.getD 0 [] ≠ [] ∧ (W.getD 1 [] = dirS false ∨ W.getD 1 [] = dirS true) ∧ (intR (W.getD 2 [])).2 = true then
  firstI [whenI (idxP l (W.getD 0 [])).isNone 10, whenI (out.any fun o => decide (o.1 = (((idxP l (W.getD 0 [])).getD 0 : Nat) : Int))) 9, atE_ (intR (W.getD 2 [])).1]
 else 25
def linP (l : List Pan) (W : List Str) : Plc := ((((idxP l (W.getD 0 [])).getD 0 : Nat) : Int), decide (W.getD 1 [] = dirS true), (intR (W.getD 2 [])).1)
def nlB (x : Str) : Bool := decide (x.getLast? = some 10)
def lnE (l : List Pan) (x : Str) (out : List Plc) : Int := if nlB x = true then linE l (splS x.dropLast) out else 25
def prsL (l : List Pan) : List Str → List Plc → Nat → List Plc × Int × Int
 | [], out, _ => (out, 0, 0)
 | x :: r, out, i => if lnE l x out = 0 then prsL l r (out ++ [linP l (splS x.dropLast)]) (i + 1) else ([], (i : Int), lnE l x out)
def prsB (l : List Pan) (s : Str) : List Plc × Int × Int := prsL l (linesL s) [] 0
def NmU (l : List Pan) : Prop := (l.map (·.1)).Nodup
theorem pie_names {l : List Pan} (h : pieE l = 0) : NmU l ∧ l.length ≤ 16 ∧ ∀ p ∈ l, panE p = 0 := by
 have key : ∀ (r done : List Pan), (done.map (·.1)).Nodup → pieG done r = 0 → ((done ++ r).map (·.1)).Nodup ∧ ∀ p ∈ r, panE p = 0 := by
  intro r
  induction r with
  | nil => intro done hd _; rw [List.append_nil]; exact ⟨hd, fun p hp => by cases hp⟩
  | cons q t ih =>
   intro done hd h
   rw [pieG] at h
   split at h
   ·rename_i hc
    unfold pieE1 at hc
    simp only [firstI] at hc
    split at hc
    ·rename_i h1
     split at hc
     ·rename_i h2
      have ha : agnB done q.1 = false := by
       unfold whenI at h2
       split at h2
       ·omega
       ·rename_i z; simpa using z
      have hd2 : ((done ++ [q]).map (·.1)).Nodup := by
       rw [List.map_append, List.nodup_append]
       refine ⟨hd, by simp, fun a ha' b hb e => ?_⟩
       simp only [List.map_cons, List.map_nil, List.mem_singleton] at hb
       subst hb
       subst e
       obtain ⟨z, hz, e⟩ := List.mem_map.1 ha'
       unfold agnB at ha
       rw [List.any_eq_false] at ha
       exact ha z hz (by rw [e]; simp)
      obtain ⟨k1, k2⟩ := ih (done ++ [q]) hd2 h
      rw [List.append_assoc] at k1
      refine ⟨k1, fun p hp => ?_⟩
      rcases List.mem_cons.1 hp with rfl | hp
      ·exact h1
      ·exact k2 p hp
     ·rename_i h2; exact absurd hc h2
    ·rename_i h1; exact absurd hc h1
   ·rename_i hc; exact absurd h hc
 unfold pieE at h
 split at h
 ·cases h
 ·obtain ⟨k1, k2⟩ := key l [] List.nodup_nil h
  exact ⟨k1, by omega, k2⟩
theorem getD_at {l : List Pan} {i : Nat} (hi : i < l.length) : l.getD i noPan = l[i] := by rw [List.getD_eq_getElem?_getD, List.getElem?_eq_getElem hi]; rfl
theorem nl_app (a : Str) : nlB (a ++ [10]) = true ∧ (a ++ [10]).dropLast = a := by
 unfold nlB
 simp
end Go.Proofs.YtpcgeihemkhkjaaGreatDoor

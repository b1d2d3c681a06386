/- Length, CheckPlan, bars of plans, walked. Conditions: bounds. -/
import Derived.Test.YtpcgeihemkhkjaaGreatDoorS29
import Derived.Test.YtpcgeihemkhkjaaGreatDoorS26
import Derived.Test.YtpcgeihemkhkjaaGreatDoorS27
import Derived.Test.YtpcgeihemkhkjaaGreatDoorS14
import Derived.Test.YtpcgeihemkhkjaaGreatDoorS23
import Derived.Lib.AtoiTie
import Derived.Test.YtpcgeihemkhkjaaGreatDoorS10
import Derived.Lib.SplitLaws
import Derived.Lib.IndexBytes
import Derived.Lib.IndexMore
import Derived.Test.YtpcgeihemkhkjaaGreatDoorS24
import Derived.Test.YtpcgeihemkhkjaaGreatDoorS20
import Derived.Test.YtpcgeihemkhkjaaGreatDoorS11
namespace Go.Proofs.YtpcgeihemkhkjaaGreatDoor
open Go.RowKit Go.ChangeMaps
set_option maxHeartbeats 4000000
set_option maxRecDepth 100000
attribute [local go_sem] Oper.semAt_some
theorem Zmm (l : List Pan) (plan : List Plc) : (if pieE l = 0 then plcE l.length plan else pieE l) = Zmg l plan := rfl
theorem Zmn {v u : Value} (l : List Pan) (plan : List Plc) (w : World) (h : SlP w v l) (hp : SlL w u plan) (hnm : ∀ p ∈ l, p.1.length ≤ 1000000) (hll : l.length ≤ 100000) (hpl : plan.length ≤ 100000) :
  Calls Tryz.prog 16 #[v, u] w (RV w (.tuple #[.int .i64 (Zfc (Zmg l plan) (lenP l plan)), .int .i64 (Zmg l plan)])) := by
 have hc := fun W (hb : Below w.heap.size w W) => Zm7 l plan W (h.below hb) (hp.below hb) hnm hll hpl
 rw [Zmm] at hc
 by_cases hE : Zmg l plan = 0
 ·obtain ⟨hPL, hl16, hp16, hIL, hNP, hEV⟩ := Zmh hnm hE
  have hm := fun W (hb : Below w.heap.size w W) => Zkc l W (h.below hb) hl16 hPL
  have hle := fun W va vp ha hp' => Zma (va := va) (vp := vp) l plan W ha hp' hPL hIL (hNP.mono (by omega)) (by omega)
  have HLE := Lib.hid hle
  have HS : Hid (Zfc (Zmg l plan) (lenP l plan) = lenP l plan) := by unfold Hid Zfc; rw [if_pos hE]
  rw [HS.out, hE]; rw [hE] at hc; obtain ⟨N, hN⟩ : ∃ N, lenP l plan = N := ⟨_, rfl⟩
  rw [hN] at HLE ⊢; have HP : Hid (SlL w u plan) := hp
  obtain ⟨xs, ⟨A, c, rfl, _, _, _⟩, _⟩ := h; obtain ⟨B, d, rfl, _, _, hr⟩ := hp; clear hE hPL hIL hNP hEV hle hN HS; go_enter Tryz.func16, Tryz.ntmps16
  go_wp2_with fail; refine (hc _ (by (repeat first|exact J0|assumption|(apply J1;assumption)|apply J2|apply J3|apply J4))).mono ?_
  rintro e w2 ⟨rfl, hb2⟩; go_wp2_with fail; refine (hm _ (by (repeat first|exact J0|assumption|(apply J1;assumption)|apply J2|apply J3|apply J4))).mono ?_
  rintro e w3 ⟨va, rfl, hWa, hb3⟩; obtain ⟨Aa, ca, rfl⟩ := hWa.shape; have hbw3 : Below w.heap.size w w3 := by (repeat first|exact J0|assumption|(apply J1;assumption)|apply J2|apply J3|apply J4)
  clear hc hm hb2 hb3; go_wp2_with fail; refine (HLE.out _ _ _ hWa (HP.out.below hbw3)).mono ?_
  rintro e w4 ⟨rfl, hb4⟩; go_wp2; refine bodyPost_ret (v := .tuple #[.int .i64 N, .int .i64 0]) (by simp [results, Tryz.results16, go_sem]) rfl ?_
  exact ⟨rfl, by (repeat first|exact J0|assumption|(apply J1;assumption)|apply J2|apply J3|apply J4)⟩
 ·have t0 : (Zmg l plan != 0) = true := by simp [hE]
  have HS : Hid (Zfc (Zmg l plan) (lenP l plan) = 0) := by unfold Hid Zfc; rw [if_neg hE]
  rw [HS.out]; obtain ⟨E, hEE⟩ : ∃ E, Zmg l plan = E := ⟨_, rfl⟩
  rw [hEE] at hc t0 ⊢; obtain ⟨xs, ⟨A, c, rfl, _, _, _⟩, _⟩ := h; obtain ⟨B, d, rfl, _, _, hr⟩ := hp; clear hE hEE; go_enter Tryz.func16, Tryz.ntmps16
  go_wp2_with fail; refine (hc _ (by (repeat first|exact J0|assumption|(apply J1;assumption)|apply J2|apply J3|apply J4))).mono ?_
  rintro e w2 ⟨rfl, hb2⟩; go_wp2; refine bodyPost_ret (v := .tuple #[.int .i64 0, .int .i64 E]) (by simp [results, Tryz.results16, go_sem]) rfl ?_
  exact ⟨rfl, by (repeat first|exact J0|assumption|(apply J1;assumption)|apply J2|apply J3|apply J4)⟩
def cpaE (b : Bal) (l : List Pan) (plan : List Plc) : Int := Z17 [balE b, Zmg l plan]
def cpnE (b : Bal) (l : List Pan) (plan : List Plc) : Int := if cpaE b l plan = 0 then fitE b l plan else cpaE b l plan
theorem Zmo {b : Bal} (h : balE b = 0) : (1 ≤ b.2.1 ∧ b.2.1 ≤ 256) ∧ 1 ≤ b.2.2 ∧ b.2.2 ≤ 2000 := by
 unfold balE at h
 obtain ⟨_, h⟩ := Zjo h
 obtain ⟨h1, h⟩ := Zjo h
 obtain ⟨h2, _⟩ := Zjo h
 exact ⟨Z9s h1, Z9s h2⟩
theorem Zmp {b : Bal} {l : List Pan} {plan : List Plc} (h : cpaE b l plan = 0) : balE b = 0 ∧ Zmg l plan = 0 := Z9l h
theorem Zmq {v u : Value} (b : Bal) (l : List Pan) (plan : List Plc) (w : World) (hbn : b.1.length ≤ 1000000) (h : SlP w v l) (hp : SlL w u plan) (hnm : ∀ p ∈ l, p.1.length ≤ 1000000) (hll : l.length ≤ 100000) (hpl : plan.length ≤ 100000) :
  Calls Tryz.prog 15 #[.agg #[sV b.1, .int .i64 b.2.1, .int .i64 b.2.2], v, u] w (RV w (.int .i64 (cpnE b l plan))) := by
 have hcb := fun W => Zjh b hbn W
 have hc := fun W (hb : Below w.heap.size w W) => Zm7 l plan W (h.below hb) (hp.below hb) hnm hll hpl
 rw [Zmm] at hc
 have hf2 : ∀ A c' W, Rd ic 1 W A [balE b, Zmg l plan] → Calls Tryz.prog 56 #[.slice A 2 c'] W (RV W (.int .i64 (cpaE b l plan))) := fun A c' W hr => Zjd [balE b, Zmg l plan] A c' W (by simp [maxLen]) hr
 by_cases hE : cpaE b l plan = 0
 ·obtain ⟨hB0, hE0⟩ := Zmp hE
  obtain ⟨hPL, hl16, hp16, hIL, hNP, hEV⟩ := Zmh hnm hE0
  have hbb := Zmo hB0
  have hm := fun W (hb : Below w.heap.size w W) => Zkc l W (h.below hb) hl16 hPL
  have HFT := Lib.hid (fun W va vp ha hp' => Zme (va := va) (vp := vp) b l plan W ha hp' hPL hIL (hNP.mono (by omega)) (by omega) ⟨by omega, by omega⟩)
  have HS : Hid (cpnE b l plan = fitE b l plan) := by unfold Hid cpnE; rw [if_pos hE]
  rw [HS.out]; rw [hE] at hf2; obtain ⟨N, hN⟩ : ∃ N, fitE b l plan = N := ⟨_, rfl⟩
  rw [hN] at HFT ⊢; obtain ⟨E1, hE1⟩ : ∃ E, balE b = E := ⟨_, rfl⟩
  obtain ⟨E2, hE2⟩ : ∃ E, Zmg l plan = E := ⟨_, rfl⟩
  rw [hE1] at hcb hf2; rw [hE2] at hc hf2; have HP : Hid (SlL w u plan) := hp
  obtain ⟨xs, ⟨A, c, rfl, _, _, _⟩, _⟩ := h; obtain ⟨B, d, rfl, _, _, hr⟩ := hp; obtain ⟨nm, br, bl⟩ := b; unfold sV at hcb HFT ⊢; simp only at hcb HFT
  have hK := Blk.new w 27 #[.string ⟨nm.toArray⟩, .int .i64 br, .int .i64 bl]
  have fhK := hK.facts
  clear hE hE0 hB0 hPL hIL hNP hEV hN HS hE1 hE2 hbb; go_enter Tryz.func15, Tryz.ntmps15
  go_wp2_with fail; refine (hcb _).mono ?_
  rintro e w2 ⟨rfl, hb2⟩; replace hK := hK.below (show Below _ _ w2 by (repeat first|exact J0|assumption|(apply J1;assumption)|apply J2|apply J3|apply J4))
  replace fhK := hK.facts
  go_wp2_with fail; refine (hc _ (by (repeat first|exact J0|assumption|(apply J1;assumption)|apply J2|apply J3|apply J4))).mono ?_
  rintro e w3 ⟨rfl, hb3⟩; replace hK := hK.below (show Below _ _ w3 by (repeat first|exact J0|assumption|(apply J1;assumption)|apply J2|apply J3|apply J4))
  replace fhK := hK.facts
  go_wp2_with fail; go_must (refine (hf2 _ _ _ (Rd.ints2 (by simp) (by go_simp) (by go_simp))).mono ?_)
  rintro e w4 ⟨rfl, hb4⟩; have hK4 := hK.below (show Below _ _ w4 by (repeat first|exact J0|assumption|(apply J1;assumption)|apply J2|apply J3|apply J4))
  have hbw4 : Below w.heap.size w w4 := by (repeat first|exact J0|assumption|(apply J1;assumption)|apply J2|apply J3|apply J4)
  have fK4 := hK4.facts
  clear hcb hc hf2 hb2 hb3 hb4 hK fhK; go_upto_region 4 with fail; refine Z0z [0, 1, 3] [(2, false)] [4, 5] (by kernel_rfl) (by kernel_rfl) (fun d _ _ _ _ h => by cases d <;> exact h) ?_
  simp only [List.map_cons, List.map_nil, List.getD_cons_zero, List.getD_cons_succ]; repeat (go_big_quiet_step (fail))
  refine wpQuiet_nil ?_; refine Z11 rfl (fun K hK => ?_); go_simp; refine (hm _ (by (repeat first|exact J0|assumption|(apply J1;assumption)|apply J2|apply J3|apply J4))).mono ?_
  rintro e w5 ⟨va, rfl, hWa, hb5⟩; refine hK _ _ (by (repeat first|exact J0|assumption|(apply J1;assumption)|apply J2|apply J3|apply J4)) ?_
  clear hK K; have hK4_w5 := hK4.below (show Below _ _ w5 by (repeat first|exact J0|assumption|(apply J1;assumption)|apply J2|apply J3|apply J4))
  have fhK4_w5 := hK4_w5.facts
  obtain ⟨Aa, ca, rfl⟩ := hWa.shape; refine Z10 ?_; go_wp2_with fail; refine (HFT.out _ _ _ hWa (HP.out.below (by (repeat first|exact J0|assumption|(apply J1;assumption)|apply J2|apply J3|apply J4)))).mono ?_
  rintro e w6 ⟨rfl, hb6⟩; go_wp2; go_ret; exact ⟨rfl, by (repeat first|exact J0|assumption|(apply J1;assumption)|apply J2|apply J3|apply J4)⟩
 ·have t0 : (cpaE b l plan != 0) = true := by simp [hE]
  have HS : Hid (cpnE b l plan = cpaE b l plan) := by unfold Hid cpnE; rw [if_neg hE]
  rw [HS.out]; obtain ⟨E, hEE⟩ : ∃ E, cpaE b l plan = E := ⟨_, rfl⟩
  rw [hEE] at hf2 t0 ⊢; obtain ⟨E1, hE1⟩ : ∃ E, balE b = E := ⟨_, rfl⟩
  obtain ⟨E2, hE2⟩ : ∃ E, Zmg l plan = E := ⟨_, rfl⟩
  rw [hE1] at hcb hf2; rw [hE2] at hc hf2; obtain ⟨xs, ⟨A, c, rfl, _, _, _⟩, _⟩ := h; obtain ⟨B, d, rfl, _, _, hr⟩ := hp; obtain ⟨nm, br, bl⟩ := b; unfold sV at hcb ⊢; simp only at hcb
  have hK := Blk.new w 27 #[.string ⟨nm.toArray⟩, .int .i64 br, .int .i64 bl]
  have fhK := hK.facts
  clear hE hEE hE1 hE2 HS; go_enter Tryz.func15, Tryz.ntmps15
  go_wp2_with fail; refine (hcb _).mono ?_
  rintro e w2 ⟨rfl, hb2⟩; replace hK := hK.below (show Below _ _ w2 by (repeat first|exact J0|assumption|(apply J1;assumption)|apply J2|apply J3|apply J4))
  replace fhK := hK.facts
  go_wp2_with fail; refine (hc _ (by (repeat first|exact J0|assumption|(apply J1;assumption)|apply J2|apply J3|apply J4))).mono ?_
  rintro e w3 ⟨rfl, hb3⟩; replace hK := hK.below (show Below _ _ w3 by (repeat first|exact J0|assumption|(apply J1;assumption)|apply J2|apply J3|apply J4))
  replace fhK := hK.facts
  go_wp2_with fail; go_must (refine (hf2 _ _ _ (Rd.ints2 (by simp) (by go_simp) (by go_simp))).mono ?_)
  rintro e w4 ⟨rfl, hb4⟩; go_wp2; go_ret; exact ⟨rfl, by (repeat first|exact J0|assumption|(apply J1;assumption)|apply J2|apply J3|apply J4)⟩
def usF (l : List Pan) (plan : List Plc) (k : Nat) : Int := (plan.take k).foldl (fun m x => m + ((netL (pcP l x)).length : Int)) 0
theorem Zmr (l : List Pan) {plan : List Plc} {k : Nat} (hk : k < plan.length) : usF l plan (k + 1) = usF l plan k + ((netL (pcP l plan[k])).length : Int) := by
 unfold usF
 rw [List.take_succ_eq_append_getElem hk, List.foldl_append]
 rfl
theorem Zms {p : Pan} (h : panE p = 0) (hn : Zbm p = 0) : (netL p).length ≤ 4096 := by
 unfold Zbm at hn
 rw [if_pos h] at hn
 unfold Z15 at hn
 split at hn
 ·cases hn
 ·rename_i hh
  simpa using hh
theorem Zmt {l : List Pan} (h : PieL l) {o : Plc} (ho : InP l o) : (netL (pcP l o)).length ≤ 4096 := by
 obtain ⟨n, t, a⟩ := o
 obtain ⟨k, hk0, hk⟩ := ho.nat
 simp only at hk0
 subst hk0
 rw [Zld hk]
 have hp := h _ (List.getElem_mem hk)
 cases t
 ·exact Zms hp.er hp.nt
 ·exact Zms hp.te hp.tn
theorem Zmu {l : List Pan} (h : PieL l) {plan : List Plc} (hi : InL l plan) (k : Nat) (hk : k ≤ plan.length) : 0 ≤ usF l plan k ∧ usF l plan k ≤ 4096 * (k : Int) := by
 induction k with
 | zero => unfold usF; simp
 | succ k ih =>
  have h1 := ih (by omega)
  rw [Zmr l (by omega : k < plan.length)]
  have h2 := Zmt h (hi _ (List.getElem_mem (by omega : k < plan.length)))
  omega
theorem Zmv {l : List Pan} (h : PieL l) {plan : List Plc} (hi : InL l plan) (hn : Zlh plan 2000000000) : 0 ≤ lenP l plan ∧ lenP l plan ≤ 1000002500 := by
 have := Zm9 h hi hn plan.length (Nat.le_refl _)
 have e : lenP l plan = (moF l plan plan.length + 1) / 2 := by unfold lenP Zis moF; rw [List.take_length]
 omega
theorem Zmw {v u : Value} (b : Bal) (l : List Pan) (plan : List Plc) (w : World) (h : SlP w v l) (hp : SlL w u plan) (hPL : PieL l) (hl16 : l.length ≤ 16) (hp16 : plan.length ≤ 16) (hIL : InL l plan) (hNP : Zlh plan 100000) (hbr : -1000000 ≤ b.2.1 ∧ b.2.1 ≤ 1000000) :
  Calls Tryz.prog 90 #[.agg #[sV b.1, .int .i64 b.2.1, .int .i64 b.2.2], v, u] w (RV w (.tuple #[.int .i64 (Ziv l plan), .int .i64 (2 * lenP l plan * b.2.1)])) := by
 have hm := fun W (hb : Below w.heap.size w W) => Zkc l W (h.below hb) hl16 hPL
 have HLE := Lib.hid (fun W va vp ha hp' => Zma (va := va) (vp := vp) l plan W ha hp' hPL hIL (hNP.mono (by omega)) (by omega))
 have HF := Lib.hid (fun k hk' => Zmu hPL hIL k hk')
 have HS := Lib.hid (fun k hk' => Zmr l (plan := plan) (k := k) hk')
 have HR : Hid (Ziv l plan = usF l plan plan.length) := by unfold Hid Ziv usF; rw [List.take_length]
 have HFW := Lib.hid (fun o (ho : o ∈ plan) => Zmt hPL (hIL o ho))
 have HLN := Lib.hid (Zmv hPL hIL (hNP.mono (by omega)))
 have HI := Lib.hid hIL
 obtain ⟨N, hN⟩ : ∃ N, lenP l plan = N := ⟨_, rfl⟩
 rw [hN] at HLE HLN ⊢
 rw [HR.out]
 have HP : Hid (SlL w u plan) := hp
 obtain ⟨xs, ⟨A, c, rfl, _, _, _⟩, _⟩ := h
 obtain ⟨B, d, rfl, _, _, hr⟩ := hp
 obtain ⟨nm, br, bl⟩ := b
 unfold sV
 simp only at hbr ⊢
 have hK := Blk.new w 27 #[.string ⟨nm.toArray⟩, .int .i64 br, .int .i64 bl]
 have fhK := hK.facts
 clear hPL hIL hNP hN HR
 go_enter Tryz.func90, Tryz.ntmps90
 go_wp2_with fail
 refine (hm _ (by (repeat first|exact J0|assumption|(apply J1;assumption)|apply J2|apply J3|apply J4))).mono ?_
 rintro e w3 ⟨va, rfl, hWa, hb3⟩
 replace hK := hK.below (show Below _ _ w3 by (repeat first|exact J0|assumption|(apply J1;assumption)|apply J2|apply J3|apply J4))
 replace fhK := hK.facts
 obtain ⟨Aa, ca, rfl⟩ := hWa.shape
 have hbw3 : Below w.heap.size w w3 := by (repeat first|exact J0|assumption|(apply J1;assumption)|apply J2|apply J3|apply J4)
 clear hm hb3
 go_wp2
 go_loopw [6, 15] (fun m i wr => ∃ k : Nat, k ≤ plan.length ∧ i = .int .i64 k ∧ m = .int .i64 (usF l plan k) ∧ Below w3.heap.size w3 wr) (fun _ i _ => plan.length - (intOf i).toNat)
 case atStart => exact ⟨0, Nat.zero_le _, rfl, rfl, Z03⟩
 case round =>
  obtain ⟨k, hk, rfl, rfl, hbk⟩ := hrel; obtain ⟨wo, rfl⟩ : ∃ x, x = wr := ⟨_, rfl⟩
  have hbw := Z08 hbk hbw3
  have hfk := HF.out k hk
  by_cases hlt : k < plan.length
  ·obtain ⟨b, off, rfl, hb, c0, c1, c2⟩ := (hr.below hbw).plc hlt
   have ho := HI.out _ (List.getElem_mem hlt)
   have hfw := HFW.out _ (List.getElem_mem hlt)
   have HSk := Lib.hid (HS.out k hlt)
   obtain ⟨⟨n, u, f⟩, hoo⟩ : ∃ o, plan[k] = o := ⟨_, rfl⟩
   rw [hoo] at ho hfw c0 c1 c2 HSk; obtain ⟨ko, hko0, hko⟩ := ho.nat; simp only at c0 c1 c2 hko0
   subst hko0; have hX := Blk.new wo 100 #[.int .i64 ko, .bool u, .int .i64 f]
   have hbx : Below w3.heap.size w3 (wo.alloc (.cells #[.int .i64 ko, .bool u, .int .i64 f] 100)) := Z04 hbk _
   go_upto_region 5 with fail; obtain ⟨wx, hwx⟩ : ∃ X, wo.alloc (.cells #[.int .i64 ko, .bool u, .int .i64 f] 100) = X := ⟨_, rfl⟩
   obtain ⟨gx, hgx⟩ : ∃ X, wo.heap.size = X := ⟨_, rfl⟩
   rw [hwx] at hbx; rw [hwx, hgx] at hX; rw [hwx, hgx]; clear hwx hgx c0 c1 c2 hb; obtain ⟨bA, oA, p0, p5, q0, q5, r0, r5, p1, p2, p6, p7, q1, q2, q6, q7, r2, r7, p3, p4, q3, q4, hAA, hbAx, ⟨e0, e1, e2, e3, e4, e5, e6, e7⟩, hat2, hrr, hnt⟩ := hWa.look hko u f hbx
   subst hAA; obtain ⟨P, hP⟩ : ∃ P, pcP l ((ko : Int), u, f) = P := ⟨_, rfl⟩
   rw [hP] at hat2 HSk hfw; obtain ⟨F, hFF⟩ : ∃ F, usF l plan k = F := ⟨_, rfl⟩
   rw [hFF] at HSk hfk ⊢; obtain ⟨⟨E1, E2⟩, hEE⟩ : ∃ F, Zin P = F := ⟨_, rfl⟩
   rw [hEE] at hat2; simp only at hat2
   have fX := hX.facts
   clear hP hFF hEE hrr hnt; refine Z0z [0, 1, 2, 3, 4, 5, 6] [(7, false), (8, false), (9, false)] [10, 11] (by kernel_rfl) (by kernel_rfl) (fun d _ _ _ _ h => by cases d <;> exact h) ?_
   simp only [List.map_cons, List.map_nil, List.getD_cons_zero, List.getD_cons_succ]; repeat (go_big_quiet_step (fail))
   refine wpQuiet_nil ?_; refine Z11 rfl (fun K hK => ?_); go_simp; refine (hat2 _).mono ?_
   rintro e w7 ⟨rfl, hb7⟩; refine hK _ _ (by (repeat first|exact J0|assumption|(apply J1;assumption)|apply J2|apply J3|apply J4)) ?_
   clear hK K; iterate 2 (refine Z11 rfl (fun K hK => ?_); go_simp; refine hK _ _ (by (repeat first|exact J0|assumption|(apply J1;assumption)|apply J2|apply J3|apply J4)) ?_; clear hK K)
   refine Z10 ?_; have hbx7 : Below w3.heap.size w3 w7 := Z08 (show Below wx.heap.size wx w7 by (repeat first|exact J0|assumption|(apply J1;assumption)|apply J2|apply J3|apply J4)) hbx
   clear hbx hb7 fX hX hat2 e0 e1 e2 e3 e4 e5 e6 e7; go_wp2; go_roundw; case rel => exact ⟨k + 1, by omega, by go_num, by rw [HSk.out], hbx7⟩
   case measure => simp [intOf]; omega
  ·obtain rfl : k = plan.length := by omega
   obtain ⟨F, hFF⟩ : ∃ F, usF l plan plan.length = F := ⟨_, rfl⟩
   rw [hFF] at hfk ⊢; have hKo := hK.below hbk
   have fKo := hKo.facts
   have hln := HLN.out
   have hmul1 : 2 * N * br ≤ 2 * N * 1000000 := Int.mul_le_mul_of_nonneg_left hbr.2 (by omega)
   have hmul2 : 2 * N * (-1000000) ≤ 2 * N * br := Int.mul_le_mul_of_nonneg_left hbr.1 (by omega)
   have hmul : -2000005000000000 ≤ 2 * N * br ∧ 2 * N * br ≤ 2000005000000000 := by omega
   clear hmul1 hmul2; go_upto_region 7 with fail; refine Z0z [0, 1, 2, 5, 6] [(3, false), (4, true), (7, true), (8, false)] [9] (by kernel_rfl) (by kernel_rfl) (fun d _ _ _ _ h => by cases d <;> exact h) ?_
   simp only [List.map_cons, List.map_nil, List.getD_cons_zero, List.getD_cons_succ]; repeat (go_big_quiet_step (fail))
   refine wpQuiet_nil ?_; refine Z11 rfl (fun K hK => ?_); go_simp; refine (HLE.out _ _ _ (hWa.below (Z05 hbk)) (HP.out.below (Z05 hbw))).mono ?_
   rintro e w7 ⟨rfl, hb7⟩; refine hK _ _ (by (repeat first|exact J0|assumption|(apply J1;assumption)|apply J2|apply J3|apply J4)) ?_
   clear hK K; iterate 2 (refine Z14 rfl ?_; intro K hK; go_big_quiet_op; go_big_quiet_on)
   refine Z11 rfl (fun K hK => ?_); go_simp; refine hK _ _ (by (repeat first|exact J0|assumption|(apply J1;assumption)|apply J2|apply J3|apply J4)) ?_
   clear hK K; refine Z10 ?_; have hbw7 : Below w.heap.size w w7 := Z08 hb7 (Z05 hbw)
   go_wp2; refine bodyPost_ret (v := .tuple #[.int .i64 F, .int .i64 (2 * N * br)]) (by simp [results, Tryz.results90, go_sem]) rfl ?_
   exact ⟨by rw [hFF], hbw7⟩
@[go_sem] theorem eqn_none (n c : Nat) (w : World) : (binOp .eql 28 (.slice none n c) (.slice none 0 0)).run Tryz.prog w = .ok (.bool true) w := by kernel_rfl
@[go_sem] theorem eqn_some (a : Addr) (n c : Nat) (w : World) : (binOp .eql 28 (.slice (some a) n c) (.slice none 0 0)).run Tryz.prog w = .ok (.bool false) w := by kernel_rfl
@[go_sem] theorem nen_some (a : Addr) (n c : Nat) (w : World) : (binOp .neq 28 (.slice (some a) n c) (.slice none 0 0)).run Tryz.prog w = .ok (.bool true) w := by kernel_rfl
@[go_sem] theorem nen_none (n c : Nat) (w : World) : (binOp .neq 28 (.slice none n c) (.slice none 0 0)).run Tryz.prog w = .ok (.bool false) w := by kernel_rfl
theorem Zmx {v : Value} (p : List Plc) (w : World) (h : SlL w v p) (hl : p.length ≤ 100000) : Calls Tryz.prog 125 #[v] w (RG plc 3 100 w p) := by
 have h0 := h
 obtain ⟨A, c, rfl, hlc, hcm, hr⟩ := h
 cases A with
 | none =>
  obtain rfl : p = [] := by
   cases p with
   | nil => rfl
   | cons x r => obtain ⟨_, _, e, _⟩ := hr 0 x rfl; cases e
  go_enter Tryz.func125, Tryz.ntmps125
  go_wp2; go_ret; exact ⟨_, rfl, Own.nil_, Z03⟩
 | some a =>
  have hE := Own.empty plc 3 w 100
  have hal : Below w.heap.size w (w.alloc (.cells #[] 100)) := Z04 Z03 _
  have h1 := h0.below hal
  clear h0 hr hlc hcm; go_enter Tryz.func125, Tryz.ntmps125
  go_wp2_with (at_builtin; refine Z3y rfl Zja Zj7 Zj9 _ _ rfl w.heap.size _ _ [] p rfl rfl hE h1 (by simp [maxLen]; omega) (by simp; omega) (by simp) ?_; intro v3 w3 hu3 hgr3)
  have hb3 : Below w.heap.size w w3 := Z09 hgr3 hal (fun j e => (hE.lt j e).1)
  rw [List.nil_append] at hu3; go_wp2; go_ret; exact ⟨_, rfl, hu3, hb3⟩
def Zmy (base : Nat) (w : World) : List SlV → List (List Plc) → Prop
 | [], [] => True
 | t :: ts, L :: Ls => Own plc 3 base 100 w (slV t) L ∧ Zmy base w ts Ls
 | _, _ => False
theorem Zmy.len {base : Nat} {w : World} : ∀ {ts : List SlV} {Ls : List (List Plc)}, Zmy base w ts Ls → ts.length = Ls.length
 | [], [], _ => rfl
 | _ :: _, _ :: _, h => by simp [Zmy.len h.2]
 | [], _ :: _, h => h.elim
 | _ :: _, [], h => h.elim
theorem Zmy.map_ {base base' : Nat} {w w' : World} (hm : ∀ v L, Own plc 3 base 100 w v L → Own plc 3 base' 100 w' v L) : ∀ {ts : List SlV} {Ls : List (List Plc)}, Zmy base w ts Ls → Zmy base' w' ts Ls
 | [], [], _ => trivial
 | _ :: _, _ :: _, h => ⟨hm _ _ h.1, h.2.map_ hm⟩
 | [], _ :: _, h => h.elim
 | _ :: _, [], h => h.elim
theorem Zmy.get {base : Nat} {w : World} : ∀ {ts : List SlV} {Ls : List (List Plc)} {i : Nat}, Zmy base w ts Ls → (hi : i < ts.length) → (hj : i < Ls.length) → Own plc 3 base 100 w (slV ts[i]) Ls[i]
 | _ :: _, _ :: _, 0, h, _, _ => h.1
 | _ :: _, _ :: _, i + 1, h, hi, hj => by
  simp only [List.getElem_cons_succ]; exact h.2.get _ _
 | [], _, _, _, hi, _ => by simp at hi
 | _ :: _, [], _, h, _, _ => h.elim
theorem Zmy.set {base : Nat} {w : World} {t : SlV} {L : List Plc} (ht : Own plc 3 base 100 w (slV t) L) : ∀ {ts : List SlV} {Ls : List (List Plc)} (i : Nat), Zmy base w ts Ls → Zmy base w (ts.set i t) (Ls.set i L)
 | [], [], _, _ => trivial
 | _ :: _, _ :: _, 0, h => ⟨ht, h.2⟩
 | _ :: _, _ :: _, i + 1, h => ⟨h.1, h.2.set ht i⟩
 | [], _ :: _, _, h => h.elim
 | _ :: _, [], _, h => h.elim
theorem Zmy.nils {base : Nat} {w : World} : ∀ n : Nat, Zmy base w (List.replicate n (none, 0, 0)) (List.replicate n [])
 | 0 => trivial
 | n + 1 => ⟨Own.nil_, Zmy.nils n⟩
def PlsR (w : World) : List SlV → List (List Plc) → Prop
 | [], [] => True
 | t :: ts, L :: Ls => SlL w (slV t) L ∧ PlsR w ts Ls
 | _, _ => False
theorem Zmy.read {base : Nat} {w : World} : ∀ {ts : List SlV} {Ls : List (List Plc)}, Zmy base w ts Ls → PlsR w ts Ls
 | [], [], _ => trivial
 | _ :: _, _ :: _, h => ⟨h.1.rd Zj7, h.2.read⟩
 | [], _ :: _, h => h.elim
 | _ :: _, [], h => h.elim
def SlPP (w : World) (v : Value) (ps : List (List Plc)) : Prop := ∃ ts, Sl rc 1 w v ts ∧ PlsR w ts ps
theorem Zmz {l : List Bal} (h : stoE l = 0) : l.length ≤ 16 ∧ ∀ b ∈ l, balE b = 0 := by
  unfold stoE at h; split at h
  · omega
  · have key : ∀ (r done : List Bal), stoG done r = 0 → ∀ b ∈ r, balE b = 0 := by
      intro r; induction r with
      | nil => intro _ _ b hb; cases hb
      | cons q t ih =>
        intro done hg b hb; rw [stoG] at hg; split at hg
        · rename_i h0
          rcases List.mem_cons.1 hb with rfl | hb
          · exact (Z9l h0).1
          · exact ih _ hg b hb
        · rename_i h0
          exact absurd hg h0
    exact ⟨by omega, key l [] h⟩
def paaE (stock : List Bal) (l : List Pan) : Int := Z17 [stoE stock, pieE l]
def pakE (stock : List Bal) (l : List Pan) : Int := if paaE stock l ≠ 0 then paaE stock l else if (Zl0 stock l).isNone then 23 else 0
def pakL (stock : List Bal) (l : List Pan) : List (List Plc) := if pakE stock l = 0 then (Zl0 stock l).getD [] else []
theorem Zn0 (stock : List Bal) (l : List Pan) : ∀ r : List Nat, r.foldl (Zkz stock l) none = none
 | [] => rfl
 | _ :: r => Zn0 stock l r
theorem Zn1 {stock : List Bal} {l : List Pan} {ps : List (List Plc)} {k : Nat} (hk : k < l.length) : ((List.range l.length).drop k).foldl (Zkz stock l) (some ps) = ((List.range l.length).drop (k + 1)).foldl (Zkz stock l) (putB l k stock ps) := by
 rw [List.drop_eq_getElem_cons (by simpa using hk), List.foldl_cons, List.getElem_range]
 rfl
theorem Zn2 {l : List Pan} {i : Nat} {stock : List Bal} {ps : List (List Plc)} {j : Nat} (hj : j < stock.length) (hp : j < ps.length) :
  putB l i (stock.drop j) (ps.drop j) = match onB stock[j] l ps[j] i with | some q => some (q :: ps.drop (j + 1)) | none => (putB l i (stock.drop (j + 1)) (ps.drop (j + 1))).map fun r => ps[j] :: r := by
 rw [List.drop_eq_getElem_cons hj, List.drop_eq_getElem_cons hp, putB] <;> rfl
def PkOk (l : List Pan) (k : Nat) (ps : List (List Plc)) : Prop := ∀ p ∈ ps, InL l p ∧ Zlh p (5000 + 200003 * (k : Int)) ∧ p.length ≤ k
theorem PkOk.cand {l : List Pan} {k : Nat} {p : List Plc} (hP : PieL l) (h : InL l p ∧ Zlh p (5000 + 200003 * (k : Int)) ∧ p.length ≤ k) (hk : k < l.length) (t : Bool) : InL l (Zkx l p k t) ∧ Zlh (Zkx l p k t) (5000 + 200003 * ((k + 1 : Nat) : Int)) ∧ (Zkx l p k t).length ≤ k + 1 := by
 obtain ⟨h1, h2, h3⟩ := h
 have hx : InP l ((k : Int), t, 0) := ⟨by simp only; omega, by simp only; omega⟩
 have hf := Zlj hP hx h1 (by omega : (5000 : Int) ≤ 5000 + 200003 * (k : Int)) h2 p.length (Nat.le_refl _)
 rw [Zlg] at hf
 unfold Zkx
 refine ⟨fun o ho => ?_, fun o ho => ?_, by rw [List.length_append]; simp; exact h3⟩
 ·rcases List.mem_append.1 ho with ho | ho
  ·exact h1 o ho
  ·obtain rfl := List.mem_singleton.1 ho
   exact hx
 ·rcases List.mem_append.1 ho with ho | ho
  ·have := h2 o ho
   push_cast
   omega
  ·obtain rfl := List.mem_singleton.1 ho
   unfold Ziq; simp only
   push_cast
   omega
theorem PkOk.step {l : List Pan} {k : Nat} {ps : List (List Plc)} (h : PkOk l k ps) : PkOk l (k + 1) ps := fun p hp => by
 obtain ⟨h1, h2, h3⟩ := h p hp
 exact ⟨h1, h2.mono (by push_cast; omega), by omega⟩
theorem PkOk.set {l : List Pan} {k : Nat} {ps : List (List Plc)} (h : PkOk l k ps) (j : Nat) {q : List Plc} (hq : InL l q ∧ Zlh q (5000 + 200003 * (k : Int)) ∧ q.length ≤ k) : PkOk l k (ps.set j q) := fun p hp => by
 rcases List.mem_or_eq_of_mem_set hp with hp | rfl
 ·exact h p hp
 ·exact hq
def bstO (b : Bal) (l : List Pan) (p : List Plc) (i : Nat) : Nat → Option (List Plc)
 | 0 => none
 | 1 => if fitE b l (Zkx l p i false) = 0 then some (Zkx l p i false) else none
 | _ => onB b l p i
theorem Zn3 (b : Bal) (l : List Pan) (p : List Plc) (i : Nat) : bstO b l p i 2 = if fitE b l (Zkx l p i true) = 0 ∧ (∀ q, bstO b l p i 1 = some q → lenP l (Zkx l p i true) < lenP l q) then some (Zkx l p i true) else bstO b l p i 1 := by
 show onB b l p i = _
 unfold onB bstO
 by_cases h1 : fitE b l (Zkx l p i true) = 0
 ·by_cases h2 : fitE b l (Zkx l p i false) = 0
  ·by_cases h3 : lenP l (Zkx l p i true) < lenP l (Zkx l p i false)
   ·rw [if_pos ⟨h1, .inr h3⟩, if_pos h2, if_pos ⟨h1, fun q hq => by cases hq; exact h3⟩]
   ·rw [if_neg (fun h => by rcases h.2 with h | h; exact h h2; exact h3 h), if_pos h2, if_neg (fun h => h3 (h.2 _ rfl))]
    rfl
  ·rw [if_pos ⟨h1, .inl h2⟩, if_neg h2, if_pos ⟨h1, fun q hq => by cases hq⟩]
 ·simp only [h1, false_and, if_false]
end Go.Proofs.YtpcgeihemkhkjaaGreatDoor
namespace Go.Proofs.YtpcgeihemkhkjaaGreatDoor
open Go.RowKit Go.ChangeMaps
set_option maxHeartbeats 4000000
set_option maxRecDepth 100000
def upI (n d : Int) : Int := (n + d - 1) / d
def Zn4 (l : List Pan) : Int := (l.map fun p => ((netL p).length : Int)).sum
def widP (p : Pan) : Int := upI ((Zin p).2 - (Zin p).1) 2
def Zn5 (l : List Pan) : Int := l.foldl (fun m p => max m (widP p)) 0
def Zn6 (b : Bal) (l : List Pan) : Int × Int := (upI (Zn4 l) (2 * b.2.1), Zn5 l)
def yldP (u w : Int) : Int × Int := (u / Int.gcd u w, w / Int.gcd u w)
def splS : Str → List Str
 | [] => [[]]
 | c :: r => if c = 32 then [] :: splS r else match splS r with
  | [] => [[c]]
  | w :: ws => (c :: w) :: ws
theorem Zn7 : ∀ {s : Str}, 32 ∉ s → splS s = [s]
 | [], _ => rfl
 | c :: r, h => by
  rw [splS, if_neg (fun e => h (by rw [e]; exact List.mem_cons_self)), Zn7 fun e => h (List.mem_cons_of_mem _ e)]
theorem Zn8 : ∀ {a : Str} (b : Str), 32 ∉ a → splS (a ++ 32 :: b) = a :: splS b
 | [], b, _ => by rw [List.nil_append, splS, if_pos rfl]
 | c :: r, b, h => by
  rw [List.cons_append, splS, if_neg (fun e => h (by rw [e]; exact List.mem_cons_self)), Zn8 b fun e => h (List.mem_cons_of_mem _ e)]
theorem Zn9 {l : Str} {c : UInt8} {k : Nat} (h : Lib.indexByte l c = (k : Int)) : l = l.take k ++ c :: l.drop (k + 1) ∧ c ∉ l.take k := by
 induction l generalizing k with
 | nil => simp [Lib.indexByte] at h
 | cons b r ih =>
  rw [Lib.indexByte] at h; by_cases hb : b = c
  ·subst hb
   rw [if_pos (by simp)] at h
   obtain rfl : k = 0 := by omega
   simp
  ·have hge := Lib.indexByte_ge r c
   rw [if_neg (by simpa using hb)] at h
   split at h
   ·omega
   ·rename_i h1
    have h1' : ¬ Lib.indexByte r c = -1 := by simpa using h1
    obtain ⟨j, hj⟩ : ∃ j : Nat, Lib.indexByte r c = (j : Int) := ⟨(Lib.indexByte r c).toNat, by omega⟩
    obtain rfl : k = j + 1 := by omega
    obtain ⟨e1, e2⟩ := ih hj
    refine ⟨by simpa using e1, ?_⟩
    rw [List.take_succ_cons, List.mem_cons]; rintro (rfl | h2)
    ·exact hb rfl
    ·exact e2 h2
theorem Zna {l : Str} {c : UInt8} (h : Lib.indexByte l c = -1) : c ∉ l := by
 induction l with
 | nil => simp
 | cons b r ih =>
  have hge := Lib.indexByte_ge r c
  rw [Lib.indexByte] at h; by_cases hb : b = c
  ·rw [if_pos (by simpa using hb)] at h; omega
  ·rw [if_neg (by simpa using hb)] at h
   have h1 : Lib.indexByte r c = -1 := by
    split at h
    ·rename_i h2; simpa using h2
    ·omega
   rw [List.mem_cons]; rintro (rfl | h2)
   ·exact hb rfl
   ·exact ih h1 h2
theorem Znb : ∀ (k : Nat) (s : Str), s.count 32 ≤ k → (Lib.splitB ⟨#[32]⟩ 0 k ⟨s.toArray⟩).map (fun b => b.data.toList) = splS s
 | 0, s, h => by
  rw [Lib.splitB_zero, Zn7 (fun hm => by have := List.count_pos_iff.2 hm; omega)]
  rfl
 | k + 1, s, h => by
  have hix : Lib.indexB ⟨s.toArray⟩ ⟨#[32]⟩ = Lib.indexByte s 32 := Lib.index_one s 32
  have hge := Lib.indexByte_ge s 32
  by_cases h1 : Lib.indexByte s 32 = -1
  ·rw [Lib.splitB_miss _ _ _ _ (by rw [hix, h1]), Zn7 (Zna h1)]
   rfl
  ·obtain ⟨j, hj⟩ : ∃ j : Nat, Lib.indexByte s 32 = (j : Int) := ⟨(Lib.indexByte s 32).toNat, by omega⟩
   obtain ⟨e1, e2⟩ := Zn9 hj
   have e3 : splS s = s.take j :: splS (s.drop (j + 1)) := by
    conv => lhs; rw [e1]
    exact Zn8 _ e2
   have hd : (s.drop (j + 1)).count 32 ≤ k := by
    have : s.count 32 = (s.take j).count 32 + ((s.drop (j + 1)).count 32 + 1) := by
     conv => lhs; rw [e1]
     rw [List.count_append, List.count_cons_self]
    omega
   have hx : ({ data := s.toArray } : ByteArray).extract (j + 1) ({ data := s.toArray } : ByteArray).size = ⟨(s.drop (j + 1)).toArray⟩ := by
    rw [ByteArray.extract_mk]; congr 1
    apply Array.ext'
    simp [ByteArray.size]
    rw [List.take_of_length_le (by simp)]
   have ht : (({ data := s.toArray } : ByteArray).extract 0 j).data.toList = s.take j := by
    rw [ByteArray.extract_mk]; simp
   rw [Lib.splitB, if_neg (by rw [hix, hj]; simp), hix, hj, Int.toNat_natCast, List.map_cons, Nat.add_zero, ht, show (⟨#[32]⟩ : ByteArray).size = 1 from rfl, hx, Znb k _ hd, e3]
theorem Znc (s : Str) : Za9 s = splS s := by
 unfold Za9
 exact Znb _ s (by rw [show Lib.countB ⟨s.toArray⟩ ⟨#[32]⟩ = Lib.count s [32] from rfl, Lib.count_one]; exact Nat.le_refl _)
theorem Znd : ∀ {r : Str} (s : Str), 10 ∉ r → Zaf (r ++ 10 :: s) = (r ++ [10]) :: Zaf s
 | [], s, _ => by rw [List.nil_append, Zaf, if_pos rfl]; rfl
 | c :: r, s, h => by
  rw [List.cons_append, Zaf, if_neg (fun e => h (by rw [e]; exact List.mem_cons_self)), Znd s fun e => h (List.mem_cons_of_mem _ e)]
  rfl
attribute [local go_sem] Oper.semAt_some
theorem Blk.setA {W : World} {g g' i : Nat} {t : TypeId} {cs : Array Value} {u : Value} (h : Blk W g t cs) (hne : g ≠ g') : Blk (W.setCell ⟨g', i, none⟩ u) g t cs := (Below.heap_setCell W ⟨g', i, none⟩ u g hne).trans h
theorem Zne {w W : World} {n0 g i : Nat} {u : Value} (hb : Below n0 w W) (h : n0 ≤ g) : Below n0 w (W.setCell ⟨g, i, none⟩ u) :=
 hb.trans ⟨rfl, rfl, rfl, by simp [World.setCell], fun k hk => Below.heap_setCell W ⟨g, i, none⟩ u k (show k ≠ g by omega)⟩
end Go.Proofs.YtpcgeihemkhkjaaGreatDoor
namespace Go.Proofs.YtpcgeihemkhkjaaGreatDoor
open Go.RowKit Go.ChangeMaps
set_option maxHeartbeats 4000000
set_option maxRecDepth 100000
def dirS (t : Bool) : Str := if t then [100, 111, 119, 110] else [117, 112]
def Znf (l : List Pan) (x : Plc) : Str := (l.getD x.1.toNat Zio).1 ++ 32 :: (dirS x.2.1 ++ 32 :: Lib.itoa x.2.2)
def prnB (l : List Pan) (plan : List Plc) : Str := plan.flatMap fun x => Znf l x ++ [10]
def idxS (l : List Pan) (nm : Str) (a : Option Nat) (i : Nat) : Option Nat := if (l.getD i Zio).1 = nm then some i else a
def idxP (l : List Pan) (nm : Str) : Option Nat := (List.range l.length).foldl (idxS l nm) none
def linE (l : List Pan) (W : List Str) (out : List Plc) : Int :=
 if W.length = 3 ∧ W.getD 0 [] ≠ [] ∧ (W.getD 1 [] = dirS false ∨ W.getD 1 [] = dirS true) ∧ (intR (W.getD 2 [])).2 = true then
  Z17 [Z15 (idxP l (W.getD 0 [])).isNone 10, Z15 (out.any fun o => decide (o.1 = (((idxP l (W.getD 0 [])).getD 0 : Nat) : Int))) 9, atE_ (intR (W.getD 2 [])).1]
 else 25
def linP (l : List Pan) (W : List Str) : Plc := ((((idxP l (W.getD 0 [])).getD 0 : Nat) : Int), decide (W.getD 1 [] = dirS true), (intR (W.getD 2 [])).1)
def nlB (x : Str) : Bool := decide (x.getLast? = some 10)
def lnE (l : List Pan) (x : Str) (out : List Plc) : Int := if nlB x = true then linE l (splS x.dropLast) out else 25
def prsL (l : List Pan) : List Str → List Plc → Nat → List Plc × Int × Int
 | [], out, _ => (out, 0, 0)
 | x :: r, out, i => if lnE l x out = 0 then prsL l r (out ++ [linP l (splS x.dropLast)]) (i + 1) else ([], (i : Int), lnE l x out)
def prsB (l : List Pan) (s : Str) : List Plc × Int × Int := prsL l (Zaf s) [] 0
def NmU (l : List Pan) : Prop := (l.map (·.1)).Nodup
theorem Zng {l : List Pan} (h : pieE l = 0) : NmU l ∧ l.length ≤ 16 ∧ ∀ p ∈ l, panE p = 0 := by
 have key : ∀ (r done : List Pan), (done.map (·.1)).Nodup → pieG done r = 0 → ((done ++ r).map (·.1)).Nodup ∧ ∀ p ∈ r, panE p = 0 := by
  intro r; induction r with
  | nil => intro done hd _; rw [List.append_nil]; exact ⟨hd, fun p hp => by cases hp⟩
  | cons q t ih =>
   intro done hd h; rw [pieG] at h; split at h
   ·rename_i hc
    unfold Ziu at hc; simp only [Z17] at hc; split at hc
    ·rename_i h1
     split at hc
     ·rename_i h2
      have ha : agnB done q.1 = false := by
       unfold Z15 at h2; split at h2
       ·omega
       ·rename_i z; simpa using z
      have hd2 : ((done ++ [q]).map (·.1)).Nodup := by
       rw [List.map_append, List.nodup_append]; refine ⟨hd, by simp, fun a ha' b hb e => ?_⟩
       simp only [List.map_cons, List.map_nil, List.mem_singleton] at hb; subst hb; subst e; obtain ⟨z, hz, e⟩ := List.mem_map.1 ha'
       unfold agnB at ha; rw [List.any_eq_false] at ha; exact ha z hz (by rw [e]; simp)
      obtain ⟨k1, k2⟩ := ih (done ++ [q]) hd2 h
      rw [List.append_assoc] at k1; refine ⟨k1, fun p hp => ?_⟩
      rcases List.mem_cons.1 hp with rfl | hp
      ·exact h1
      ·exact k2 p hp
     ·rename_i h2; exact absurd hc h2
    ·rename_i h1; exact absurd hc h1
   ·rename_i hc; exact absurd h hc
 unfold pieE at h
 split at h
 ·cases h
 ·obtain ⟨k1, k2⟩ := key l [] List.nodup_nil h
  exact ⟨k1, by omega, k2⟩
theorem Znh {l : List Pan} {i : Nat} (hi : i < l.length) : l.getD i Zio = l[i] := by rw [List.getD_eq_getElem?_getD, List.getElem?_eq_getElem hi]; rfl
theorem Zni (a : Str) : nlB (a ++ [10]) = true ∧ (a ++ [10]).dropLast = a := by
 unfold nlB
 simp
end Go.Proofs.YtpcgeihemkhkjaaGreatDoor

/- Drawn orders, mirrored pairs, the greatest common divisor, plain. Conditions: the pieces are valid and short. -/
import Derived.Test.YtpcgeihemkhkjaaGreatDoorS30
namespace Go.Proofs.YtpcgeihemkhkjaaGreatDoor
open Go.RowKit Go.ChangeMaps
set_option maxHeartbeats 4000000
set_option maxRecDepth 100000
theorem Zp1 {x y : Int} (hx : 0 ≤ x) (hy : 0 ≤ y) : Int.gcd y (x % y) = Int.gcd x y := by
 obtain ⟨a, rfl⟩ : ∃ a : Nat, x = (a : Int) := ⟨x.toNat, by omega⟩
 obtain ⟨b, rfl⟩ : ∃ b : Nat, y = (b : Int) := ⟨y.toNat, by omega⟩
 rw [← Int.natCast_emod, Int.gcd_natCast_natCast, Int.gcd_natCast_natCast, Nat.gcd_comm a b, Nat.gcd_comm b, ← Nat.gcd_rec]
theorem Zp2 {x : Int} (hx : 0 ≤ x) : (Int.gcd x 0 : Int) = x := by
 rw [Int.gcd_zero_right]
 omega
attribute [local go_sem] Oper.semAt_some
def wstP (b : Bal) (l : List Pan) (plan : List Plc) : Int := 2 * lenP l plan * b.2.1 - Ziv l plan
theorem Zp3 (l : List Pan) (plan : List Plc) : Ziv l plan = usF l plan plan.length := by unfold Ziv usF; rw [List.take_length]
theorem Zp4 {l : List Pan} (h : PieL l) {plan : List Plc} (hi : InL l plan) (hp : plan.length ≤ 16) : 0 ≤ Ziv l plan ∧ Ziv l plan ≤ 65536 := by
 rw [Zp3]
 have := Zmu h hi plan.length (Nat.le_refl _)
 omega
theorem Zp5 {l : List Pan} (h : PieL l) {plan : List Plc} (hi : InL l plan) (hn : Zlh plan 2000000000) {r : Int} (hr : 1 ≤ r ∧ r ≤ 256) : 0 ≤ 2 * lenP l plan * r ∧ 2 * lenP l plan * r ≤ 600000000000 := by
 have h1 := Zmv h hi hn
 have a : 2 * lenP l plan * r ≤ 2 * lenP l plan * 256 := Int.mul_le_mul_of_nonneg_left hr.2 (by omega)
 have b : 2 * lenP l plan * 1 ≤ 2 * lenP l plan * r := Int.mul_le_mul_of_nonneg_left hr.1 (by omega)
 omega
theorem Zp6 {b : Bal} {l : List Pan} {plan : List Plc} (h : cpnE b l plan = 0) : balE b = 0 ∧ Zmg l plan = 0 ∧ fitE b l plan = 0 := by
 unfold cpnE at h
 split at h
 ·rename_i h0
  exact ⟨(Zmp h0).1, (Zmp h0).2, h⟩
 ·rename_i h0
  exact absurd h h0
theorem Zp7 {v u : Value} (b : Bal) (l : List Pan) (plan : List Plc) (w : World) (hbn : b.1.length ≤ 1000000) (h : SlP w v l) (hp : SlL w u plan) (hnm : ∀ p ∈ l, p.1.length ≤ 1000000) (hll : l.length ≤ 100000) (hpl : plan.length ≤ 100000) :
  Calls Tryz.prog 33 #[.agg #[sV b.1, .int .i64 b.2.1, .int .i64 b.2.2], v, u] w (RV w (.tuple #[.int .i64 (Zfc (cpnE b l plan) (wstP b l plan)), .int .i64 (cpnE b l plan)])) := by
 have hc := fun W (hb : Below w.heap.size w W) => Zmq b l plan W hbn (h.below hb) (hp.below hb) hnm hll hpl
 by_cases hE : cpnE b l plan = 0
 ·obtain ⟨hB0, hE0, _⟩ := Zp6 hE
  obtain ⟨hPL, hl16, hp16, hIL, hNP, hEV⟩ := Zmh hnm hE0
  have hbb := Zmo hB0
  have hbr := fun W (hb : Below w.heap.size w W) => Zmw b l plan W (h.below hb) (hp.below hb) hPL hl16 hp16 hIL hNP ⟨by omega, by omega⟩
  have hu := Zp4 hPL hIL hp16
  have hw := Zp5 hPL hIL (hNP.mono (by omega : (100000 : Int) ≤ 2000000000)) hbb.1
  have HS : Hid (Zfc (cpnE b l plan) (wstP b l plan) = 2 * lenP l plan * b.2.1 - Ziv l plan) := by unfold Hid Zfc; rw [if_pos hE]; rfl
  rw [HS.out, hE]; rw [hE] at hc; obtain ⟨W2, hW2⟩ : ∃ z, 2 * lenP l plan * b.2.1 = z := ⟨_, rfl⟩
  obtain ⟨U2, hU2⟩ : ∃ z, Ziv l plan = z := ⟨_, rfl⟩
  rw [hW2] at hbr hw ⊢; rw [hU2] at hbr hu ⊢; obtain ⟨xs, ⟨A, c, rfl, _, _, _⟩, _⟩ := h; obtain ⟨B, d, rfl, _, _, hr⟩ := hp; obtain ⟨nm, br, bl⟩ := b; unfold sV at hc hbr ⊢; simp only at hc hbr
  have hK := Blk.new w 27 #[.string ⟨nm.toArray⟩, .int .i64 br, .int .i64 bl]
  have fhK := hK.facts
  clear hE hE0 hB0 hPL hIL hNP hEV hW2 hU2 HS hbb; go_enter Tryz.func33, Tryz.ntmps33
  go_wp2_with fail; refine (hc _ (by (repeat first|exact J0|assumption|(apply J1;assumption)|apply J2|apply J3|apply J4))).mono ?_
  rintro e w2 ⟨rfl, hb2⟩; replace hK := hK.below (show Below _ _ w2 by (repeat first|exact J0|assumption|(apply J1;assumption)|apply J2|apply J3|apply J4))
  replace fhK := hK.facts
  go_wp2_with fail; refine (hbr _ (by (repeat first|exact J0|assumption|(apply J1;assumption)|apply J2|apply J3|apply J4))).mono ?_
  rintro e w3 ⟨rfl, hb3⟩; go_wp2; refine bodyPost_ret (v := .tuple #[.int .i64 (W2 - U2), .int .i64 0]) (by simp [results, Tryz.results33, go_sem]) rfl ?_
  exact ⟨rfl, by (repeat first|exact J0|assumption|(apply J1;assumption)|apply J2|apply J3|apply J4)⟩
 ·have t0 : (cpnE b l plan != 0) = true := by simp [hE]
  have HS : Hid (Zfc (cpnE b l plan) (wstP b l plan) = 0) := by unfold Hid Zfc; rw [if_neg hE]
  rw [HS.out]; obtain ⟨E, hEE⟩ : ∃ E, cpnE b l plan = E := ⟨_, rfl⟩
  rw [hEE] at hc t0 ⊢; obtain ⟨xs, ⟨A, c, rfl, _, _, _⟩, _⟩ := h; obtain ⟨B, d, rfl, _, _, hr⟩ := hp; obtain ⟨nm, br, bl⟩ := b; unfold sV at hc ⊢; simp only at hc
  have hK := Blk.new w 27 #[.string ⟨nm.toArray⟩, .int .i64 br, .int .i64 bl]
  have fhK := hK.facts
  clear hE hEE HS; go_enter Tryz.func33, Tryz.ntmps33
  go_wp2_with fail; refine (hc _ (by (repeat first|exact J0|assumption|(apply J1;assumption)|apply J2|apply J3|apply J4))).mono ?_
  rintro e w2 ⟨rfl, hb2⟩; replace hK := hK.below (show Below _ _ w2 by (repeat first|exact J0|assumption|(apply J1;assumption)|apply J2|apply J3|apply J4))
  replace fhK := hK.facts
  go_wp2; refine bodyPost_ret (v := .tuple #[.int .i64 0, .int .i64 E]) (by simp [results, Tryz.results33, go_sem]) rfl ?_
  exact ⟨rfl, by (repeat first|exact J0|assumption|(apply J1;assumption)|apply J2|apply J3|apply J4)⟩
def lftE (b : Bal) (l : List Pan) (plan : List Plc) : Int := if cpnE b l plan = 0 then (if lenP l plan = b.2.2 then 20 else 0) else cpnE b l plan
def lftR (b : Bal) (l : List Pan) (plan : List Plc) : Bal := if lftE b l plan = 0 then (b.1, b.2.1, b.2.2 - lenP l plan) else ([], 0, 0)
theorem Zp8 {v u : Value} (b : Bal) (l : List Pan) (plan : List Plc) (w : World) (hbn : b.1.length ≤ 1000000) (h : SlP w v l) (hp : SlL w u plan) (hnm : ∀ p ∈ l, p.1.length ≤ 1000000) (hll : l.length ≤ 100000) (hpl : plan.length ≤ 100000) :
  Calls Tryz.prog 35 #[.agg #[sV b.1, .int .i64 b.2.1, .int .i64 b.2.2], v, u] w (RV w (.tuple #[.agg #[sV (lftR b l plan).1, .int .i64 (lftR b l plan).2.1, .int .i64 (lftR b l plan).2.2], .int .i64 (lftE b l plan)])) := by
 have hc := fun W (hb : Below w.heap.size w W) => Zmq b l plan W hbn (h.below hb) (hp.below hb) hnm hll hpl
 have hle := fun W (hb : Below w.heap.size w W) => Zmn l plan W (h.below hb) (hp.below hb) hnm hll hpl
 by_cases hE : cpnE b l plan = 0
 ·obtain ⟨hB0, hE0, _⟩ := Zp6 hE
  obtain ⟨hPL, hl16, hp16, hIL, hNP, hEV⟩ := Zmh hnm hE0
  have hbb := Zmo hB0
  have hnn := Zmv hPL hIL (hNP.mono (by omega : (100000 : Int) ≤ 2000000000))
  rw [hE0, show Zfc 0 (lenP l plan) = lenP l plan from rfl] at hle
  have HE1 : Hid (lftE b l plan = if lenP l plan = b.2.2 then 20 else 0) := by unfold Hid lftE; rw [if_pos hE]
  have HR1 : Hid (lftR b l plan = if lftE b l plan = 0 then (b.1, b.2.1, b.2.2 - lenP l plan) else ([], 0, 0)) := rfl
  rw [hE] at hc; obtain ⟨N, hN⟩ : ∃ z, lenP l plan = z := ⟨_, rfl⟩
  rw [hN] at hle hnn HE1 HR1; obtain ⟨LE, hLE⟩ : ∃ z, lftE b l plan = z := ⟨_, rfl⟩
  obtain ⟨LR, hLR⟩ : ∃ z, lftR b l plan = z := ⟨_, rfl⟩
  rw [hLE] at HE1 HR1 ⊢; rw [hLR] at HR1 ⊢; obtain ⟨xs, ⟨A, c, rfl, _, _, _⟩, _⟩ := h; obtain ⟨B, d, rfl, _, _, hr⟩ := hp; obtain ⟨nm, br, bl⟩ := b; simp only at HE1 HR1 hbb
  unfold sV at hc ⊢; simp only at hc ⊢
  have hK := (Blk.new w 27 #[.string ⟨nm.toArray⟩, .int .i64 br, .int .i64 bl]).alloc (.cells #[.string ⟨#[]⟩, .int .i64 0, .int .i64 0] 27)
  have hZ := Blk.new1 w (.cells #[.string ⟨nm.toArray⟩, .int .i64 br, .int .i64 bl] 27) 27 #[.string ⟨#[]⟩, .int .i64 0, .int .i64 0]
  have fhK := hK.facts
  clear hE hE0 hB0 hPL hIL hNP hEV hN hLE hLR; by_cases hq : N = bl
  ·obtain rfl : LE = 20 := by rw [HE1.out, if_pos hq]
   obtain rfl : LR = ([], 0, 0) := by rw [HR1.out]; rfl
   have r1 : (N == bl) = true := by simp [hq]
   clear hq; go_enter Tryz.func35, Tryz.ntmps35
   go_wp2_with fail; refine (hc _ (by (repeat first|exact J0|assumption|(apply J1;assumption)|apply J2|apply J3|apply J4))).mono ?_
   rintro e w2 ⟨rfl, hb2⟩; replace hK := hK.below (show Below _ _ w2 by (repeat first|exact J0|assumption|(apply J1;assumption)|apply J2|apply J3|apply J4))
   replace fhK := hK.facts
   replace hZ := hZ.below (show Below _ _ w2 by (repeat first|exact J0|assumption|(apply J1;assumption)|apply J2|apply J3|apply J4))
   replace fhZ := hZ.facts
   go_wp2_with fail; refine (hle _ (by (repeat first|exact J0|assumption|(apply J1;assumption)|apply J2|apply J3|apply J4))).mono ?_
   rintro e w3 ⟨rfl, hb3⟩; replace hK := hK.below (show Below _ _ w3 by (repeat first|exact J0|assumption|(apply J1;assumption)|apply J2|apply J3|apply J4))
   replace fhK := hK.facts
   replace hZ := hZ.below (show Below _ _ w3 by (repeat first|exact J0|assumption|(apply J1;assumption)|apply J2|apply J3|apply J4))
   replace fhZ := hZ.facts
   go_wp2_with (refine Z4n hZ rfl _ _ _ rfl rfl rfl (by rfl) (by kernel_rfl) (by kernel_rfl) ?_; intro w12 hZ12 hc12; have f12 := hZ12.facts)
   refine bodyPost_ret (v := .tuple #[.agg #[.string ⟨#[]⟩, .int .i64 0, .int .i64 0], .int .i64 20]) (by simp [results, Tryz.results35, go_sem, f12]) rfl ?_
   exact ⟨rfl, Z9f (by (repeat first|exact J0|assumption|(apply J1;assumption)|apply J2|apply J3|apply J4)) hc12 (by omega)⟩
  ·obtain rfl : LE = 0 := by rw [HE1.out, if_neg hq]
   obtain rfl : LR = (nm, br, bl - N) := by rw [HR1.out]; rfl
   have r1 : (N == bl) = false := by simp [hq]
   clear hq; go_enter Tryz.func35, Tryz.ntmps35
   go_wp2_with fail; refine (hc _ (by (repeat first|exact J0|assumption|(apply J1;assumption)|apply J2|apply J3|apply J4))).mono ?_
   rintro e w2 ⟨rfl, hb2⟩; replace hK := hK.below (show Below _ _ w2 by (repeat first|exact J0|assumption|(apply J1;assumption)|apply J2|apply J3|apply J4))
   replace fhK := hK.facts
   replace hZ := hZ.below (show Below _ _ w2 by (repeat first|exact J0|assumption|(apply J1;assumption)|apply J2|apply J3|apply J4))
   replace fhZ := hZ.facts
   go_wp2_with fail; refine (hle _ (by (repeat first|exact J0|assumption|(apply J1;assumption)|apply J2|apply J3|apply J4))).mono ?_
   rintro e w3 ⟨rfl, hb3⟩; replace hK := hK.below (show Below _ _ w3 by (repeat first|exact J0|assumption|(apply J1;assumption)|apply J2|apply J3|apply J4))
   replace fhK := hK.facts
   replace hZ := hZ.below (show Below _ _ w3 by (repeat first|exact J0|assumption|(apply J1;assumption)|apply J2|apply J3|apply J4))
   replace fhZ := hZ.facts
   have hbw3 : Below w.heap.size w w3 := by (repeat first|exact J0|assumption|(apply J1;assumption)|apply J2|apply J3|apply J4)
   have hK4 := hK.set_ 2 (.int .i64 (bl - N))
   have hZ4 := hZ.far (p := ⟨w.heap.size, 2, none⟩) (by simp) (.int .i64 (bl - N))
   have hbw4 : Below w.heap.size w (w3.setCell ⟨w.heap.size, 2, none⟩ (.int .i64 (bl - N))) := Z07 hbw3 (by simp) _
   have fK4 := hK4.facts
   go_wp2_with (refine Z4n hZ4 rfl _ _ _ rfl rfl rfl (by rfl) (by kernel_rfl) (by kernel_rfl) ?_; intro w12 hZ12 hc12; have f12 := hZ12.facts)
   refine bodyPost_ret (v := .tuple #[.agg #[.string ⟨nm.toArray⟩, .int .i64 br, .int .i64 (bl - N)], .int .i64 0]) (by simp [results, Tryz.results35, go_sem, f12]) rfl ?_
   exact ⟨rfl, Z9f hbw4 hc12 (by omega)⟩
 ·have t0 : (cpnE b l plan != 0) = true := by simp [hE]
  have HE1 : Hid (lftE b l plan = cpnE b l plan) := by unfold Hid lftE; rw [if_neg hE]
  have HR1 : Hid (lftR b l plan = ([], 0, 0)) := by unfold Hid lftR; rw [HE1.out, if_neg hE]
  rw [HE1.out, HR1.out]; obtain ⟨E, hEE⟩ : ∃ E, cpnE b l plan = E := ⟨_, rfl⟩
  rw [hEE] at hc t0 ⊢; obtain ⟨xs, ⟨A, c, rfl, _, _, _⟩, _⟩ := h; obtain ⟨B, d, rfl, _, _, hr⟩ := hp; obtain ⟨nm, br, bl⟩ := b; unfold sV at hc ⊢; simp only at hc
  have hK := (Blk.new w 27 #[.string ⟨nm.toArray⟩, .int .i64 br, .int .i64 bl]).alloc (.cells #[.string ⟨#[]⟩, .int .i64 0, .int .i64 0] 27)
  have hZ := Blk.new1 w (.cells #[.string ⟨nm.toArray⟩, .int .i64 br, .int .i64 bl] 27) 27 #[.string ⟨#[]⟩, .int .i64 0, .int .i64 0]
  have fhK := hK.facts
  clear hE hEE HE1 HR1; go_enter Tryz.func35, Tryz.ntmps35
  go_wp2_with fail; refine (hc _ (by (repeat first|exact J0|assumption|(apply J1;assumption)|apply J2|apply J3|apply J4))).mono ?_
  rintro e w2 ⟨rfl, hb2⟩; replace hK := hK.below (show Below _ _ w2 by (repeat first|exact J0|assumption|(apply J1;assumption)|apply J2|apply J3|apply J4))
  replace fhK := hK.facts
  replace hZ := hZ.below (show Below _ _ w2 by (repeat first|exact J0|assumption|(apply J1;assumption)|apply J2|apply J3|apply J4))
  replace fhZ := hZ.facts
  go_wp2_with (refine Z4n hZ rfl _ _ _ rfl rfl rfl (by rfl) (by kernel_rfl) (by kernel_rfl) ?_; intro w12 hZ12 hc12; have f12 := hZ12.facts)
  refine bodyPost_ret (v := .tuple #[.agg #[.string ⟨#[]⟩, .int .i64 0, .int .i64 0], .int .i64 E]) (by simp [results, Tryz.results35, go_sem, f12]) rfl ?_
  exact ⟨rfl, Z9f (by (repeat first|exact J0|assumption|(apply J1;assumption)|apply J2|apply J3|apply J4)) hc12 (by omega)⟩
def yldE (b : Bal) (l : List Pan) (plan : List Plc) : Int := Z17 [cpnE b l plan, Z15 (decide (plan.length = 0)) 12]
theorem Zp9 {l : List Pan} (h : PieL l) {plan : List Plc} (hi : InL l plan) (h0 : plan.length ≠ 0) : 1 ≤ Ziv l plan := by
 rw [Zp3]
 obtain ⟨k, hk⟩ : ∃ k, plan.length = k + 1 := ⟨plan.length - 1, by omega⟩
 have hk2 : k < plan.length := by omega
 rw [hk, Zmr l hk2]
 have h1 := Zmu h hi k (by omega)
 have hg : panE (pcP l plan[k]) = 0 := by
  have ho := hi _ (List.getElem_mem hk2)
  obtain ⟨⟨n, t, a⟩, hq⟩ : ∃ q, plan[k] = q := ⟨_, rfl⟩
  rw [hq] at ho ⊢; obtain ⟨j, hj0, hj⟩ := ho.nat; simp only at hj0
  subst hj0; rw [Zld hj]; have hp := h _ (List.getElem_mem hj)
  cases t
  ·exact hp.er
  ·exact hp.te
 obtain ⟨x, hx, _⟩ := Zdj (Zaw hg) 0 (Zlc hg).pos
 have := List.length_pos_of_mem hx
 omega
theorem Zpa {v u : Value} (b : Bal) (l : List Pan) (plan : List Plc) (w : World) (hbn : b.1.length ≤ 1000000) (h : SlP w v l) (hp : SlL w u plan) (hnm : ∀ p ∈ l, p.1.length ≤ 1000000) (hll : l.length ≤ 100000) (hpl : plan.length ≤ 100000) :
  Calls Tryz.prog 34 #[.agg #[sV b.1, .int .i64 b.2.1, .int .i64 b.2.2], v, u] w (RV w (.tuple #[.agg #[.int .i64 (Zfc (yldE b l plan) (yldP (Ziv l plan) (2 * lenP l plan * b.2.1)).1), .int .i64 (Zfc (yldE b l plan) (yldP (Ziv l plan) (2 * lenP l plan * b.2.1)).2)], .int .i64 (yldE b l plan)])) := by
 have hc := fun W (hb : Below w.heap.size w W) => Zmq b l plan W hbn (h.below hb) (hp.below hb) hnm hll hpl
 have hf2 : ∀ A c' W, Rd ic 1 W A [cpnE b l plan, Z15 (decide (plan.length = 0)) 12] → Calls Tryz.prog 56 #[.slice A 2 c'] W (RV W (.int .i64 (yldE b l plan))) := fun A c' W hr => Zjd [cpnE b l plan, Z15 (decide (plan.length = 0)) 12] A c' W (by simp [maxLen]) hr
 have hdl : ((plan.length : Int) == 0) = decide (plan.length = 0) := by
  by_cases h : plan.length = 0
  ·simp [h]
  ·simp [h]
 by_cases hE : yldE b l plan = 0
 ·obtain ⟨hE1, hE2⟩ : cpnE b l plan = 0 ∧ Z15 (decide (plan.length = 0)) 12 = 0 := Z9l hE
  have hne : plan.length ≠ 0 := by
   intro e; rw [decide_eq_true e] at hE2; cases hE2
  obtain ⟨hB0, hE0, _⟩ := Zp6 hE1
  obtain ⟨hPL, hl16, hp16, hIL, hNP, hEV⟩ := Zmh hnm hE0
  have hbb := Zmo hB0
  have hbr := fun W (hb : Below w.heap.size w W) => Zmw b l plan W (h.below hb) (hp.below hb) hPL hl16 hp16 hIL hNP ⟨by omega, by omega⟩
  have hu := Zp4 hPL hIL hp16
  have hu1 := Zp9 hPL hIL hne
  have hw := Zp5 hPL hIL (hNP.mono (by omega : (100000 : Int) ≤ 2000000000)) hbb.1
  rw [hE] at hf2 ⊢; rw [hE1] at hc hf2; rw [decide_eq_false hne] at hf2 hdl; obtain ⟨W2, hW2⟩ : ∃ z, 2 * lenP l plan * b.2.1 = z := ⟨_, rfl⟩
  obtain ⟨U2, hU2⟩ : ∃ z, Ziv l plan = z := ⟨_, rfl⟩
  rw [hW2] at hbr hw ⊢; rw [hU2] at hbr hu hu1 ⊢; have HY : Hid (∀ g : Int, g = ((Int.gcd U2 W2 : Nat) : Int) → Zfc 0 (yldP U2 W2).1 = U2 / g ∧ Zfc 0 (yldP U2 W2).2 = W2 / g) := fun g hg => by subst hg; exact ⟨rfl, rfl⟩
  obtain ⟨Y1, hY1⟩ : ∃ z, Zfc 0 (yldP U2 W2).1 = z := ⟨_, rfl⟩
  obtain ⟨Y2, hY2⟩ : ∃ z, Zfc 0 (yldP U2 W2).2 = z := ⟨_, rfl⟩
  rw [hY1, hY2] at HY; rw [hY1, hY2]; obtain ⟨xs, ⟨A, c, rfl, _, _, _⟩, _⟩ := h; obtain ⟨B, d, rfl, _, _, hr⟩ := hp; obtain ⟨nm, br, bl⟩ := b; unfold sV at hc hbr ⊢; simp only at hc hbr
  have hK := (Blk.new w 27 #[.string ⟨nm.toArray⟩, .int .i64 br, .int .i64 bl]).alloc (.cells #[.int .i64 0, .int .i64 0] 70)
  have hZ := Blk.new1 w (.cells #[.string ⟨nm.toArray⟩, .int .i64 br, .int .i64 bl] 27) 70 #[.int .i64 0, .int .i64 0]
  have fhK := hK.facts
  clear hE hE0 hE1 hE2 hB0 hPL hIL hNP hEV hW2 hU2 hbb hne hY1 hY2; go_enter Tryz.func34, Tryz.ntmps34
  go_wp2_with fail; refine (hc _ (by (repeat first|exact J0|assumption|(apply J1;assumption)|apply J2|apply J3|apply J4))).mono ?_
  rintro e w2 ⟨rfl, hb2⟩; replace hK := hK.below (show Below _ _ w2 by (repeat first|exact J0|assumption|(apply J1;assumption)|apply J2|apply J3|apply J4))
  replace fhK := hK.facts
  replace hZ := hZ.below (show Below _ _ w2 by (repeat first|exact J0|assumption|(apply J1;assumption)|apply J2|apply J3|apply J4))
  replace fhZ := hZ.facts
  go_wp2_with fail; refine (Zjb _ 12 _).mono ?_
  rintro e w3 ⟨rfl, hb3⟩; replace hK := hK.below (show Below _ _ w3 by (repeat first|exact J0|assumption|(apply J1;assumption)|apply J2|apply J3|apply J4))
  replace fhK := hK.facts
  replace hZ := hZ.below (show Below _ _ w3 by (repeat first|exact J0|assumption|(apply J1;assumption)|apply J2|apply J3|apply J4))
  replace fhZ := hZ.facts
  go_wp2_with fail; go_must (refine (hf2 _ _ _ (Rd.ints2 (by simp) (by go_simp) (by go_simp))).mono ?_)
  rintro e w4 ⟨rfl, hb4⟩; have hK4 := hK.below (show Below _ _ w4 by (repeat first|exact J0|assumption|(apply J1;assumption)|apply J2|apply J3|apply J4))
  have hZ4 := hZ.below (show Below _ _ w4 by (repeat first|exact J0|assumption|(apply J1;assumption)|apply J2|apply J3|apply J4))
  have hbw4 : Below w.heap.size w w4 := by (repeat first|exact J0|assumption|(apply J1;assumption)|apply J2|apply J3|apply J4)
  have fK4 := hK4.facts
  clear hc hf2 hb2 hb3 hb4 hK hZ fhK fhZ; go_wp2_with fail; refine (hbr _ hbw4).mono ?_
  rintro e w5 ⟨rfl, hb5⟩; have hZ5 := hZ4.below hb5
  have hbw5 := Z08 hb5 hbw4
  clear hbr hb5 hK4 hZ4 fK4 hbw4; go_wp2; go_loopw [11, 12] (fun s11 s12 wr => ∃ x y : Int, s11 = .int .i64 x ∧ s12 = .int .i64 y ∧ (0 ≤ x ∧ x ≤ 600000000000) ∧ (0 ≤ y ∧ y ≤ 600000000000) ∧ (0 < x ∨ 0 < y) ∧ Hid (Int.gcd x y = Int.gcd U2 W2) ∧ Below w5.heap.size w5 wr) (fun _ s12 _ => (intOf s12).toNat)
  case atStart => exact ⟨U2, W2, rfl, rfl, by omega, by omega, .inl (by omega), rfl, Z03⟩
  case round =>
   obtain ⟨x, y, rfl, rfl, hx, hy, hpos, HG, hbk⟩ := hrel; obtain ⟨wo, rfl⟩ : ∃ x, x = wr := ⟨_, rfl⟩
   by_cases hq : y = 0
   ·have hx0 : 0 < x := by omega
    have HXG : Hid (x = ((Int.gcd U2 W2 : Nat) : Int)) := by unfold Hid; rw [← HG.out, hq, Zp2 (by omega)]
    have r1 : (y != 0) = false := by simp [hq]
    have r2 : (x == 0) = false := by simp; omega
    obtain ⟨h1, h2⟩ := HY.out x HXG.out
    have H1 := Lib.hid h1
    have H2 := Lib.hid h2
    have hZo := hZ5.below hbk
    have hbw := Z08 hbk hbw5
    clear hq h1 h2 hpos hy; have hZd := hZo.below (show Below _ _ wo.drew from Z05 Z03)
    have hxb : -9223372036854775808 ≤ U2 / x ∧ U2 / x ≤ 9223372036854775807 := by
     have a1 := Int.ediv_nonneg hu.1 hx.1
     have a2 := Int.ediv_le_self x hu.1
     omega
    have hwb : -9223372036854775808 ≤ W2 / x ∧ W2 / x ≤ 9223372036854775807 := by
     have a1 := Int.ediv_nonneg hw.1 hx.1
     have a2 := Int.ediv_le_self x hw.1
     omega
    have hq1 : U2.tdiv x = U2 / x := Int.tdiv_eq_ediv_of_nonneg hu.1
    have hq2 : W2.tdiv x = W2 / x := Int.tdiv_eq_ediv_of_nonneg hw.1
    go_upto_region 8 with fail; refine Z0z [0, 1, 2, 3, 4, 5, 6] [] [7, 8] (by kernel_rfl) (by kernel_rfl) (fun d _ _ _ _ h => by cases d <;> exact h) ?_
    simp only [List.map_cons, List.map_nil, List.getD_cons_zero, List.getD_cons_succ]; repeat (go_big_quiet_step (fail))
    refine wpQuiet_nil ?_; refine Z10 ?_; go_wp2_with (refine Z4n hZd rfl _ _ _ rfl rfl rfl (by rfl) (by kernel_rfl) (by kernel_rfl) ?_; intro w12 hZ12 hc12; have f12 := hZ12.facts)
    refine bodyPost_ret (v := .tuple #[.agg #[.int .i64 (U2 / x), .int .i64 (W2 / x)], .int .i64 0]) (by simp [results, Tryz.results34, go_sem, f12]) rfl ?_
    exact ⟨by rw [H1.out, H2.out], Z9f (Z05 hbw) hc12 (by omega)⟩
   ·have r1 : (y != 0) = true := by simp [hq]
    have hy0 : 0 < y := by omega
    have HGN : Hid (Int.gcd y (x % y) = Int.gcd U2 W2) := by unfold Hid; rw [Zp1 (by omega) (by omega)]; exact HG.out
    have hm1 : 0 ≤ x % y := Int.emod_nonneg _ (by omega)
    have hm2 : x % y < y := Int.emod_lt_of_pos _ hy0
    have hmod : x.tmod y = x % y := Int.tmod_eq_emod_of_nonneg (by omega)
    clear hq; go_wp2; refine Z0z [0, 1, 2, 3, 4, 5] [] [] (by kernel_rfl) (by kernel_rfl) (fun d _ _ _ _ h => by cases d <;> exact h) ?_
    simp only [List.map_cons, List.map_nil, List.getD_cons_zero, List.getD_cons_succ]; repeat (go_big_quiet_step (fail))
    refine wpQuiet_nil ?_; refine Z10 ?_; go_wp2; go_roundw; case rel => exact ⟨y, x % y, rfl, rfl, by omega, by omega, .inl hy0, HGN, by (repeat first|exact J0|assumption|(apply J1;assumption)|apply J2|apply J3|apply J4)⟩
    case measure => simp [intOf]; omega
 ·have t0 : (yldE b l plan != 0) = true := by simp [hE]
  have H1 : Hid (∀ z, Zfc (yldE b l plan) z = 0) := fun z => by unfold Zfc; rw [if_neg hE]
  rw [H1.out, H1.out]; obtain ⟨E, hEE⟩ : ∃ E, yldE b l plan = E := ⟨_, rfl⟩
  rw [hEE] at hf2 t0 ⊢; obtain ⟨E1, hE1⟩ : ∃ E, cpnE b l plan = E := ⟨_, rfl⟩
  rw [hE1] at hc hf2; obtain ⟨q, hq⟩ : ∃ E, decide (plan.length = 0) = E := ⟨_, rfl⟩
  rw [hq] at hf2 hdl; obtain ⟨xs, ⟨A, c, rfl, _, _, _⟩, _⟩ := h; obtain ⟨B, d, rfl, _, _, hr⟩ := hp; obtain ⟨nm, br, bl⟩ := b; unfold sV at hc ⊢; simp only at hc
  have hK := (Blk.new w 27 #[.string ⟨nm.toArray⟩, .int .i64 br, .int .i64 bl]).alloc (.cells #[.int .i64 0, .int .i64 0] 70)
  have hZ := Blk.new1 w (.cells #[.string ⟨nm.toArray⟩, .int .i64 br, .int .i64 bl] 27) 70 #[.int .i64 0, .int .i64 0]
  have fhK := hK.facts
  clear hE hEE hE1 hq H1; go_enter Tryz.func34, Tryz.ntmps34
  go_wp2_with fail; refine (hc _ (by (repeat first|exact J0|assumption|(apply J1;assumption)|apply J2|apply J3|apply J4))).mono ?_
  rintro e w2 ⟨rfl, hb2⟩; replace hK := hK.below (show Below _ _ w2 by (repeat first|exact J0|assumption|(apply J1;assumption)|apply J2|apply J3|apply J4))
  replace fhK := hK.facts
  replace hZ := hZ.below (show Below _ _ w2 by (repeat first|exact J0|assumption|(apply J1;assumption)|apply J2|apply J3|apply J4))
  replace fhZ := hZ.facts
  go_wp2_with fail; refine (Zjb _ 12 _).mono ?_
  rintro e w3 ⟨rfl, hb3⟩; replace hK := hK.below (show Below _ _ w3 by (repeat first|exact J0|assumption|(apply J1;assumption)|apply J2|apply J3|apply J4))
  replace fhK := hK.facts
  replace hZ := hZ.below (show Below _ _ w3 by (repeat first|exact J0|assumption|(apply J1;assumption)|apply J2|apply J3|apply J4))
  replace fhZ := hZ.facts
  go_wp2_with fail; go_must (refine (hf2 _ _ _ (Rd.ints2 (by simp) (by go_simp) (by go_simp))).mono ?_)
  rintro e w4 ⟨rfl, hb4⟩; have hZ4 := hZ.below (show Below _ _ w4 by (repeat first|exact J0|assumption|(apply J1;assumption)|apply J2|apply J3|apply J4))
  have hbw4 : Below w.heap.size w w4 := by (repeat first|exact J0|assumption|(apply J1;assumption)|apply J2|apply J3|apply J4)
  go_wp2_with (refine Z4n hZ4 rfl _ _ _ rfl rfl rfl (by rfl) (by kernel_rfl) (by kernel_rfl) ?_; intro w12 hZ12 hc12; have f12 := hZ12.facts)
  refine bodyPost_ret (v := .tuple #[.agg #[.int .i64 0, .int .i64 0], .int .i64 E]) (by simp [results, Tryz.results34, go_sem, f12]) rfl ?_
  exact ⟨rfl, Z9f hbw4 hc12 (by omega)⟩
end Go.Proofs.YtpcgeihemkhkjaaGreatDoor
